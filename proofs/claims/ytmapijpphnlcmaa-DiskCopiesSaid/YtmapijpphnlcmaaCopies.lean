/- DiskCopies: Read returns new memory, and Append keeps no reference to its argument. No condition. -/
import Derived.Test.YtmapijpphnlcmaaOpen
namespace Go.Proofs.Ytmapijpphnlcmaa
open Go.RowKit Go.Maps


theorem Own.head {w : World} {e : TypeId} {v : Value} {n : Nat} {xs : List Value} (h : Own w e 1 v n xs) (hn : 0 < n) : ∃ g cap cur, v = .slice (some ⟨g, 0, none⟩) n cap ∧ n ≤ cap ∧ Blk w g e cur ∧ OwnB v g ∧ ∀ i, i < n → cur[i]? = xs[i]? := by
  rcases h.2 with ⟨_, h0⟩ | ⟨g, cap, cur, rfl, hb, hnc, hcm, hcs, hx⟩
  · omega
  · refine ⟨g, cap, cur, rfl, hnc, hb, by simp [OwnB, Value.ownBlock], fun i hi => ?_⟩
    rw [← hx, List.getElem?_take, if_pos (by omega)]
    simp

theorem copies_small {w : World} {v : Value} {bs : List UInt8} (hb : RdB (Ab w) w v bs) (h : 2000 < bs.length ∨ bs.length = 0) : Calls Try.prog 4 #[v] w fun e w' => e = .returned (.bool true) ∧ Upd (Ab w) w w' := by
  obtain ⟨A, c, rfl, hn, hc, _⟩ := hb.now
  clear hb
  generalize bs.length = n at *
  rcases h with h | h
  · have q1 : decide ((2000 : Int) < (n : Int)) = true := by simp; omega
    go_enter Try.func4, Try.ntmps4
    go_wp2_with fail
    refine (awake30 w).mono ?_
    rintro e w1 ⟨rfl, hu⟩
    have U := Lib.hid hu
    clear hu
    go_wp2_with fail
    go_ret
    exact ⟨rfl, U.out.mono (fun _ _ h => h.elim)⟩
  · subst h
    go_enter Try.func4, Try.ntmps4
    go_wp2_with fail
    refine (awake30 w).mono ?_
    rintro e w1 ⟨rfl, hu⟩
    have U := Lib.hid hu
    clear hu
    go_wp2_with fail
    go_ret
    exact ⟨rfl, U.out.mono (fun _ _ h => h.elim)⟩

set_option maxRecDepth 100000 in
set_option maxHeartbeats 2000000 in
theorem copies_in {w : World} {v : Value} {bs : List UInt8} (hb : RdB (Ab w) w v bs) (h1 : 0 < bs.length) (h2 : bs.length ≤ 2000) : Calls Try.prog 4 #[v] w fun e w' => e = .returned (.bool true) ∧ Upd (Ab w) w w' := by
  obtain ⟨A, c, rfl, hn, hc, _⟩ := hb.now
  have HB := Lib.hid hb
  have q1 : decide ((2000 : Int) < (bs.length : Int)) = false := by simp; omega
  have q2 : ((bs.length : Int) == 0) = false := beq_eq_false_iff_ne.2 (by omega)
  obtain ⟨i0, hi, hz0, hz1, hz2⟩ := info_parts byte_info
  have hmax := Lib.hid (show 0 + bs.length ≤ maxLen by unfold maxLen; omega)
  have hmul := Lib.hid (show (0 + bs.length) * 1 ≤ 140737488355328 by omega)
  obtain ⟨b0, hb0⟩ : ∃ b0, bs[0]? = some b0 := ⟨_, List.getElem?_eq_getElem h1⟩
  have HB0 := Lib.hid hb0
  have hbits : bits BinOp.xor IntKind.u8 (b0.toNat : Int) 255 = ((b0 ^^^ 255).toNat : Int) := xor255 b0
  clear hb hn hc hb0
  go_enter Try.func4, Try.ntmps4
  go_wp2_with fail
  refine (new_dk w).mono ?_
  rintro e w1 ⟨rfl, hd1⟩
  have D1 := Lib.hid hd1
  clear hd1
  have U1 := Lib.hid (show Upd (Ab w) w (w1.alloc (.cells #[] 5)) from (D1.out.out.mono (fun _ _ h => h.elim)).alloc _)
  go_wp2_with (at_builtin; refine wpList_append_to _ rfl _ _ 27 rfl 5 i0 (.int .u8 0) 1 1 Try.underlying27 hi hz0 hz1 hz2 rfl (.slice (some ⟨w1.heap.size, 0, none⟩) 0 0) 0 [] rfl ⟨by simp, .inr ⟨w1.heap.size, 0, #[], rfl, Blk.new w1 _ _, Nat.le_refl _, Nat.zero_le _, Nat.zero_le _, rfl⟩⟩ (.slice A bs.length c) bs.length (bs.map byteV) rfl (HB.out _ U1.out) (bytes_oneCell bs) hmax.out hmul.out ?_; intro A2 c2 w2 hown2 hupd2 hnew2; simp only [Nat.zero_add, List.nil_append] at hown2 hnew2; have O2 := Lib.hid hown2; have UU2 := Lib.hid hupd2; have N2 := Lib.hid hnew2; clear hown2 hupd2 hnew2)
  obtain ⟨F1, hd1, hF1⟩ := D1.out.now
  obtain ⟨g2, cap2, cur2, hv2, hnc2, hblk2, hob2, hcur2⟩ := O2.out.head h1
  injection hv2 with hA2 _ hc2
  subst hA2 hc2
  have hg2 : w1.heap.size ≤ g2 := by
    rcases N2.out g2 hob2 with e | e
    · simp [OwnB, Value.ownBlock] at e; omega
    · simp at e; omega
  have hgl : g2 < w2.heap.size := hblk2.lt
  have U2 := Lib.hid (U1.out.ab UU2.out (fun k hk => by simp [OwnB, Value.ownBlock] at hk; have := D1.out.size; omega))
  have hu12 : Upd NoF w1 w2 := ((Upd.refl NoF w1).alloc _).trans UU2.out (fun k hk h => by simp [OwnB, Value.ownBlock] at h; omega)
  have hd2 : DiskAt w2 (w.heap.size + 1) sNew F1 := hd1.upd hu12 (fun _ _ h => h)
  have hF1g : ¬ F1 g2 := fun h => by have := (hF1 g2 h).2; omega
  have hF1w : ∀ k, F1 k → w.heap.size ≤ k := fun k hk => (hF1 k hk).1.resolve_left (fun h => h)
  have A2 := Lib.hid (append_spec hd2 [97] (by decide) (.slice (some ⟨g2, 0, none⟩) bs.length c2) bs (O2.out.rdF (fun k hk => by simp [OwnB, Value.ownBlock] at hk; subst hk; exact hF1g)) (by simp [sNew, getF]; omega) (by decide))
  have hsp : sAppend sNew [97] bs = (0, ⟨[([97], ⟨bs, 0⟩)], false, false, 0⟩) := by simp [sAppend, sNew, getF, withFile, insF, setF, wrS, wrB, wrL]
  have SP := Lib.hid hsp
  have HF1w := Lib.hid hF1w
  have HF1g := Lib.hid hF1g
  have hblk := Lib.hid hblk2
  have hx0 : cur2[0]? = some (byteV b0) := by rw [hcur2 0 h1, List.getElem?_map, HB0.out]; rfl
  have HX0 := Lib.hid hx0
  have hcp2 : (1 : Int) ≤ bs.length := by omega
  clear hd1 hF1 hblk2 hob2 hcur2 hu12 hd2 hF1g hF1w hsp hx0
  refine A2.out.mono ?_
  rw [SP.out]
  rintro e w3 ⟨rfl, F3, hd3, hu3, hF3⟩
  have hb3 : Blk w3 g2 5 cur2 := hu3.blk hblk.out HF1g.out
  have x1 : w3.cell? ⟨g2, 0, none⟩ = some (byteV b0) := by rw [hb3.cell]; exact HX0.out
  have x2 : w3.frozen? ⟨g2, 0, none⟩ = false := hb3.frozen 0
  have hF3g : ¬ F3 g2 := fun h => by
    rcases hF3 g2 h with e | e
    · exact HF1g.out e
    · omega
  have hu4 : Upd (fun k => k = g2) w3 (w3.setCell ⟨g2, 0, none⟩ (byteV (b0 ^^^ 255))) := (Upd.refl (fun k => k = g2) w3).setCell (p := ⟨g2, 0, none⟩) (.inl rfl) _
  have U4 := Lib.hid ((U2.out.ab hu3 HF1w.out).ab hu4 (fun k hk => by subst hk; have := D1.out.size; omega))
  have hd4 : DiskAt (w3.setCell ⟨g2, 0, none⟩ (byteV (b0 ^^^ 255))) (w.heap.size + 1) ⟨[([97], ⟨bs, 0⟩)], false, false, 0⟩ F3 := hd3.upd hu4 (fun k hk e => hF3g (e ▸ hk))
  have hF3w : ∀ k, F3 k → w.heap.size ≤ k := fun k hk => by
    rcases hF3 k hk with e | e
    · exact HF1w.out k e
    · have := U2.out.size; omega
  have D4 := Lib.hid hd4
  have HF3w := Lib.hid hF3w
  have hsr : sRead ⟨[([97], ⟨bs, 0⟩)], false, false, 0⟩ [97] = (bs, 0) := by simp [sRead, getF]
  have SR := Lib.hid hsr
  clear hd3 hu3 hF3 hb3 hF3g hu4 hd4 hF3w hsr
  go_wp2_with fail
  refine (read_spec D4.out [97] (by decide)).mono ?_
  rw [SR.out]
  rintro e w5 ⟨A5, c5, rfl, hn5⟩
  have U5 := Lib.hid (U4.out.ab hn5.2.2 (fun k hk => hk.elim))
  have hstr1 : (convert 27 9 (.slice A5 bs.length c5)).run Try.prog w5 = .ok (strV bs) w5 := run_str hn5.1.rd
  have hstr2 : (convert 27 9 (.slice A bs.length c)).run Try.prog w5 = .ok (strV bs) w5 := run_str (HB.out _ U5.out)
  obtain ⟨g5, cap5, cur5, hv5, hnc5, hblk5, hob5, hcur5⟩ := hn5.1.head h1
  injection hv5 with hA5 _ hc5
  subst hA5 hc5
  have hg5 := hn5.2.1 g5 hob5
  have y1 : w5.cell? ⟨g5, 0, none⟩ = some (byteV b0) := by rw [hblk5.cell, hcur5 0 h1, List.getElem?_map, HB0.out]; rfl
  have y2 : w5.frozen? ⟨g5, 0, none⟩ = false := hblk5.frozen 0
  have hu6 : Upd (fun k => k = g5) w5 (w5.setCell ⟨g5, 0, none⟩ (byteV (b0 ^^^ 255))) := (Upd.refl (fun k => k = g5) w5).setCell (p := ⟨g5, 0, none⟩) (.inl rfl) _
  have hd6 : DiskAt (w5.setCell ⟨g5, 0, none⟩ (byteV (b0 ^^^ 255))) (w.heap.size + 1) ⟨[([97], ⟨bs, 0⟩)], false, false, 0⟩ F3 := (D4.out.upd hn5.2.2 (fun _ _ h => h)).upd hu6 (fun k hk e => by have := D4.out.lt hk; omega)
  have U6 := Lib.hid (U5.out.ab hu6 (fun k hk => by subst hk; have := U4.out.size; omega))
  have D6 := Lib.hid hd6
  clear hn5 hblk5 hob5 hcur5 hu6 hd6 x1 x2
  go_wp2_with fail
  refine (read_spec D6.out [97] (by decide)).mono ?_
  rw [SR.out]
  rintro e w7 ⟨A7, c7, rfl, hn7⟩
  have U7 := Lib.hid (U6.out.ab hn7.2.2 (fun k hk => hk.elim))
  have hstr3 : (convert 27 9 (.slice A7 bs.length c7)).run Try.prog w7 = .ok (strV bs) w7 := run_str hn7.1.rd
  have hstr4 : (convert 27 9 (.slice A bs.length c)).run Try.prog w7 = .ok (strV bs) w7 := run_str (HB.out _ U7.out)
  clear hn7 y1 y2 hstr1 hstr2
  go_wp2_with fail
  refine (awake30 w7).mono ?_
  rintro e w8 ⟨rfl, hu8⟩
  have U8 := Lib.hid (U7.out.ab hu8 (fun k hk => hk.elim))
  clear hu8
  go_wp2_with fail
  go_ret
  exact ⟨rfl, U8.out⟩
end Go.Proofs.Ytmapijpphnlcmaa
