/- The reference disk: Append on a new file. No condition. -/
import Derived.Test.YtmapijpphnlcmaaRef8
import Derived.BigRegion
namespace Go.Proofs.Ytmapijpphnlcmaa
open Go.RowKit Go.Maps

section
variable {w w' : World} {m : Nat} {off armed : Bool} {left : Nat} {lv : Value} {R : List RRec}

theorem insRR_mem {r x : RRec} : ∀ {R : List RRec}, x ∈ insRR r R → x = r ∨ x ∈ R
  | [], h => by simp [insRR] at h; exact .inl h
  | y :: R, h => by
    simp only [insRR] at h
    split at h
    · simpa using h
    · rcases List.mem_cons.1 h with h | h
      · exact .inr (by simp [h])
      · rcases insRR_mem h with h | h
        · exact .inl h
        · exact .inr (List.mem_cons_of_mem _ h)
theorem insRR_len {r : RRec} : ∀ (R : List RRec), (insRR r R).length = R.length + 1
  | [] => rfl
  | y :: R => by
    simp only [insRR]
    split
    · simp
    · simp [insRR_len R]

set_option maxRecDepth 100000 in
set_option maxHeartbeats 4000000 in
theorem rappend_new (h : RefL w m false armed left lv R) (nm : List UInt8) (hn : nm.isEmpty = false) (hno : idxR R nm = -1) (hnew : ∀ x ∈ R, x.nm ≠ nm) (hnum1 : R.length + 1 ≤ 1099511627776) (i : Nat) (hi : idxR (insRR ⟨nm, .slice none 0 0, [], 0⟩ R) nm = i) (hr : (insRR ⟨nm, .slice none 0 0, [], 0⟩ R)[i]? = some ⟨nm, .slice none 0 0, [], 0⟩) (v : Value) (b : List UInt8) (hb : RdB (fun k => k = m) w v b) (hlb0 : b.length ≤ 1099511627776) :
    Calls Try.prog 35 #[ptrV m, strV nm, v] w (RAppPost w m armed left lv R (((insRR ⟨nm, .slice none 0 0, [], 0⟩ R).map absRR).set i (nm, ⟨b, 0⟩))) := by
  have c3 : w.cell? ⟨m, 3, none⟩ = some (.bool false) := h.head.cell 3
  have FI := find_any h nm
  rw [hno] at FI
  have HF := Lib.hid FI
  have PU := Lib.hid (put_any h ⟨nm, .slice none 0 0, [], 0⟩ (Own.nil _ _ _) (by simp) hnew hnum1)
  have R1L := insRR_len (r := ⟨nm, .slice none 0 0, [], 0⟩) R
  have hf0 : ∀ k, (∃ x ∈ insRR ⟨nm, .slice none 0 0, [], 0⟩ R, OwnB x.cv k) → refFoot m lv R k := by
    rintro k ⟨x, hx, hk⟩
    rcases insRR_mem hx with rfl | hx
    · simp [OwnB, Value.ownBlock] at hk
    · exact .inr (.inr ⟨x, hx, hk⟩)
  have F0 := Lib.hid hf0
  clear hf0
  obtain ⟨R1, hR1⟩ : ∃ R1, R1 = insRR ⟨nm, .slice none 0 0, [], 0⟩ R := ⟨_, rfl⟩
  rw [← hR1] at hi hr R1L PU F0 ⊢
  obtain ⟨r, hrr⟩ : ∃ r : RRec, r = ⟨nm, .slice none 0 0, [], 0⟩ := ⟨_, rfl⟩
  rw [← hrr] at hr
  have hcvf : r.cv = .slice none r.c.length 0 := by rw [hrr]; rfl
  have hlb : r.c.length + b.length ≤ 1099511627776 := by rw [hrr]; simpa using hlb0
  rw [show (nm, (⟨b, 0⟩ : FSt)) = (r.nm, ⟨r.c ++ b, r.dur⟩) by rw [hrr]; rfl]
  have HI := Lib.hid hi
  have HR := Lib.hid hr
  have HB := Lib.hid hb
  have HCV := Lib.hid hcvf
  have HRR := Lib.hid hrr
  have hil : i < R1.length := (List.getElem?_eq_some_iff.1 hr).1
  obtain ⟨Av, hAv⟩ : ∃ Av : Option Addr, Av = none := ⟨_, rfl⟩
  obtain ⟨cv, hcv⟩ : ∃ cv : Nat, cv = 0 := ⟨_, rfl⟩
  rw [← hAv, ← hcv] at HCV
  obtain ⟨i0, hi0, hz0, hz1, hz2⟩ := info_parts file_info
  obtain ⟨i1, hi1, hy0, hy1, hy2⟩ := info_parts byte_info
  have hmz0 := h.head.lt
  have t1 : decide ((i : Int) < 0) = false := by simp
  have t2 : (0:Int) ≤ i := by omega
  have t3 : (i:Int) < R1.length := by omega
  obtain ⟨Ab, cb, rfl, -⟩ := hb.now
  have hnumR : R1.length ≤ 1099511627776 := by omega
  clear h FI hi hr hcvf hb hrr hR1 hAv hcv hno hnew R1L hnum1
  go_enter Try.func35, Try.ntmps35
  go_wp2_with (first
    | (go_at_call 64; refine PU.out.mono ?_; rintro e w2 ⟨rfl, lv2, hd2, hu2, hn2⟩; obtain ⟨A, c, hlv, hnc, hc, _⟩ := hd2.form; subst hlv; have F2 := Lib.hid (show ∀ k, refFoot m (.slice A R1.length c) R1 k → refFoot m lv R k ∨ w.heap.size ≤ k from fun k hk => by { rcases hk with hk | hk | hk; exact .inl (.inl hk); exact .inr (hn2 k hk); exact .inl (F0.out k hk) }); have d0 := hd2.head.cell 0; have hmz := hd2.head.lt; have FI2 := find_any hd2 nm; rw [HI.out] at FI2; have HF2 := Lib.hid FI2; have D2 := Lib.hid hd2; have U2 := Lib.hid hu2; clear hd2 hu2 hn2 FI2)
    | (go_at_call 54; first | (refine HF2.out.mono ?_; rintro e w' ⟨rfl, rfl⟩) | (refine HF.out.mono ?_; rintro e w' ⟨rfl, rfl⟩))
    | (at_builtin; refine wpList_append_new _ rfl (.tmp 26) (.tmp 30) 41 rfl 89 i0 _ 3 48 Try.underlying41 hi0 hz0 hz1 hz2 rfl (.slice (some ⟨w2.heap.size, 0, none⟩) 0 0) rfl (Own.fresh w2 _ _) (.slice A R1.length c) R1.length (cellsR R1) rfl (D2.out.list.upd ((Upd.refl NoF w2).alloc _) (fun _ _ h => h)).rd (cellsR_one D2.out.cont) (by unfold maxLen; omega) (by omega) ?_; intro A1 c1 w3 hown1 hupd1 hnew1; have hU3 : Upd NoF w2 w3 := ((Upd.refl NoF w2).alloc _).trans hupd1 (fun k hk e => by simp [OwnB, Value.ownBlock] at e; omega); have hN : ∀ k, OwnB (.slice A1 R1.length c1) k → w2.heap.size ≤ k := (fun k hk => by rcases hnew1 k hk with e | e; (simp [OwnB, Value.ownBlock] at e; omega); (simp at e; omega)); have D3 := Lib.hid (RefL.copied D2.out hU3 hown1 hN); have x0 := (hU3.blk D2.out.head (fun h => h)).cell 0; have x1 := (hU3.blk D2.out.head (fun h => h)).frozen 0; have U3 := Lib.hid hU3; have N3 := Lib.hid hN; clear hown1 hupd1 hnew1 hU3 hN))
  obtain ⟨w4, hw4⟩ : ∃ w4, w4 = w3.setCell ⟨m, 0, none⟩ (.slice A1 R1.length c1) := ⟨_, rfl⟩
  rw [← hw4] at D3 ⊢
  have W4 := Lib.hid hw4
  clear hw4 x0 x1
  obtain ⟨g, hA, -, hnc1, hc1, hgm, hgo, y0, y1, y2, z1, z2⟩ := D3.out.at_ HR.out
  subst hA
  rw [HCV.out] at y1
  have y3 := D3.out.head.cell 0
  have hmz4 := D3.out.head.lt
  have hgz4 := D3.out.list.lt hgo
  have hcvo := D3.out.cont r (List.mem_of_getElem? HR.out)
  rw [HCV.out] at hcvo
  have K0 := Lib.hid (show ∀ w1, Upd NoF w4 w1 → w1.cell? ⟨m, 0, none⟩ = some (.slice (some ⟨g, 0, none⟩) R1.length c1) ∧ w1.cell? ⟨g, i * 3 + 1, none⟩ = some (.slice Av r.c.length cv) ∧ w1.frozen? ⟨g, i * 3 + 1, none⟩ = false from fun w1 hU => by
    have D := D3.out.upd hU (fun _ _ h => h)
    obtain ⟨g', e', -, -, -, -, -, -, q1, -, q2, -⟩ := D.at_ HR.out
    injection e' with e'
    injection e' with e' _
    subst e'
    rw [HCV.out] at q1
    exact ⟨D.head.cell 0, q1, q2⟩)
  have UU1 := Lib.hid (show ∀ w1, Upd (OwnB (.slice (some ⟨w4.heap.size, 0, none⟩) 0 0)) (w4.alloc (.cells #[] 5)).drew w1 → Upd NoF w4 w1 from fun w1 hu => (((Upd.refl NoF w4).alloc _).drew).trans hu (fun k hk e => by simp [OwnB, Value.ownBlock] at e; omega))
  have UU2 := Lib.hid (show ∀ w1 w6 A n c2, Upd (OwnB (.slice (some ⟨w4.heap.size, 0, none⟩) 0 0)) (w4.alloc (.cells #[] 5)).drew w1 → (∀ k, OwnB (.slice A n c2) k → OwnB (.slice (some ⟨w4.heap.size, 0, none⟩) 0 0) k ∨ (w4.alloc (.cells #[] 5)).drew.heap.size ≤ k) → Upd (OwnB (.slice A n c2)) w1 w6 → Upd NoF w4 w6 from fun w1 w6 A n c2 hu hnew h6 => (UU1.out w1 hu).trans h6 (fun k hk e => by
    rcases hnew k e with e | e
    · simp [OwnB, Value.ownBlock] at e; omega
    · simp at e; omega))
  have A1 := Lib.hid (show Own (w4.alloc (.cells #[] 5)).drew 5 1 (.slice (some ⟨w4.heap.size, 0, none⟩) 0 0) 0 [] from ⟨by simp, .inr ⟨w4.heap.size, 0, #[], rfl, (Blk.new w4 _ _).drew, Nat.le_refl _, Nat.zero_le _, Nat.zero_le _, rfl⟩⟩)
  have A2 := Lib.hid ((hcvo.upd (((Upd.refl NoF w4).alloc (.cells #[] 5)).drew) (fun _ _ h => h)).rd)
  have A3 := Lib.hid (show ∀ bs : List UInt8, ∀ u ∈ bs.map byteV, u.oneCell' = true from fun bs u hu => by
    obtain ⟨x, _, rfl⟩ := List.mem_map.1 hu
    rfl)
  have A4 := Lib.hid (show r.c.length ≤ maxLen by unfold maxLen; omega)
  have A5 := Lib.hid (show r.c.length * 1 ≤ 140737488355328 by omega)
  have B4 := Lib.hid (show r.c.length + b.length ≤ maxLen by unfold maxLen; omega)
  have B5 := Lib.hid (show (r.c.length + b.length) * 1 ≤ 140737488355328 by omega)
  have VB := Lib.hid (show ∀ w1, Upd NoF w4 w1 → Rd w1 1 (.slice Ab b.length cb) b.length (b.map byteV) from fun w1 hU => HB.out w1 ((show Upd (fun k => k = m) w w4 by
    rw [W4.out]
    exact (U2.out.trans U3.out (fun _ _ h => h.elim)).setCell (p := ⟨m, 0, none⟩) (.inl rfl) _).trans hU (fun _ _ h => h.elim)))
  have FIN := Lib.hid (show ∀ w6 A c2, Upd NoF w4 w6 → Own w6 5 1 (.slice A (r.c.length + b.length) c2) (r.c.length + b.length) (r.c.map byteV ++ b.map byteV) →
      RefL (w6.setCell ⟨g, i * 3 + 1, none⟩ (.slice A (r.c.length + b.length) c2)) m false armed left (.slice (some ⟨g, 0, none⟩) R1.length c1) (R1.set i { r with cv := .slice A (r.c.length + b.length) c2, c := r.c ++ b }) from fun w6 A c2 hU ho => by
    have := (D3.out.upd hU (fun _ _ h => h)).setCont HR.out (.slice A (r.c.length + b.length) c2) (r.c ++ b) (by simpa using ho) (by simpa using hlb)
    exact this)
  clear hcvo y0 y2 z2
  go_region_law
    (first
      | (refine step_append_new _ (by rfl) (.tmp 39) (.tmp 47) _ (by rfl) 5 i1 _ 1 1 Try.underlying27 hi1 hy0 hy1 hy2 rfl (.slice (some ⟨w4.heap.size, 0, none⟩) 0 0) (by rfl) (by exact A1.out) (.slice Av r.c.length cv) r.c.length (r.c.map byteV) (by rfl) (by exact A2.out) (A3.out _) A4.out A5.out ?_; intro A c2 w1 hown1 hupd1 hnew1; obtain ⟨kp1, kp2, kf1⟩ := K0.out w1 (UU1.out w1 hupd1); have O1 := Lib.hid hown1; have U1 := Lib.hid hupd1; have N1 := Lib.hid hnew1; clear hown1 hupd1 hnew1)
      | (refine step_append_to _ (by rfl) (.tmp 48) (.tmp 49) _ (by rfl) 5 i1 _ 1 1 Try.underlying27 hi1 hy0 hy1 hy2 rfl (.slice A r.c.length c2) r.c.length (r.c.map byteV) (by rfl) O1.out (.slice Ab b.length cb) b.length (b.map byteV) (by rfl) (VB.out w1 (UU1.out w1 U1.out)) (A3.out _) B4.out B5.out ?_; intro A' c3 w6 hown2 hupd2 hnew2; obtain ⟨kq1, kq2, kg1⟩ := K0.out w6 (UU2.out w1 w6 A _ c2 U1.out N1.out hupd2); have O6 := Lib.hid hown2; have U6 := Lib.hid hupd2; have N6 := Lib.hid hnew2; clear hown2 hupd2 hnew2))
  all_goals
    have D5 := Lib.hid (FIN.out w6 A' c3 (UU2.out w1 w6 A _ c2 U1.out N1.out U6.out) O6.out)
    obtain ⟨w5, hw5⟩ : ∃ w5, w5 = w6.setCell ⟨g, i * 3 + 1, none⟩ (.slice A' (r.c.length + b.length) c3) := ⟨_, rfl⟩
    rw [← hw5] at D5 ⊢
    have W5 := Lib.hid hw5
    have FA := fails_any D5.out
    clear hw5 kp1 kp2 kf1 kq1 kq2 kg1 y1 y3 z1
    cases hwb : wrB armed left
    · rw [hwb] at FA
      have HA := Lib.hid FA
      have WB := Lib.hid hwb
      clear FA hwb
      go_wp2_with (go_at_call 65; refine HA.out.mono ?_; rintro e w7 ⟨rfl, hd7, hu7⟩; have D7 := Lib.hid hd7; have U7 := Lib.hid hu7; clear hd7 hu7)
      go_ret
      unfold RAppPost
      rw [WB.out]
      exact rapp_end HR.out U2.out F2.out U3.out N3.out hgo W4.out U1.out N1.out U6.out N6.out W5.out D7.out U7.out
    · rw [hwb] at FA
      have HA := Lib.hid FA
      have WB := Lib.hid hwb
      clear FA hwb
      go_wp2_with (go_at_call 65; refine HA.out.mono ?_; rintro e w7 ⟨rfl, hd7, hu7⟩; have D7 := Lib.hid hd7; have U7 := Lib.hid hu7; clear hd7 hu7)
      go_ret
      unfold RAppPost
      rw [WB.out]
      exact rapp_end HR.out U2.out F2.out U3.out N3.out hgo W4.out U1.out N1.out U6.out N6.out W5.out D7.out U7.out
end
end Go.Proofs.Ytmapijpphnlcmaa
