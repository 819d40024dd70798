/- cmp.Compare, cmp.Or, the order of names. No condition. items.CompareNames: what it returns; only new blocks, and draws. No condition. slices.SortFunc of names. Conditions: sizes. cmp.Or of three, the order of cells. No condition. -/
import Derived.Test.YtengcmfdfmnacaaGreatJn10
import Derived.Test.YtengcmfdfmnacaaGreatJn8
import Derived.Test.YtengcmfdfmnacaaGreatJn6
import Derived.Test.YtengcmfdfmnacaaGreatJn2
import Derived.Deep.LoopGhost
import Derived.Sort.Grow
import Derived.Test.YtengcmfdfmnacaaGreatJn1
import Derived.Test.YtengcmfdfmnacaaGreatLay5
namespace Go.Proofs.YtengcmfdfmnacaaGreat
section
open Go.RowKit

theorem isNaNInt_no (x : Int) (w : World) : Calls Tryz.prog 222 #[.int .i64 x] w fun e w' => e = .returned (.bool false) ∧ w' = w := by
  go_enter Tryz.func222, Tryz.ntmps222
  go_wp2
  go_ret
  exact ⟨rfl, rfl⟩

theorem isNaNU64_no (x : Int) (w : World) : Calls Tryz.prog 125 #[u64V x] w fun e w' => e = .returned (.bool false) ∧ w' = w := by
  go_enter Tryz.func125, Tryz.ntmps125
  go_wp2
  go_ret
  exact ⟨rfl, rfl⟩

set_option maxRecDepth 100000 in
set_option maxHeartbeats 2000000 in
theorem cmpInt_any (a b : Int) (w : World) : Calls Tryz.prog 188 #[.int .i64 a, .int .i64 b] w fun e w' => e = .returned (.int .i64 (cmp3 a b)) ∧ w' = w := by
  have NA := Lib.hid (fun W => isNaNInt_no a W)
  have NB := Lib.hid (fun W => isNaNInt_no b W)
  by_cases h1 : a < b
  · have t1 : decide (a < b) = true := by simpa using h1
    have E := Lib.hid (show cmp3 a b = -1 by unfold cmp3; rw [if_pos (by omega)])
    generalize cmp3 a b = z at E ⊢
    go_enter Tryz.func188, Tryz.ntmps188
    go_wp2_with (first
      | (refine (NA.out _).mono ?_; rintro e w5 ⟨rfl, rfl⟩)
      | (refine (NB.out _).mono ?_; rintro e w5 ⟨rfl, rfl⟩))
    go_ret
    exact ⟨congrArg (fun z => Ending.returned (.int .i64 z)) E.out.symm, rfl⟩
  · by_cases h2 : b < a
    · have t1 : decide (a < b) = false := by simpa using h1
      have t2 : decide (b < a) = true := by simpa using h2
      have E := Lib.hid (show cmp3 a b = 1 by unfold cmp3; rw [if_neg (by omega), if_pos (by omega)])
      generalize cmp3 a b = z at E ⊢
      go_enter Tryz.func188, Tryz.ntmps188
      go_wp2_with (first
        | (refine (NA.out _).mono ?_; rintro e w5 ⟨rfl, rfl⟩)
        | (refine (NB.out _).mono ?_; rintro e w5 ⟨rfl, rfl⟩))
      go_ret
      exact ⟨congrArg (fun z => Ending.returned (.int .i64 z)) E.out.symm, rfl⟩
    · have t1 : decide (a < b) = false := by simpa using h1
      have t2 : decide (b < a) = false := by simpa using h2
      have E := Lib.hid (show cmp3 a b = 0 by unfold cmp3; rw [if_neg (by omega), if_neg (by omega)])
      generalize cmp3 a b = z at E ⊢
      go_enter Tryz.func188, Tryz.ntmps188
      go_wp2_with (first
        | (refine (NA.out _).mono ?_; rintro e w5 ⟨rfl, rfl⟩)
        | (refine (NB.out _).mono ?_; rintro e w5 ⟨rfl, rfl⟩))
      go_ret
      exact ⟨congrArg (fun z => Ending.returned (.int .i64 z)) E.out.symm, rfl⟩

set_option maxRecDepth 100000 in
set_option maxHeartbeats 2000000 in
theorem cmpU64_any (a b : Int) (w : World) : Calls Tryz.prog 76 #[u64V a, u64V b] w fun e w' => e = .returned (.int .i64 (cmp3 a b)) ∧ w' = w := by
  have NA := Lib.hid (fun W => isNaNU64_no a W)
  have NB := Lib.hid (fun W => isNaNU64_no b W)
  by_cases h1 : a < b
  · have t1 : decide (a < b) = true := by simpa using h1
    have E := Lib.hid (show cmp3 a b = -1 by unfold cmp3; rw [if_pos (by omega)])
    generalize cmp3 a b = z at E ⊢
    go_enter Tryz.func76, Tryz.ntmps76
    go_wp2_with (first
      | (refine (NA.out _).mono ?_; rintro e w5 ⟨rfl, rfl⟩)
      | (refine (NB.out _).mono ?_; rintro e w5 ⟨rfl, rfl⟩))
    go_ret
    exact ⟨congrArg (fun z => Ending.returned (.int .i64 z)) E.out.symm, rfl⟩
  · by_cases h2 : b < a
    · have t1 : decide (a < b) = false := by simpa using h1
      have t2 : decide (b < a) = true := by simpa using h2
      have E := Lib.hid (show cmp3 a b = 1 by unfold cmp3; rw [if_neg (by omega), if_pos (by omega)])
      generalize cmp3 a b = z at E ⊢
      go_enter Tryz.func76, Tryz.ntmps76
      go_wp2_with (first
        | (refine (NA.out _).mono ?_; rintro e w5 ⟨rfl, rfl⟩)
        | (refine (NB.out _).mono ?_; rintro e w5 ⟨rfl, rfl⟩))
      go_ret
      exact ⟨congrArg (fun z => Ending.returned (.int .i64 z)) E.out.symm, rfl⟩
    · have t1 : decide (a < b) = false := by simpa using h1
      have t2 : decide (b < a) = false := by simpa using h2
      have E := Lib.hid (show cmp3 a b = 0 by unfold cmp3; rw [if_neg (by omega), if_neg (by omega)])
      generalize cmp3 a b = z at E ⊢
      go_enter Tryz.func76, Tryz.ntmps76
      go_wp2_with (first
        | (refine (NA.out _).mono ?_; rintro e w5 ⟨rfl, rfl⟩)
        | (refine (NB.out _).mono ?_; rintro e w5 ⟨rfl, rfl⟩))
      go_ret
      exact ⟨congrArg (fun z => Ending.returned (.int .i64 z)) E.out.symm, rfl⟩

set_option maxRecDepth 100000 in
set_option maxHeartbeats 8000000 in
theorem stCompareNames_any {a b : List UInt8} (ha : a.length = 8) (hb : b.length = 8) (w : World) : Calls Tryz.prog 189 #[nameV a, nameV b] w fun e w' => e = .returned (.int .i64 (cmp3 (be a) (be b))) ∧ Upd NoF w w' := by
  have HLN := Lib.hid (And.intro ha hb)
  obtain ⟨za, hza⟩ : ∃ x, (a.map byteV).toArray = x := ⟨_, rfl⟩
  obtain ⟨zb, hzb⟩ : ∃ x, (b.map byteV).toArray = x := ⟨_, rfl⟩
  have HZa := Lib.hid hza
  have HZb := Lib.hid hzb
  rw [show nameV a = .agg za from congrArg Value.agg hza, show nameV b = .agg zb from congrArg Value.agg hzb]
  obtain ⟨W1, hW1⟩ : ∃ x, x = (w.alloc (.cells za 28)).alloc (.cells zb 28) := ⟨_, rfl⟩
  have UW := Lib.hid (show Upd NoF w W1 from by rw [hW1]; exact ((Upd.refl NoF w).alloc _).alloc _)
  have BA := Lib.hid (show Blk W1 w.heap.size 28 za from by rw [hW1]; exact (Blk.new w _ _).alloc _)
  have BB := Lib.hid (show Blk W1 (w.heap.size + 1) 28 zb from by rw [hW1]; have := Blk.new (w.alloc (.cells za 28)) 28 zb; rw [World.size_alloc] at this; exact this)
  have RA := Lib.hid (fun w' (hu : Upd NoF W1.drew w') => show w'.rangeAt w.heap.size 0 (a.map byteV) from by have hb2 := ((Upd.refl NoF W1).drew.trans hu (fun _ _ f => f)).blk BA.out (fun f => f); rw [← HZa.out] at hb2; exact range_blk hb2)
  have RB := Lib.hid (fun w' (hu : Upd NoF W1.drew w') => show w'.rangeAt (w.heap.size + 1) 0 (b.map byteV) from by have hb2 := ((Upd.refl NoF W1).drew.trans hu (fun _ _ f => f)).blk BB.out (fun f => f); rw [← HZb.out] at hb2; exact range_blk hb2)
  clear ha hb hza hzb
  go_enter Tryz.func189, Tryz.ntmps189
  go_wp2_with fail
  rw [← hW1]
  obtain ⟨X, hX⟩ : ∃ x, w.heap.size = x := ⟨_, rfl⟩
  rw [hX] at RA RB ⊢
  clear hW1 hX
  refine wp_region_rgw (rgR [isV (.agg za), isV (u64V (be a : Int)), isV (.agg zb), isV (u64V (be b : Int)), isV (.int .i64 (cmp3 (be a) (be b))), isV (.int .i64 (cmp3 (be a) (be b)))]) (fun w w' => Upd NoF w w') (fun _ wq => Upd NoF W1.drew wq) (by kernel_rfl) (by kernel_rfl) (by kernel_rfl) (by rfl) (fun w => Upd.refl _ _) (rgR_keep (by
    intro p hp; simp only [List.mem_cons, List.not_mem_nil, or_false] at hp; rcases hp with rfl | rfl | rfl | rfl | rfl | rfl <;> first | exact stb_isV _ | exact stb_any)) (Upd.refl _ _) ?_ ?_
  · refine ⟨?_, ?_, ?_, ?_, ?_, ?_, trivial⟩
    · refine fun ρ w' L hW hLi hcl hd hdep hext hc hg hf => ?_
      rw [if_pos (show wantedR _ _ _ = true from rfl)]
      have e2 : ρ (.tmp 2) = .pointer (some ⟨X, 0, none⟩) := hext 2 (by kernel_rfl)
      clear hdep hext
      refine od_load_row 28 (.tmp 2) rfl (X) 0 e2 (a.map byteV) _ (RA.out w' hW) Tryz.underlying28 rfl (by rw [show (Tryz.prog.info? 28).map (·.size) = some 8 from by kernel_rfl]; simp [HLN.out.1]) ?_
      rw [HZa.out]
      exact ⟨rfl, Upd.refl _ _, hW⟩
    · refine fun ρ w' L hW hLi hcl hd hdep hext hc hg hf => ?_
      rw [if_pos (show wantedR _ _ _ = true from rfl)]
      have e5 : ρ (.tmp 5) = .agg za := hdep 0 _ rfl (by kernel_rfl)
      clear hdep hext
      have CL := Lib.hid (show Calls Tryz.prog 77 #[.agg za] w' _ from by rw [← HZa.out]; exact hNumber_any a HLN.out.1 w')
      have HW := Lib.hid hW
      clear hW hcl hd hLi
      unfold OpDone
      go_simp
      refine CL.out.mono ?_
      rintro e w2 ⟨rfl, hu⟩
      exact ⟨_, rfl, rfl, hu, HW.out.trans hu (fun _ _ f => f)⟩
    · refine fun ρ w' L hW hLi hcl hd hdep hext hc hg hf => ?_
      rw [if_pos (show wantedR _ _ _ = true from rfl)]
      have e3 : ρ (.tmp 3) = .pointer (some ⟨X + 1, 0, none⟩) := hext 3 (by kernel_rfl)
      clear hdep hext
      refine od_load_row 28 (.tmp 3) rfl (X + 1) 0 e3 (b.map byteV) _ (RB.out w' hW) Tryz.underlying28 rfl (by rw [show (Tryz.prog.info? 28).map (·.size) = some 8 from by kernel_rfl]; simp [HLN.out.2]) ?_
      rw [HZb.out]
      exact ⟨rfl, Upd.refl _ _, hW⟩
    · refine fun ρ w' L hW hLi hcl hd hdep hext hc hg hf => ?_
      rw [if_pos (show wantedR _ _ _ = true from rfl)]
      have e7 : ρ (.tmp 7) = .agg zb := hdep 2 _ rfl (by kernel_rfl)
      clear hdep hext
      have CL := Lib.hid (show Calls Tryz.prog 77 #[.agg zb] w' _ from by rw [← HZb.out]; exact hNumber_any b HLN.out.2 w')
      have HW := Lib.hid hW
      clear hW hcl hd hLi
      unfold OpDone
      go_simp
      refine CL.out.mono ?_
      rintro e w2 ⟨rfl, hu⟩
      exact ⟨_, rfl, rfl, hu, HW.out.trans hu (fun _ _ f => f)⟩
    · refine fun ρ w' L hW hLi hcl hd hdep hext hc hg hf => ?_
      rw [if_pos (show wantedR _ _ _ = true from rfl)]
      have e6 : ρ (.tmp 6) = u64V (be a : Int) := hdep 1 _ rfl (by kernel_rfl)
      have e8 : ρ (.tmp 8) = u64V (be b : Int) := hdep 3 _ rfl (by kernel_rfl)
      clear hdep hext
      have CL := Lib.hid (cmpU64_any (be a : Int) (be b : Int) w')
      have HW := Lib.hid hW
      clear hW hcl hd hLi
      unfold OpDone
      go_simp
      refine CL.out.mono ?_
      rintro e w2 ⟨rfl, hu⟩
      exact ⟨_, rfl, rfl, by rw [hu]; exact Upd.refl _ _, by rw [hu]; exact HW.out⟩
    · refine fun ρ w' L hW hLi hcl hd hdep hext hc hg hf => ?_
      rw [if_pos (show wantedR _ _ _ = true from rfl)]
      have e9 : ρ (.tmp 9) = .int .i64 (cmp3 (be a) (be b)) := hdep 4 _ rfl (by kernel_rfl)
      clear hdep hext hcl
      have HW := Lib.hid hW
      clear hW
      unfold OpDone
      go_simp
      exact ⟨rfl, Upd.refl _ _, HW.out⟩
  intro vs W3 L3 hL3 hW3 hR
  have hv0 : vs 0 = .agg za := hR 0 _ rfl
  have hv1 : vs 1 = u64V (be a : Int) := hR 1 _ rfl
  have hv2 : vs 2 = .agg zb := hR 2 _ rfl
  have hv3 : vs 3 = u64V (be b : Int) := hR 3 _ rfl
  have hv4 : vs 4 = .int .i64 (cmp3 (be a) (be b)) := hR 4 _ rfl
  have hv5 : vs 5 = .int .i64 (cmp3 (be a) (be b)) := hR 5 _ rfl
  simp only [putAll, Act.put, List.setIfInBounds_toArray, List.set_cons_zero, List.set_cons_succ, hv0, hv1, hv2, hv3, hv4, hv5]
  clear hR hv0 hv1 hv2 hv3 hv4 hv5
  go_wp2_with fail
  go_ret
  exact ⟨rfl, UW.out.trans ((Upd.refl NoF W1).drew.trans hW3 (fun _ _ f => f)) (fun _ _ f => f)⟩
end

section
open Go.RowKit Go.Sort

/-- Nothing that was there has turned, and the tape went on. -/
def Gr (w w' : World) : Prop := Upd NoF w w' ∧ w.drawn ≤ w'.drawn
theorem Gr.refl (w : World) : Gr w w := ⟨Upd.refl _ _, Nat.le_refl _⟩
theorem Gr.trans {w w' w'' : World} (h : Gr w w') (k : Gr w' w'') : Gr w w'' := ⟨h.1.trans k.1 (fun _ _ f => f), Nat.le_trans h.2 k.2⟩
theorem Gr.alloc {w w' : World} (h : Gr w w') (o : Obj) : Gr w (w'.alloc o) := ⟨h.1.alloc o, h.2⟩
theorem Gr.drew {w w' : World} (h : Gr w w') : Gr w w'.drew := ⟨h.1.drew, Nat.le_succ_of_le h.2⟩
theorem Gr.toGrow {w w' : World} (h : Gr w w') : ∃ q os, w' = grow (w.drewN q) os := by
  obtain ⟨⟨h1, h2, h3, h4, h5⟩, h6⟩ := h
  refine ⟨w'.drawn - w.drawn, w'.heap.extract w.heap.size w'.heap.size, ?_⟩
  have hh : w'.heap = w.heap ++ w'.heap.extract w.heap.size w'.heap.size := by
    apply Array.ext'
    rw [Array.toList_append, Array.toList_extract]
    apply List.ext_getElem?
    intro k
    rcases Nat.lt_or_ge k w.heap.size with hk | hk
    · rw [List.getElem?_append_left (by simpa using hk)]
      have := h5 k hk (fun f => f)
      simpa using this
    · rw [List.getElem?_append_right (by simpa using hk)]
      simp only [Array.length_toList, List.extract_eq_take_drop, List.getElem?_take, List.getElem?_drop, Array.getElem?_toList]
      rw [show w.heap.size + (k - w.heap.size) = k by omega]
      split
      · rfl
      · rw [Array.getElem?_eq_none (by omega)]
  cases w with
  | mk heap tape drawn os output =>
    cases w' with
    | mk heap' tape' drawn' os' output' =>
      dsimp only at h1 h2 h3 h4 h6 hh ⊢
      subst h1 h2 h3
      unfold grow World.drewN
      dsimp only
      rw [← hh, show drawn + (drawn' - drawn) = drawn' by omega]
set_option maxRecDepth 100000 in
set_option maxHeartbeats 2000000 in
theorem hNumber_gr (l : List UInt8) (hl : l.length = 8) (w : World) : Calls Tryz.prog 77 #[nameV l] w fun e w' => e = .returned (u64V (be l)) ∧ Gr w w' := by
  have IX := Lib.hid (index_name l hl)
  obtain ⟨b0, b1, b2, b3, b4, b5, b6, b7, l', rfl⟩ := eight l (by omega)
  obtain rfl : l' = [] := by simpa using hl
  have HL := Lib.hid hl
  clear hl
  go_enter Tryz.func77, Tryz.ntmps77
  go_wp2
  go_loop [3, 7] (fun x i => NumRel [b0, b1, b2, b3, b4, b5, b6, b7] x i) (fun _ i => 8 - (intOf i).toNat)
  case atStart => exact ⟨0, by omega, rfl, rfl⟩
  case round =>
    obtain ⟨k, hk, rfl, rfl⟩ := hrel
    by_cases hlt : k < 8
    · obtain ⟨b, hb⟩ : ∃ b, [b0, b1, b2, b3, b4, b5, b6, b7][k]? = some b := ⟨_, List.getElem?_eq_getElem hlt⟩
      have IXk : ∀ w, (Instr.index 28 (.agg #[byteV b0, byteV b1, byteV b2, byteV b3, byteV b4, byteV b5, byteV b6, byteV b7]) (.int .i64 (k : Int))).run Tryz.prog w = .ok (byteV b) w := IX.out k b hb
      have HE := Lib.hid (be_take_succ _ k b hb)
      have HO := Lib.hid (or_byte (be (List.take k [b0, b1, b2, b3, b4, b5, b6, b7])) b (by
        have h1 := be_take_lt [b0, b1, b2, b3, b4, b5, b6, b7] k
        have h2 : (256 : Nat) ^ k ≤ 256 ^ 7 := Nat.pow_le_pow_right (by omega) (by omega)
        omega))
      have t1 : decide ((k : Int) < 8) = true := by simp; omega
      have t1' : decide (k < 8) = true := by simp; omega
      generalize be (List.take k [b0, b1, b2, b3, b4, b5, b6, b7]) = u at HE HO ⊢
      clear hb
      go_wp2
      go_round
      case rel =>
        refine ⟨k + 1, by omega, by go_num, ?_⟩
        rw [HE.out, wrap_u64_byte, HO.out]
      case measure => simp [intOf]; omega
    · have t1 : decide ((k : Int) < 8) = false := by simp; omega
      have t1' : decide (k < 8) = false := by simp; omega
      obtain rfl : k = 8 := by omega
      go_wp2
      go_ret
      exact ⟨rfl, (Gr.refl w).alloc _⟩

set_option maxRecDepth 100000 in
set_option maxHeartbeats 8000000 in
theorem CompareNames_gr {a b : List UInt8} (ha : a.length = 8) (hb : b.length = 8) (w : World) : Calls Tryz.prog 39 #[nameV a, nameV b] w fun e w' => e = .returned (.int .i64 (cmp3 (be a) (be b))) ∧ Gr w w' := by
  have HLN := Lib.hid (And.intro ha hb)
  obtain ⟨za, hza⟩ : ∃ x, (a.map byteV).toArray = x := ⟨_, rfl⟩
  obtain ⟨zb, hzb⟩ : ∃ x, (b.map byteV).toArray = x := ⟨_, rfl⟩
  have HZa := Lib.hid hza
  have HZb := Lib.hid hzb
  rw [show nameV a = .agg za from congrArg Value.agg hza, show nameV b = .agg zb from congrArg Value.agg hzb]
  obtain ⟨W1, hW1⟩ : ∃ x, x = (w.alloc (.cells za 28)).alloc (.cells zb 28) := ⟨_, rfl⟩
  have UW := Lib.hid (show Gr w W1 from by rw [hW1]; exact ((Gr.refl w).alloc _).alloc _)
  have BA := Lib.hid (show Blk W1 w.heap.size 28 za from by rw [hW1]; exact (Blk.new w _ _).alloc _)
  have BB := Lib.hid (show Blk W1 (w.heap.size + 1) 28 zb from by rw [hW1]; have := Blk.new (w.alloc (.cells za 28)) 28 zb; rw [World.size_alloc] at this; exact this)
  have RA := Lib.hid (fun w' (hu : Upd NoF W1.drew w') => show w'.rangeAt w.heap.size 0 (a.map byteV) from by have hb2 := ((Upd.refl NoF W1).drew.trans hu (fun _ _ f => f)).blk BA.out (fun f => f); rw [← HZa.out] at hb2; exact range_blk hb2)
  have RB := Lib.hid (fun w' (hu : Upd NoF W1.drew w') => show w'.rangeAt (w.heap.size + 1) 0 (b.map byteV) from by have hb2 := ((Upd.refl NoF W1).drew.trans hu (fun _ _ f => f)).blk BB.out (fun f => f); rw [← HZb.out] at hb2; exact range_blk hb2)
  clear ha hb hza hzb
  go_enter Tryz.func39, Tryz.ntmps39
  go_wp2_with fail
  rw [← hW1]
  obtain ⟨X, hX⟩ : ∃ x, w.heap.size = x := ⟨_, rfl⟩
  rw [hX] at RA RB ⊢
  clear hW1 hX
  refine wp_region_rgw (rgR [isV (.agg za), isV (u64V (be a : Int)), isV (.agg zb), isV (u64V (be b : Int)), isV (.int .i64 (cmp3 (be a) (be b))), isV (.int .i64 (cmp3 (be a) (be b)))]) (fun w w' => Gr w w') (fun _ wq => Gr W1.drew wq) (by kernel_rfl) (by kernel_rfl) (by kernel_rfl) (by rfl) (fun w => Gr.refl _) (rgR_keep (by
    intro p hp; simp only [List.mem_cons, List.not_mem_nil, or_false] at hp; rcases hp with rfl | rfl | rfl | rfl | rfl | rfl <;> first | exact stb_isV _ | exact stb_any)) (Gr.refl _) ?_ ?_
  · refine ⟨?_, ?_, ?_, ?_, ?_, ?_, trivial⟩
    · refine fun ρ w' L hW hLi hcl hd hdep hext hc hg hf => ?_
      rw [if_pos (show wantedR _ _ _ = true from rfl)]
      have e2 : ρ (.tmp 2) = .pointer (some ⟨X, 0, none⟩) := hext 2 (by kernel_rfl)
      clear hdep hext
      refine od_load_row 28 (.tmp 2) rfl (X) 0 e2 (a.map byteV) _ (RA.out w' hW.1) Tryz.underlying28 rfl (by rw [show (Tryz.prog.info? 28).map (·.size) = some 8 from by kernel_rfl]; simp [HLN.out.1]) ?_
      rw [HZa.out]
      exact ⟨rfl, Gr.refl _, hW⟩
    · refine fun ρ w' L hW hLi hcl hd hdep hext hc hg hf => ?_
      rw [if_pos (show wantedR _ _ _ = true from rfl)]
      have e5 : ρ (.tmp 5) = .agg za := hdep 0 _ rfl (by kernel_rfl)
      clear hdep hext
      have CL := Lib.hid (show Calls Tryz.prog 77 #[.agg za] w' _ from by rw [← HZa.out]; exact hNumber_gr a HLN.out.1 w')
      have HW := Lib.hid hW
      clear hW hcl hd hLi
      unfold OpDone
      go_simp
      refine CL.out.mono ?_
      rintro e w2 ⟨rfl, hu⟩
      exact ⟨_, rfl, rfl, hu, HW.out.trans hu⟩
    · refine fun ρ w' L hW hLi hcl hd hdep hext hc hg hf => ?_
      rw [if_pos (show wantedR _ _ _ = true from rfl)]
      have e3 : ρ (.tmp 3) = .pointer (some ⟨X + 1, 0, none⟩) := hext 3 (by kernel_rfl)
      clear hdep hext
      refine od_load_row 28 (.tmp 3) rfl (X + 1) 0 e3 (b.map byteV) _ (RB.out w' hW.1) Tryz.underlying28 rfl (by rw [show (Tryz.prog.info? 28).map (·.size) = some 8 from by kernel_rfl]; simp [HLN.out.2]) ?_
      rw [HZb.out]
      exact ⟨rfl, Gr.refl _, hW⟩
    · refine fun ρ w' L hW hLi hcl hd hdep hext hc hg hf => ?_
      rw [if_pos (show wantedR _ _ _ = true from rfl)]
      have e7 : ρ (.tmp 7) = .agg zb := hdep 2 _ rfl (by kernel_rfl)
      clear hdep hext
      have CL := Lib.hid (show Calls Tryz.prog 77 #[.agg zb] w' _ from by rw [← HZb.out]; exact hNumber_gr b HLN.out.2 w')
      have HW := Lib.hid hW
      clear hW hcl hd hLi
      unfold OpDone
      go_simp
      refine CL.out.mono ?_
      rintro e w2 ⟨rfl, hu⟩
      exact ⟨_, rfl, rfl, hu, HW.out.trans hu⟩
    · refine fun ρ w' L hW hLi hcl hd hdep hext hc hg hf => ?_
      rw [if_pos (show wantedR _ _ _ = true from rfl)]
      have e6 : ρ (.tmp 6) = u64V (be a : Int) := hdep 1 _ rfl (by kernel_rfl)
      have e8 : ρ (.tmp 8) = u64V (be b : Int) := hdep 3 _ rfl (by kernel_rfl)
      clear hdep hext
      have CL := Lib.hid (cmpU64_any (be a : Int) (be b : Int) w')
      have HW := Lib.hid hW
      clear hW hcl hd hLi
      unfold OpDone
      go_simp
      refine CL.out.mono ?_
      rintro e w2 ⟨rfl, hu⟩
      exact ⟨_, rfl, rfl, by rw [hu]; exact Gr.refl _, by rw [hu]; exact HW.out⟩
    · refine fun ρ w' L hW hLi hcl hd hdep hext hc hg hf => ?_
      rw [if_pos (show wantedR _ _ _ = true from rfl)]
      have e9 : ρ (.tmp 9) = .int .i64 (cmp3 (be a) (be b)) := hdep 4 _ rfl (by kernel_rfl)
      clear hdep hext hcl
      have HW := Lib.hid hW
      clear hW
      unfold OpDone
      go_simp
      exact ⟨rfl, Gr.refl _, HW.out⟩
  intro vs W3 L3 hL3 hW3 hR
  have hv0 : vs 0 = .agg za := hR 0 _ rfl
  have hv1 : vs 1 = u64V (be a : Int) := hR 1 _ rfl
  have hv2 : vs 2 = .agg zb := hR 2 _ rfl
  have hv3 : vs 3 = u64V (be b : Int) := hR 3 _ rfl
  have hv4 : vs 4 = .int .i64 (cmp3 (be a) (be b)) := hR 4 _ rfl
  have hv5 : vs 5 = .int .i64 (cmp3 (be a) (be b)) := hR 5 _ rfl
  simp only [putAll, Act.put, List.setIfInBounds_toArray, List.set_cons_zero, List.set_cons_succ, hv0, hv1, hv2, hv3, hv4, hv5]
  clear hR hv0 hv1 hv2 hv3 hv4 hv5
  go_wp2_with fail
  go_ret
  exact ⟨rfl, UW.out.trans ((Gr.refl W1).drew.trans hW3)⟩
end

section
open Go.RowKit Go.Shelf Go.Sort Go.Lib

/-- A name: eight bytes. -/
abbrev N8 : Type := { l : List UInt8 // l.length = 8 }
instance : Inhabited N8 := ⟨⟨List.replicate 8 0, rfl⟩⟩
def encN (x : N8) : List Value := x.1.map byteV
def cmpN (x y : N8) : Int := cmp3 (be x.1) (be y.1)
theorem ltN (x y : N8) : ltOf cmpN x y = decide (be x.1 < be y.1) := by
  unfold ltOf cmpN cmp3
  by_cases h : be x.1 < be y.1
  · rw [if_pos (by omega)]; simp [h]
  · rw [if_neg (by omega)]
    by_cases h2 : be y.1 < be x.1
    · rw [if_pos (by omega)]; simp [h]
    · rw [if_neg (by omega)]; simp [h]
theorem swoN : SWO (ltOf cmpN) where
  irrefl x := by rw [ltN]; simp
  trans x y z h1 h2 := by rw [ltN] at *; simp at *; omega
  ntrans x y z h1 h2 := by rw [ltN] at *; simp at *; omega
theorem cmpLaysN (blk off size : Nat) (w : World) : CmpLays Tryz.prog 39 #[] encN 8 cmpN blk off size w := fun _ _ _ _ x y =>
  (CompareNames_gr x.2 y.2 _).mono fun _ _ ⟨he, hg⟩ => ⟨he, hg.toGrow⟩
theorem flatK_list {α : Type} [Inhabited α] (enc : α → List Value) (k : Nat) (hk : ∀ x, (enc x).length = k) (d : Array α) : (flatK enc k d).toList = (d.toList.map enc).flatten := by
  have hlen : ((d.toList.map enc).flatten).length = d.size * k := by
    rw [List.length_flatten, List.map_map]
    have : (d.toList.map (List.length ∘ enc)) = List.replicate d.size k := by
      rw [List.eq_replicate_iff]
      refine ⟨by simp, fun b hb => ?_⟩
      obtain ⟨x, -, rfl⟩ := List.mem_map.1 hb
      exact hk x
    rw [this, List.sum_replicate_nat]
  apply List.ext_getElem?
  intro t
  by_cases ht : t < d.size * k
  · have k0 : 0 < k := by
      rcases Nat.eq_zero_or_pos k with h | h
      · subst h; simp at ht
      · exact h
    have hi : t / k < d.size := Nat.div_lt_of_lt_mul (by rw [Nat.mul_comm]; exact ht)
    have hj : t % k < k := Nat.mod_lt _ k0
    have hr : (d.toList.map enc)[t / k]? = some (enc d[t / k]) := by
      rw [List.getElem?_map, Array.getElem?_toList, Array.getElem?_eq_getElem hi]; rfl
    have h1 := flatten_at (k := k) (rows := d.toList.map enc) (fun r hr => by obtain ⟨x, -, rfl⟩ := List.mem_map.1 hr; exact hk x) hr hj
    rw [show t / k * k + t % k = t from by rw [Nat.mul_comm]; exact Nat.div_add_mod t k] at h1
    rw [h1, Array.getElem?_toList, Array.getElem?_eq_getElem (by rw [size_flatK]; exact ht)]
    have h2 := get_flatK enc k d t ht
    rw [getElem!_pos _ t (by rw [size_flatK]; exact ht), getElem!_pos d (t / k) hi, getElem!_pos _ (t % k) (by rw [hk]; exact hj)] at h2
    rw [h2, List.getElem?_eq_getElem (by rw [hk]; exact hj)]
  · rw [List.getElem?_eq_none (by rw [Array.length_toList, size_flatK]; omega), List.getElem?_eq_none (by omega)]
theorem upd_sortK {α : Type} [Inhabited α] (enc : α → List Value) (k : Nat) (w : World) (blk off m : Nat) (dk : Array α) (os : Array Obj) : Upd (fun k => k = blk) w (sortWorldK enc k w blk off m dk os) := by
  refine ⟨rfl, rfl, rfl, ?_, fun k hk hn => ?_⟩
  · show w.heap.size ≤ (w.heap.modify blk _ ++ os).size
    rw [Array.size_append, Array.size_modify]
    omega
  · show (w.heap.modify blk _ ++ os)[k]? = w.heap[k]?
    rw [Array.getElem?_append_left (by rw [Array.size_modify]; exact hk), Array.getElem?_modify, if_neg (fun e => hn e.symm)]
theorem blk_sortK {α : Type} [Inhabited α] (enc : α → List Value) (k : Nat) {w : World} {blk : Nat} {t : TypeId} {cur : Array Value} (h : Blk w blk t cur) (off m : Nat) (dk : Array α) (os : Array Obj) : Blk (sortWorldK enc k w blk off m dk os) blk t (putCells id off (flatK enc k dk) cur) := by
  show (w.heap.modify blk _ ++ os)[blk]? = _
  rw [Array.getElem?_append_left (by rw [Array.size_modify]; exact h.lt), Array.getElem?_modify, if_pos rfl]
  have h' : w.heap[blk]? = some (.cells cur t (0, 0)) := h
  rw [h']
  rfl
/-- The names of a list, each with its length. -/
def toN8 (l : List (List UInt8)) (h8 : All8 l) : List N8 := l.attach.map fun x => ⟨x.1, h8 x.1 x.2⟩
theorem toN8_val {l : List (List UInt8)} (h8 : All8 l) : (toN8 l h8).map (·.1) = l := by
  unfold toN8
  rw [List.map_map]
  show l.attach.map (fun x => x.1) = l
  exact List.attach_map_subtype_val l
theorem encN_flat (l : List N8) : (l.map encN).flatten = ((l.map (·.1)).map (·.map byteV)).flatten := by rw [List.map_map]; rfl
set_option maxRecDepth 100000 in
theorem SortNames_any {w : World} {A : Option Addr} {c n : Nat} {l : List (List UInt8)} (h8 : All8 l) (hl : l.length = n) (h : Own w 28 8 (.slice A n c) n ((l.map (·.map byteV)).flatten)) (hs : n ≤ 100000000) :
    Calls Tryz.prog 38 #[.slice A n c, (.func (.func 39) #[] #[])] w fun e w' => e = .returned (.tuple #[]) ∧ ∃ m : List (List UInt8), m.Perm l ∧ m.Pairwise (fun a b => be a ≤ be b) ∧ Own w' 28 8 (.slice A n c) n ((m.map (·.map byteV)).flatten) ∧ Upd (OwnB (.slice A n c)) w w' := by
  rcases Nat.eq_zero_or_pos n with h0 | h0
  · subst h0
    have hl : l = [] := List.eq_nil_of_length_eq_zero hl
    subst hl
    have hc := AnyF.slices_SortFunc_none (P := Tryz.prog) (ρ := Tryz.sortNames_ren) { Tryz.sortNames with } A c ((.func (.func 39) #[] #[])) w
    refine Calls.mono (show Calls Tryz.prog 38 _ _ _ from hc) ?_
    rintro e w' ⟨rfl, rfl⟩
    exact ⟨rfl, [], List.Perm.refl _, List.Pairwise.nil, h, Upd.refl _ _⟩
  · rcases h.2 with ⟨_, hz⟩ | ⟨g, cap, cur, hv, hb, hn, hcm, hcs, hx⟩
    · omega
    injection hv with hA _ hc
    subst hA
    subst hc
    obtain ⟨d, hd⟩ : ∃ d, d = (toN8 l h8).toArray := ⟨_, rfl⟩
    have hdl : d.toList = toN8 l h8 := by rw [hd]
    have hds : d.size = n := by rw [hd, ← hl, ← congrArg List.length (toN8_val h8)]; simp
    have hf : (flatK encN 8 d).toList = (l.map (·.map byteV)).flatten := by
      rw [flatK_list encN 8 (fun x => by simp [encN, x.2]), hdl, encN_flat, toN8_val]
    have hfs : (flatK encN 8 d).size = n * 8 := by rw [size_flatK, hds]
    have hH : HoldsK encN 8 w g 0 d := by
      intro j hj
      refine ⟨?_, hb.frozen _⟩
      rw [Nat.zero_add, hb.cell]
      have h1 : (flatK encN 8 d).toList[j]? = some (flatK encN 8 d)[j]! := by
        rw [Array.getElem?_toList, Array.getElem?_eq_getElem hj, getElem!_pos _ j hj]
      rw [hf, ← hx, List.getElem?_take] at h1
      rw [hfs] at hj
      rw [if_pos hj] at h1
      rw [← Array.getElem?_toList]
      exact h1
    have hcon := AnyQ.slices_SortFunc (P := Tryz.prog) (ρ := Tryz.sortNames_ren) Tryz.sortNames 8 (fun w => by kernel_rfl) (fun w => by kernel_rfl) encN (fun x => by simp [encN, x.2]) (fun x v hv => by obtain ⟨b, -, rfl⟩ := List.mem_map.1 hv; rfl) cmpN swoN 39 #[] g 0 c d w (enters_of Tryz.func39 (by kernel_rfl) rfl) (cmpLaysN _ _ _ _) hH hb.lt (by rw [hds]; omega)
    rw [hds] at hcon
    refine Calls.mono (show Calls Tryz.prog 38 #[.slice (some ⟨g, 0, none⟩) n c, (.func (.func 39) #[] #[])] w _ from hcon) ?_
    rintro e w' ⟨rfl, d', q, os, ⟨p1, _, p3⟩, hsrt, rfl⟩
    have hd' : d'.size = n := by rw [p1, hds]
    have hperm : d'.toList.Perm d.toList := by
      have q1 : d'.extract 0 n = d' := by rw [← hd']; simp
      have q2 : d.extract 0 n = d := by rw [← hds]; simp
      rw [q1, q2] at p3
      exact p3
    refine ⟨rfl, d'.toList.map (·.1), ?_, ?_, ?_, ?_⟩
    · have := hperm.map (·.1)
      rw [hdl, toN8_val] at this
      exact this
    · rw [List.pairwise_map, List.pairwise_iff_getElem]
      intro i j hi hj hij
      have := hsrt i j (Nat.zero_le _) hij (by rw [← hd']; simpa using hj)
      rw [ltN] at this
      have f1 : d'[i]! = d'.toList[i] := by rw [getElem!_pos _ i (by simpa using hi)]; simp
      have f2 : d'[j]! = d'.toList[j] := by rw [getElem!_pos _ j (by simpa using hj)]; simp
      rw [f1, f2] at this
      have := of_decide_eq_false this
      omega
    · have hf' : (flatK encN 8 d').toList = ((d'.toList.map (·.1)).map (·.map byteV)).flatten := by
        rw [flatK_list encN 8 (fun x => by simp [encN, x.2]), encN_flat]
      have hfs' : (flatK encN 8 d').size = n * 8 := by rw [size_flatK, hd']
      rw [← hf']
      refine ⟨by simp [hd'], .inr ⟨g, c, _, rfl, blk_sortK encN 8 hb 0 q d' os, hn, hcm, ?_, ?_⟩⟩
      · simp only [putCells, Array.size_mapIdx]
        exact hcs
      · apply List.ext_getElem?
        intro i
        rw [List.getElem?_take]
        have hnc : n * 8 ≤ cur.size := Nat.le_trans (Nat.mul_le_mul_right _ hn) hcs
        by_cases hi : i < n * 8
        · rw [if_pos hi]
          simp only [putCells, Array.getElem?_toList, Array.getElem?_mapIdx]
          rw [Array.getElem?_eq_getElem (show i < cur.size by omega)]
          simp only [Option.map_some]
          rw [if_pos (by omega), Nat.sub_zero, Array.getElem?_eq_getElem (by omega), getElem!_pos _ i (by omega)]
          rfl
        · rw [if_neg hi, Array.getElem?_toList, Array.getElem?_eq_none (by omega)]
    · exact (upd_sortK encN 8 w g 0 q d' os).mono (fun k _ e => by rw [show k = g from e]; simp [OwnB, Value.ownBlock])
end

section
open Go.RowKit

/-- The first number of a list that is not zero. -/
def orL : List Int → Int
  | [] => 0
  | x :: l => if x = 0 then orL l else x
theorem orL_three (a b c : Int) : orL [a, b, c] = or3 a b c := by
  unfold orL orL orL orL or3
  by_cases h1 : a = 0
  · by_cases h2 : b = 0
    · by_cases h3 : c = 0 <;> simp [h1, h2, h3]
    · simp [h1, h2]
  · simp [h1]
theorem orL_hit {l : List Int} {k : Nat} {x : Int} (h : l[k]? = some x) (hx : x ≠ 0) (hb : ∀ (j : Nat) y, j < k → l[j]? = some y → y = 0) : orL l = x := by
  induction l generalizing k with
  | nil => simp at h
  | cons a l ih =>
    unfold orL
    cases k with
    | zero => simp at h; subst h; rw [if_neg hx]
    | succ k =>
      rw [if_pos (hb 0 a (by omega) rfl)]
      exact ih (by simpa using h) (fun j y hj hy => hb (j + 1) y (by omega) (by simpa using hy))
theorem orL_no {l : List Int} (hb : ∀ (j : Nat) y, l[j]? = some y → y = 0) : orL l = 0 := by
  induction l with
  | nil => rfl
  | cons a l ih =>
    unfold orL
    rw [if_pos (hb 0 a rfl)]
    exact ih (fun j y hy => hb (j + 1) y (by simpa using hy))
set_option maxRecDepth 100000 in
set_option maxHeartbeats 4000000 in
theorem cmpOr_list {w : World} {A : Option Addr} {n c : Nat} {l : List Int} (hn : l.length = n) (hr : InR w (.slice A n c) l) : Calls Tryz.prog 187 #[.slice A n c] w fun e w' => e = .returned (.int .i64 (orL l)) ∧ w' = w := by
  have hnm : n ≤ maxLen := by rw [← hn]; exact hr.2.le
  unfold maxLen at hnm
  have HN := Lib.hid hn
  have HR := Lib.hid hr
  clear hn hr
  go_enter Tryz.func187, Tryz.ntmps187
  go_wp2
  go_loopg [8] n (fun kx s8 wr => ∃ k : Nat, s8 = .int .i64 (k : Int) ∧ k ≤ n ∧ n - k ≤ kx ∧ Hid (∀ (j : Nat) y, j < k → l[j]? = some y → y = 0) ∧ Hid (wr = w))
  case atStart => exact ⟨0, rfl, by omega, by omega, Lib.hid (fun j y hj => by omega), Lib.hid rfl⟩
  case round =>
    obtain ⟨k, rfl, hkn, hkx, HF, HW⟩ := hrel
    obtain rfl := HW.out
    by_cases hlt : k < n
    · have hltz : (k : Int) < (n : Int) := by omega
      obtain ⟨x, hx⟩ : ∃ x, l[k]? = some x := ⟨_, List.getElem?_eq_getElem (by have := HN.out; omega)⟩
      obtain ⟨g, o, rfl, c0⟩ := HR.out.at_ hx
      have HX := Lib.hid hx
      have e1 : ((k : Int)).toNat = k := by omega
      clear hx
      by_cases h0 : x = 0
      · subst h0
        go_wp2
        go_roundg (n - (k + 1))
        case measure => omega
        case rel => exact ⟨k + 1, by first | rfl | go_num, by omega, by omega, Lib.hid (fun j y hj hy => by
          rcases Nat.lt_or_ge j k with h1 | h1
          · exact HF.out j y h1 hy
          · rw [show j = k by omega, HX.out] at hy; cases hy; rfl), Lib.hid rfl⟩
      · have t1 : (x == 0) = false := by simpa using h0
        go_wp2
        go_ret
        exact ⟨by rw [orL_hit HX.out h0 HF.out]; rfl, rfl⟩
    · have hltz : ¬ (k : Int) < (n : Int) := by omega
      go_wp2
      go_ret
      exact ⟨by rw [orL_no (fun j y hy => HF.out j y (by have := (List.getElem?_eq_some_iff.1 hy).1; have := HN.out; omega) hy)]; rfl, rfl⟩
def Or3R (a b c : Int) (v : Value) (w : World) : Prop := ∃ g, v = .slice (some ⟨g, 0, none⟩) 3 3 ∧ Blk w g 3 #[.int .i64 a, .int .i64 b, .int .i64 c]
theorem stb_or3 (a b c : Int) : Stb (fun w w' => Upd NoF w w') (Or3R a b c) := fun _ _ _ ⟨g, e, h⟩ hu => ⟨g, e, hu.blk h (fun f => f)⟩
theorem cmp3_in (a b : Int) : In64 (cmp3 a b) := by
  unfold cmp3 In64
  by_cases h : a < b
  · rw [if_pos h]; omega
  · rw [if_neg h]
    by_cases h2 : b < a
    · rw [if_pos h2]; omega
    · rw [if_neg h2]; omega
theorem cmpOr_any {w : World} {g : Nat} {a b c a' b' c' : Int} (h : Blk w g 3 #[.int .i64 (cmp3 a a'), .int .i64 (cmp3 b b'), .int .i64 (cmp3 c c')]) : Calls Tryz.prog 187 #[.slice (some ⟨g, 0, none⟩) 3 3] w fun e w' => e = .returned (.int .i64 (or3 (cmp3 a a') (cmp3 b b') (cmp3 c c'))) ∧ w' = w := by
  rw [← orL_three]
  refine cmpOr_list (l := [cmp3 a a', cmp3 b b', cmp3 c c']) rfl ⟨fun z hz => ?_, Rd.of_blk h (by omega) (by unfold maxLen; omega) rfl (fun j u hu => by rw [Nat.zero_add, List.getElem?_toArray]; exact hu)⟩
  simp only [List.mem_cons, List.not_mem_nil, or_false] at hz
  rcases hz with rfl | rfl | rfl <;> exact cmp3_in _ _

theorem cell_size : (Tryz.prog.info? 107).map (·.size) = some 10 := by kernel_rfl
theorem delta_size : (Tryz.prog.info? 109).map (·.size) = some 11 := by kernel_rfl
set_option maxRecDepth 100000 in
set_option maxHeartbeats 16000000 in
theorem stCompare_any {a b : DelS} (ha : a.Fit) (hb : b.Fit) (w : World) : Calls Tryz.prog 148 #[.agg (cellC a).toArray, .agg (cellC b).toArray] w fun e w' => e = .returned (.int .i64 (cmpC a b)) ∧ Upd NoF w w' := by
  have HFa := Lib.hid ha
  have HFb := Lib.hid hb
  obtain ⟨za, hza⟩ : ∃ x, (a.lock.map byteV).toArray = x := ⟨_, rfl⟩
  obtain ⟨zb, hzb⟩ : ∃ x, (b.lock.map byteV).toArray = x := ⟨_, rfl⟩
  have HYa := Lib.hid hza
  have HYb := Lib.hid hzb
  have HZa := Lib.hid (show nameV a.lock = .agg za from congrArg Value.agg hza)
  have HZb := Lib.hid (show nameV b.lock = .agg zb from congrArg Value.agg hzb)
  obtain ⟨ra, hra⟩ : ∃ x, (cellC a).toArray = x := ⟨_, rfl⟩
  obtain ⟨rb, hrb⟩ : ∃ x, (cellC b).toArray = x := ⟨_, rfl⟩
  rw [hra, hrb]
  obtain ⟨W1, hW1⟩ : ∃ x, x = (w.alloc (.cells ra 107)).alloc (.cells rb 107) := ⟨_, rfl⟩
  have UW := Lib.hid (show Upd NoF w W1 from by rw [hW1]; exact ((Upd.refl NoF w).alloc _).alloc _)
  have BA := Lib.hid (show Blk W1 w.heap.size 107 (cellC a).toArray from by rw [hW1, hra]; exact (Blk.new w _ _).alloc _)
  have BB := Lib.hid (show Blk W1 (w.heap.size + 1) 107 (cellC b).toArray from by rw [hW1, hrb]; have := Blk.new (w.alloc (.cells ra 107)) 107 rb; rw [World.size_alloc] at this; exact this)
  have RA := Lib.hid (fun w' (hu : Upd NoF W1.drew w') => ((Upd.refl NoF W1).drew.trans hu (fun _ _ f => f)).blk BA.out (fun f => f))
  have RB := Lib.hid (fun w' (hu : Upd NoF W1.drew w') => ((Upd.refl NoF W1).drew.trans hu (fun _ _ f => f)).blk BB.out (fun f => f))
  clear ha hb hza hzb hra hrb BA BB
  go_enter Tryz.func148, Tryz.ntmps148
  go_wp2_with fail
  rw [← hW1]
  obtain ⟨X, hX⟩ : ∃ x, w.heap.size = x := ⟨_, rfl⟩
  rw [hX] at RA RB ⊢
  clear hW1 hX
  refine wp_region_rgw (rgR [isV (.pointer (some ⟨X, 0, none⟩)), isV (.int .i64 a.kind), isV (.pointer (some ⟨X + 1, 0, none⟩)), isV (.int .i64 b.kind), isV (.int .i64 (cmp3 a.kind b.kind)), isV (.pointer (some ⟨X, 1, none⟩)), isV (.int .i64 a.id), isV (.pointer (some ⟨X + 1, 1, none⟩)), isV (.int .i64 b.id), isV (.int .i64 (cmp3 a.id b.id)), isV (.pointer (some ⟨X, 2, none⟩)), isV (.agg za), isV (.pointer (some ⟨X + 1, 2, none⟩)), isV (.agg zb), isV (.int .i64 (cmp3 (be a.lock) (be b.lock))), Or3R (cmp3 a.kind b.kind) (cmp3 a.id b.id) (cmp3 (be a.lock) (be b.lock)), isV (.int .i64 (cmpC a b)), isV (.int .i64 (cmpC a b))]) (fun w w' => Upd NoF w w') (fun _ wq => Upd NoF W1.drew wq) (by kernel_rfl) (by kernel_rfl) (by kernel_rfl) (by rfl) (fun w => Upd.refl _ _) (rgR_keep (by
    intro p hp; simp only [List.mem_cons, List.not_mem_nil, or_false] at hp; rcases hp with rfl | rfl | rfl | rfl | rfl | rfl | rfl | rfl | rfl | rfl | rfl | rfl | rfl | rfl | rfl | rfl | rfl | rfl <;> first | exact stb_isV _ | exact stb_any | exact stb_or3 _ _ _)) (Upd.refl _ _) ?_ ?_
  · refine ⟨?_, ?_, ?_, ?_, ?_, ?_, ?_, ?_, ?_, ?_, ?_, ?_, ?_, ?_, ?_, ?_, ?_, ?_, trivial⟩
    · refine fun ρ w' L hW hLi hcl hd hdep hext hc hg hf => ?_
      rw [if_pos (show wantedR _ _ _ = true from rfl)]
      have e2 : ρ (.tmp 2) = .pointer (some ⟨X, 0, none⟩) := hext 2 (by kernel_rfl)
      clear hdep hext hcl
      have HW := Lib.hid hW
      clear hW
      unfold OpDone
      go_simp
      exact ⟨rfl, Upd.refl _ _, HW.out⟩
    · refine fun ρ w' L hW hLi hcl hd hdep hext hc hg hf => ?_
      rw [if_pos (show wantedR _ _ _ = true from rfl)]
      have e5 : ρ (.tmp 5) = .pointer (some ⟨X, 0, none⟩) := hdep 0 _ rfl (by kernel_rfl)
      have q0 : w'.cell? ⟨X, 0, none⟩ = some (.int .i64 a.kind) := (RA.out w' hW).cell 0
      clear hdep hext hcl
      have HW := Lib.hid hW
      clear hW
      unfold OpDone
      go_simp
      exact ⟨rfl, Upd.refl _ _, HW.out⟩
    · refine fun ρ w' L hW hLi hcl hd hdep hext hc hg hf => ?_
      rw [if_pos (show wantedR _ _ _ = true from rfl)]
      have e3 : ρ (.tmp 3) = .pointer (some ⟨X + 1, 0, none⟩) := hext 3 (by kernel_rfl)
      clear hdep hext hcl
      have HW := Lib.hid hW
      clear hW
      unfold OpDone
      go_simp
      exact ⟨rfl, Upd.refl _ _, HW.out⟩
    · refine fun ρ w' L hW hLi hcl hd hdep hext hc hg hf => ?_
      rw [if_pos (show wantedR _ _ _ = true from rfl)]
      have e7 : ρ (.tmp 7) = .pointer (some ⟨X + 1, 0, none⟩) := hdep 2 _ rfl (by kernel_rfl)
      have q0 : w'.cell? ⟨X + 1, 0, none⟩ = some (.int .i64 b.kind) := (RB.out w' hW).cell 0
      clear hdep hext hcl
      have HW := Lib.hid hW
      clear hW
      unfold OpDone
      go_simp
      exact ⟨rfl, Upd.refl _ _, HW.out⟩
    · refine fun ρ w' L hW hLi hcl hd hdep hext hc hg hf => ?_
      rw [if_pos (show wantedR _ _ _ = true from rfl)]
      have e6 : ρ (.tmp 6) = .int .i64 a.kind := hdep 1 _ rfl (by kernel_rfl)
      have e8 : ρ (.tmp 8) = .int .i64 b.kind := hdep 3 _ rfl (by kernel_rfl)
      clear hdep hext
      have CL := Lib.hid (cmpInt_any a.kind b.kind w')
      have HW := Lib.hid hW
      clear hW hcl hd hLi
      unfold OpDone
      go_simp
      refine CL.out.mono ?_
      rintro e w2 ⟨rfl, hu⟩
      exact ⟨_, rfl, rfl, by rw [hu]; exact Upd.refl _ _, by rw [hu]; exact HW.out⟩
    · refine fun ρ w' L hW hLi hcl hd hdep hext hc hg hf => ?_
      rw [if_pos (show wantedR _ _ _ = true from rfl)]
      have e2 : ρ (.tmp 2) = .pointer (some ⟨X, 0, none⟩) := hext 2 (by kernel_rfl)
      clear hdep hext hcl
      have HW := Lib.hid hW
      clear hW
      unfold OpDone
      go_simp
      exact ⟨rfl, Upd.refl _ _, HW.out⟩
    · refine fun ρ w' L hW hLi hcl hd hdep hext hc hg hf => ?_
      rw [if_pos (show wantedR _ _ _ = true from rfl)]
      have e10 : ρ (.tmp 10) = .pointer (some ⟨X, 1, none⟩) := hdep 5 _ rfl (by kernel_rfl)
      have q0 : w'.cell? ⟨X, 1, none⟩ = some (.int .i64 a.id) := (RA.out w' hW).cell 1
      clear hdep hext hcl
      have HW := Lib.hid hW
      clear hW
      unfold OpDone
      go_simp
      exact ⟨rfl, Upd.refl _ _, HW.out⟩
    · refine fun ρ w' L hW hLi hcl hd hdep hext hc hg hf => ?_
      rw [if_pos (show wantedR _ _ _ = true from rfl)]
      have e3 : ρ (.tmp 3) = .pointer (some ⟨X + 1, 0, none⟩) := hext 3 (by kernel_rfl)
      clear hdep hext hcl
      have HW := Lib.hid hW
      clear hW
      unfold OpDone
      go_simp
      exact ⟨rfl, Upd.refl _ _, HW.out⟩
    · refine fun ρ w' L hW hLi hcl hd hdep hext hc hg hf => ?_
      rw [if_pos (show wantedR _ _ _ = true from rfl)]
      have e12 : ρ (.tmp 12) = .pointer (some ⟨X + 1, 1, none⟩) := hdep 7 _ rfl (by kernel_rfl)
      have q0 : w'.cell? ⟨X + 1, 1, none⟩ = some (.int .i64 b.id) := (RB.out w' hW).cell 1
      clear hdep hext hcl
      have HW := Lib.hid hW
      clear hW
      unfold OpDone
      go_simp
      exact ⟨rfl, Upd.refl _ _, HW.out⟩
    · refine fun ρ w' L hW hLi hcl hd hdep hext hc hg hf => ?_
      rw [if_pos (show wantedR _ _ _ = true from rfl)]
      have e11 : ρ (.tmp 11) = .int .i64 a.id := hdep 6 _ rfl (by kernel_rfl)
      have e13 : ρ (.tmp 13) = .int .i64 b.id := hdep 8 _ rfl (by kernel_rfl)
      clear hdep hext
      have CL := Lib.hid (cmpInt_any a.id b.id w')
      have HW := Lib.hid hW
      clear hW hcl hd hLi
      unfold OpDone
      go_simp
      refine CL.out.mono ?_
      rintro e w2 ⟨rfl, hu⟩
      exact ⟨_, rfl, rfl, by rw [hu]; exact Upd.refl _ _, by rw [hu]; exact HW.out⟩
    · refine fun ρ w' L hW hLi hcl hd hdep hext hc hg hf => ?_
      rw [if_pos (show wantedR _ _ _ = true from rfl)]
      have e2 : ρ (.tmp 2) = .pointer (some ⟨X, 0, none⟩) := hext 2 (by kernel_rfl)
      clear hdep hext hcl
      have HW := Lib.hid hW
      clear hW
      unfold OpDone
      go_simp
      exact ⟨rfl, Upd.refl _ _, HW.out⟩
    · refine fun ρ w' L hW hLi hcl hd hdep hext hc hg hf => ?_
      rw [if_pos (show wantedR _ _ _ = true from rfl)]
      have e15 : ρ (.tmp 15) = .pointer (some ⟨X, 2, none⟩) := hdep 10 _ rfl (by kernel_rfl)
      clear hdep hext
      refine od_load_row 28 (.tmp 15) rfl (X) 2 e15 (a.lock.map byteV) _ (fun j v hj => by rw [(RA.out w' hW).cell (2 + j), List.getElem?_toArray]; unfold cellC; rw [Nat.add_comm 2 j, List.getElem?_cons_succ, List.getElem?_cons_succ]; exact hj) Tryz.underlying28 rfl (by rw [show (Tryz.prog.info? 28).map (·.size) = some 8 from by kernel_rfl]; simp [HFa.out.lock]) ?_
      rw [HYa.out]
      exact ⟨rfl, Upd.refl _ _, hW⟩
    · refine fun ρ w' L hW hLi hcl hd hdep hext hc hg hf => ?_
      rw [if_pos (show wantedR _ _ _ = true from rfl)]
      have e3 : ρ (.tmp 3) = .pointer (some ⟨X + 1, 0, none⟩) := hext 3 (by kernel_rfl)
      clear hdep hext hcl
      have HW := Lib.hid hW
      clear hW
      unfold OpDone
      go_simp
      exact ⟨rfl, Upd.refl _ _, HW.out⟩
    · refine fun ρ w' L hW hLi hcl hd hdep hext hc hg hf => ?_
      rw [if_pos (show wantedR _ _ _ = true from rfl)]
      have e17 : ρ (.tmp 17) = .pointer (some ⟨X + 1, 2, none⟩) := hdep 12 _ rfl (by kernel_rfl)
      clear hdep hext
      refine od_load_row 28 (.tmp 17) rfl (X + 1) 2 e17 (b.lock.map byteV) _ (fun j v hj => by rw [(RB.out w' hW).cell (2 + j), List.getElem?_toArray]; unfold cellC; rw [Nat.add_comm 2 j, List.getElem?_cons_succ, List.getElem?_cons_succ]; exact hj) Tryz.underlying28 rfl (by rw [show (Tryz.prog.info? 28).map (·.size) = some 8 from by kernel_rfl]; simp [HFb.out.lock]) ?_
      rw [HYb.out]
      exact ⟨rfl, Upd.refl _ _, hW⟩
    · refine fun ρ w' L hW hLi hcl hd hdep hext hc hg hf => ?_
      rw [if_pos (show wantedR _ _ _ = true from rfl)]
      have e16 : ρ (.tmp 16) = .agg za := hdep 11 _ rfl (by kernel_rfl)
      have e18 : ρ (.tmp 18) = .agg zb := hdep 13 _ rfl (by kernel_rfl)
      clear hdep hext
      have CL := Lib.hid (show Calls Tryz.prog 189 #[.agg za, .agg zb] w' _ from by rw [← HZa.out, ← HZb.out]; exact stCompareNames_any HFa.out.lock HFb.out.lock w')
      have HW := Lib.hid hW
      clear hW hcl hd hLi
      unfold OpDone
      go_simp
      refine CL.out.mono ?_
      rintro e w2 ⟨rfl, hu⟩
      exact ⟨_, rfl, rfl, hu, HW.out.trans hu (fun _ _ f => f)⟩
    · refine fun ρ w' L hW hLi hcl hd hdep hext hc hg hf => ?_
      rw [if_pos (show wantedR _ _ _ = true from rfl)]
      have e9 : ρ (.tmp 9) = .int .i64 (cmp3 a.kind b.kind) := hdep 4 _ rfl (by kernel_rfl)
      have e14 : ρ (.tmp 14) = .int .i64 (cmp3 a.id b.id) := hdep 9 _ rfl (by kernel_rfl)
      have e19 : ρ (.tmp 19) = .int .i64 (cmp3 (be a.lock) (be b.lock)) := hdep 14 _ rfl (by kernel_rfl)
      clear hdep hext
      have HW := Lib.hid hW
      clear hW hcl hd hLi
      unfold OpDone
      go_simp
      exact ⟨⟨_, rfl, Blk.new w' _ _⟩, (Upd.refl NoF w').alloc _, HW.out.alloc _⟩
    · refine fun ρ w' L hW hLi hcl hd hdep hext hc hg hf => ?_
      rw [if_pos (show wantedR _ _ _ = true from rfl)]
      have e20 : (Or3R (cmp3 a.kind b.kind) (cmp3 a.id b.id) (cmp3 (be a.lock) (be b.lock))) (ρ (.tmp 20)) w' := hdep 15 _ rfl (by kernel_rfl)
      clear hdep hext
      obtain ⟨gz, e20, hgz⟩ := e20
      have HGZ := Lib.hid hgz
      clear hgz
      have CL := Lib.hid (show Calls Tryz.prog 187 #[.slice (some ⟨gz, 0, none⟩) 3 3] w' _ from cmpOr_any HGZ.out)
      have HW := Lib.hid hW
      clear hW hcl hd hLi
      unfold OpDone
      go_simp
      refine CL.out.mono ?_
      rintro e w2 ⟨rfl, hu⟩
      exact ⟨_, rfl, rfl, by rw [hu]; exact Upd.refl _ _, by rw [hu]; exact HW.out⟩
    · refine fun ρ w' L hW hLi hcl hd hdep hext hc hg hf => ?_
      rw [if_pos (show wantedR _ _ _ = true from rfl)]
      have e21 : ρ (.tmp 21) = .int .i64 (cmpC a b) := hdep 16 _ rfl (by kernel_rfl)
      clear hdep hext hcl
      have HW := Lib.hid hW
      clear hW
      unfold OpDone
      go_simp
      exact ⟨rfl, Upd.refl _ _, HW.out⟩
  intro vs W3 L3 hL3 hW3 hR
  have hv0 : vs 0 = .pointer (some ⟨X, 0, none⟩) := hR 0 _ rfl
  have hv1 : vs 1 = .int .i64 a.kind := hR 1 _ rfl
  have hv2 : vs 2 = .pointer (some ⟨X + 1, 0, none⟩) := hR 2 _ rfl
  have hv3 : vs 3 = .int .i64 b.kind := hR 3 _ rfl
  have hv4 : vs 4 = .int .i64 (cmp3 a.kind b.kind) := hR 4 _ rfl
  have hv5 : vs 5 = .pointer (some ⟨X, 1, none⟩) := hR 5 _ rfl
  have hv6 : vs 6 = .int .i64 a.id := hR 6 _ rfl
  have hv7 : vs 7 = .pointer (some ⟨X + 1, 1, none⟩) := hR 7 _ rfl
  have hv8 : vs 8 = .int .i64 b.id := hR 8 _ rfl
  have hv9 : vs 9 = .int .i64 (cmp3 a.id b.id) := hR 9 _ rfl
  have hv10 : vs 10 = .pointer (some ⟨X, 2, none⟩) := hR 10 _ rfl
  have hv11 : vs 11 = .agg za := hR 11 _ rfl
  have hv12 : vs 12 = .pointer (some ⟨X + 1, 2, none⟩) := hR 12 _ rfl
  have hv13 : vs 13 = .agg zb := hR 13 _ rfl
  have hv14 : vs 14 = .int .i64 (cmp3 (be a.lock) (be b.lock)) := hR 14 _ rfl
  have hr15 : (Or3R (cmp3 a.kind b.kind) (cmp3 a.id b.id) (cmp3 (be a.lock) (be b.lock))) (vs 15) W3 := hR 15 _ rfl
  obtain ⟨gz, hv15, -⟩ := hr15
  have hv16 : vs 16 = .int .i64 (cmpC a b) := hR 16 _ rfl
  have hv17 : vs 17 = .int .i64 (cmpC a b) := hR 17 _ rfl
  simp only [putAll, Act.put, List.setIfInBounds_toArray, List.set_cons_zero, List.set_cons_succ, hv0, hv1, hv2, hv3, hv4, hv5, hv6, hv7, hv8, hv9, hv10, hv11, hv12, hv13, hv14, hv15, hv16, hv17]
  clear hR hv0 hv1 hv2 hv3 hv4 hv5 hv6 hv7 hv8 hv9 hv10 hv11 hv12 hv13 hv14 hv15 hv16 hv17
  go_wp2_with fail
  go_ret
  exact ⟨rfl, UW.out.trans ((Upd.refl NoF W1).drew.trans hW3 (fun _ _ f => f)) (fun _ _ f => f)⟩
end
end Go.Proofs.YtengcmfdfmnacaaGreat
