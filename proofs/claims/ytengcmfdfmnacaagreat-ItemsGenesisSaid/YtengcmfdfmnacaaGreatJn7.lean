/- cmp.Or of three, the order of cells. No condition. Equality of cells, IndexFunc over entries, the order of entries, state.find, state.Get. No condition. compareCells, state.find, state.Get, state.before over entries. No condition. Cutting a slice. No condition. Regions whose last operation stores the result; slices made within them. No condition. -/
import Derived.Test.YtengcmfdfmnacaaGreatJn6
import Derived.Test.YtengcmfdfmnacaaGreatJn3
import Derived.Test.YtengcmfdfmnacaaGreatJn4
import Derived.Test.YtengcmfdfmnacaaGreatJn5
namespace Go.Proofs.YtengcmfdfmnacaaGreat
section
open Go.RowKit

/-- The first number of a list that is not zero. -/
def orL : List Int → Int
  | [] => 0
  | x :: l => if x = 0 then orL l else x
theorem orL_three (a b c : Int) : orL [a, b, c] = or3 a b c := by
  unfold orL orL orL orL or3
  by_cases h1 : a = 0
  · by_cases h2 : b = 0
    · by_cases h3 : c = 0 <;> simp [h1, h2, h3]
    · simp [h1, h2]
  · simp [h1]
theorem orL_hit {l : List Int} {k : Nat} {x : Int} (h : l[k]? = some x) (hx : x ≠ 0) (hb : ∀ (j : Nat) y, j < k → l[j]? = some y → y = 0) : orL l = x := by
  induction l generalizing k with
  | nil => simp at h
  | cons a l ih =>
    unfold orL
    cases k with
    | zero => simp at h; subst h; rw [if_neg hx]
    | succ k =>
      rw [if_pos (hb 0 a (by omega) rfl)]
      exact ih (by simpa using h) (fun j y hj hy => hb (j + 1) y (by omega) (by simpa using hy))
theorem orL_no {l : List Int} (hb : ∀ (j : Nat) y, l[j]? = some y → y = 0) : orL l = 0 := by
  induction l with
  | nil => rfl
  | cons a l ih =>
    unfold orL
    rw [if_pos (hb 0 a rfl)]
    exact ih (fun j y hy => hb (j + 1) y (by simpa using hy))
set_option maxRecDepth 100000 in
set_option maxHeartbeats 4000000 in
theorem cmpOr_list {w : World} {A : Option Addr} {n c : Nat} {l : List Int} (hn : l.length = n) (hr : InR w (.slice A n c) l) : Calls Tryz.prog 187 #[.slice A n c] w fun e w' => e = .returned (.int .i64 (orL l)) ∧ w' = w := by
  have hnm : n ≤ maxLen := by rw [← hn]; exact hr.2.le
  unfold maxLen at hnm
  have HN := Lib.hid hn
  have HR := Lib.hid hr
  clear hn hr
  go_enter Tryz.func187, Tryz.ntmps187
  go_wp2
  go_loopg [8] n (fun kx s8 wr => ∃ k : Nat, s8 = .int .i64 (k : Int) ∧ k ≤ n ∧ n - k ≤ kx ∧ Hid (∀ (j : Nat) y, j < k → l[j]? = some y → y = 0) ∧ Hid (wr = w))
  case atStart => exact ⟨0, rfl, by omega, by omega, Lib.hid (fun j y hj => by omega), Lib.hid rfl⟩
  case round =>
    obtain ⟨k, rfl, hkn, hkx, HF, HW⟩ := hrel
    obtain rfl := HW.out
    by_cases hlt : k < n
    · have hltz : (k : Int) < (n : Int) := by omega
      obtain ⟨x, hx⟩ : ∃ x, l[k]? = some x := ⟨_, List.getElem?_eq_getElem (by have := HN.out; omega)⟩
      obtain ⟨g, o, rfl, c0⟩ := HR.out.at_ hx
      have HX := Lib.hid hx
      have e1 : ((k : Int)).toNat = k := by omega
      clear hx
      by_cases h0 : x = 0
      · subst h0
        go_wp2
        go_roundg (n - (k + 1))
        case measure => omega
        case rel => exact ⟨k + 1, by first | rfl | go_num, by omega, by omega, Lib.hid (fun j y hj hy => by
          rcases Nat.lt_or_ge j k with h1 | h1
          · exact HF.out j y h1 hy
          · rw [show j = k by omega, HX.out] at hy; cases hy; rfl), Lib.hid rfl⟩
      · have t1 : (x == 0) = false := by simpa using h0
        go_wp2
        go_ret
        exact ⟨by rw [orL_hit HX.out h0 HF.out]; rfl, rfl⟩
    · have hltz : ¬ (k : Int) < (n : Int) := by omega
      go_wp2
      go_ret
      exact ⟨by rw [orL_no (fun j y hy => HF.out j y (by have := (List.getElem?_eq_some_iff.1 hy).1; have := HN.out; omega) hy)]; rfl, rfl⟩
def Or3R (a b c : Int) (v : Value) (w : World) : Prop := ∃ g, v = .slice (some ⟨g, 0, none⟩) 3 3 ∧ Blk w g 3 #[.int .i64 a, .int .i64 b, .int .i64 c]
theorem stb_or3 (a b c : Int) : Stb (fun w w' => Upd NoF w w') (Or3R a b c) := fun _ _ _ ⟨g, e, h⟩ hu => ⟨g, e, hu.blk h (fun f => f)⟩
theorem cmp3_in (a b : Int) : In64 (cmp3 a b) := by
  unfold cmp3 In64
  by_cases h : a < b
  · rw [if_pos h]; omega
  · rw [if_neg h]
    by_cases h2 : b < a
    · rw [if_pos h2]; omega
    · rw [if_neg h2]; omega
theorem cmpOr_any {w : World} {g : Nat} {a b c a' b' c' : Int} (h : Blk w g 3 #[.int .i64 (cmp3 a a'), .int .i64 (cmp3 b b'), .int .i64 (cmp3 c c')]) : Calls Tryz.prog 187 #[.slice (some ⟨g, 0, none⟩) 3 3] w fun e w' => e = .returned (.int .i64 (or3 (cmp3 a a') (cmp3 b b') (cmp3 c c'))) ∧ w' = w := by
  rw [← orL_three]
  refine cmpOr_list (l := [cmp3 a a', cmp3 b b', cmp3 c c']) rfl ⟨fun z hz => ?_, Rd.of_blk h (by omega) (by unfold maxLen; omega) rfl (fun j u hu => by rw [Nat.zero_add, List.getElem?_toArray]; exact hu)⟩
  simp only [List.mem_cons, List.not_mem_nil, or_false] at hz
  rcases hz with rfl | rfl | rfl <;> exact cmp3_in _ _

theorem cell_size : (Tryz.prog.info? 107).map (·.size) = some 10 := by kernel_rfl
theorem delta_size : (Tryz.prog.info? 109).map (·.size) = some 11 := by kernel_rfl
set_option maxRecDepth 100000 in
set_option maxHeartbeats 16000000 in
theorem stCompare_any {a b : DelS} (ha : a.Fit) (hb : b.Fit) (w : World) : Calls Tryz.prog 148 #[.agg (cellC a).toArray, .agg (cellC b).toArray] w fun e w' => e = .returned (.int .i64 (cmpC a b)) ∧ Upd NoF w w' := by
  have HFa := Lib.hid ha
  have HFb := Lib.hid hb
  obtain ⟨za, hza⟩ : ∃ x, (a.lock.map byteV).toArray = x := ⟨_, rfl⟩
  obtain ⟨zb, hzb⟩ : ∃ x, (b.lock.map byteV).toArray = x := ⟨_, rfl⟩
  have HYa := Lib.hid hza
  have HYb := Lib.hid hzb
  have HZa := Lib.hid (show nameV a.lock = .agg za from congrArg Value.agg hza)
  have HZb := Lib.hid (show nameV b.lock = .agg zb from congrArg Value.agg hzb)
  obtain ⟨ra, hra⟩ : ∃ x, (cellC a).toArray = x := ⟨_, rfl⟩
  obtain ⟨rb, hrb⟩ : ∃ x, (cellC b).toArray = x := ⟨_, rfl⟩
  rw [hra, hrb]
  obtain ⟨W1, hW1⟩ : ∃ x, x = (w.alloc (.cells ra 107)).alloc (.cells rb 107) := ⟨_, rfl⟩
  have UW := Lib.hid (show Upd NoF w W1 from by rw [hW1]; exact ((Upd.refl NoF w).alloc _).alloc _)
  have BA := Lib.hid (show Blk W1 w.heap.size 107 (cellC a).toArray from by rw [hW1, hra]; exact (Blk.new w _ _).alloc _)
  have BB := Lib.hid (show Blk W1 (w.heap.size + 1) 107 (cellC b).toArray from by rw [hW1, hrb]; have := Blk.new (w.alloc (.cells ra 107)) 107 rb; rw [World.size_alloc] at this; exact this)
  have RA := Lib.hid (fun w' (hu : Upd NoF W1.drew w') => ((Upd.refl NoF W1).drew.trans hu (fun _ _ f => f)).blk BA.out (fun f => f))
  have RB := Lib.hid (fun w' (hu : Upd NoF W1.drew w') => ((Upd.refl NoF W1).drew.trans hu (fun _ _ f => f)).blk BB.out (fun f => f))
  clear ha hb hza hzb hra hrb BA BB
  go_enter Tryz.func148, Tryz.ntmps148
  go_wp2_with fail
  rw [← hW1]
  obtain ⟨X, hX⟩ : ∃ x, w.heap.size = x := ⟨_, rfl⟩
  rw [hX] at RA RB ⊢
  clear hW1 hX
  refine wp_region_rgw (rgR [isV (.pointer (some ⟨X, 0, none⟩)), isV (.int .i64 a.kind), isV (.pointer (some ⟨X + 1, 0, none⟩)), isV (.int .i64 b.kind), isV (.int .i64 (cmp3 a.kind b.kind)), isV (.pointer (some ⟨X, 1, none⟩)), isV (.int .i64 a.id), isV (.pointer (some ⟨X + 1, 1, none⟩)), isV (.int .i64 b.id), isV (.int .i64 (cmp3 a.id b.id)), isV (.pointer (some ⟨X, 2, none⟩)), isV (.agg za), isV (.pointer (some ⟨X + 1, 2, none⟩)), isV (.agg zb), isV (.int .i64 (cmp3 (be a.lock) (be b.lock))), Or3R (cmp3 a.kind b.kind) (cmp3 a.id b.id) (cmp3 (be a.lock) (be b.lock)), isV (.int .i64 (cmpC a b)), isV (.int .i64 (cmpC a b))]) (fun w w' => Upd NoF w w') (fun _ wq => Upd NoF W1.drew wq) (by kernel_rfl) (by kernel_rfl) (by kernel_rfl) (by rfl) (fun w => Upd.refl _ _) (rgR_keep (by
    intro p hp; simp only [List.mem_cons, List.not_mem_nil, or_false] at hp; rcases hp with rfl | rfl | rfl | rfl | rfl | rfl | rfl | rfl | rfl | rfl | rfl | rfl | rfl | rfl | rfl | rfl | rfl | rfl <;> first | exact stb_isV _ | exact stb_any | exact stb_or3 _ _ _)) (Upd.refl _ _) ?_ ?_
  · refine ⟨?_, ?_, ?_, ?_, ?_, ?_, ?_, ?_, ?_, ?_, ?_, ?_, ?_, ?_, ?_, ?_, ?_, ?_, trivial⟩
    · refine fun ρ w' L hW hLi hcl hd hdep hext hc hg hf => ?_
      rw [if_pos (show wantedR _ _ _ = true from rfl)]
      have e2 : ρ (.tmp 2) = .pointer (some ⟨X, 0, none⟩) := hext 2 (by kernel_rfl)
      clear hdep hext hcl
      have HW := Lib.hid hW
      clear hW
      unfold OpDone
      go_simp
      exact ⟨rfl, Upd.refl _ _, HW.out⟩
    · refine fun ρ w' L hW hLi hcl hd hdep hext hc hg hf => ?_
      rw [if_pos (show wantedR _ _ _ = true from rfl)]
      have e5 : ρ (.tmp 5) = .pointer (some ⟨X, 0, none⟩) := hdep 0 _ rfl (by kernel_rfl)
      have q0 : w'.cell? ⟨X, 0, none⟩ = some (.int .i64 a.kind) := (RA.out w' hW).cell 0
      clear hdep hext hcl
      have HW := Lib.hid hW
      clear hW
      unfold OpDone
      go_simp
      exact ⟨rfl, Upd.refl _ _, HW.out⟩
    · refine fun ρ w' L hW hLi hcl hd hdep hext hc hg hf => ?_
      rw [if_pos (show wantedR _ _ _ = true from rfl)]
      have e3 : ρ (.tmp 3) = .pointer (some ⟨X + 1, 0, none⟩) := hext 3 (by kernel_rfl)
      clear hdep hext hcl
      have HW := Lib.hid hW
      clear hW
      unfold OpDone
      go_simp
      exact ⟨rfl, Upd.refl _ _, HW.out⟩
    · refine fun ρ w' L hW hLi hcl hd hdep hext hc hg hf => ?_
      rw [if_pos (show wantedR _ _ _ = true from rfl)]
      have e7 : ρ (.tmp 7) = .pointer (some ⟨X + 1, 0, none⟩) := hdep 2 _ rfl (by kernel_rfl)
      have q0 : w'.cell? ⟨X + 1, 0, none⟩ = some (.int .i64 b.kind) := (RB.out w' hW).cell 0
      clear hdep hext hcl
      have HW := Lib.hid hW
      clear hW
      unfold OpDone
      go_simp
      exact ⟨rfl, Upd.refl _ _, HW.out⟩
    · refine fun ρ w' L hW hLi hcl hd hdep hext hc hg hf => ?_
      rw [if_pos (show wantedR _ _ _ = true from rfl)]
      have e6 : ρ (.tmp 6) = .int .i64 a.kind := hdep 1 _ rfl (by kernel_rfl)
      have e8 : ρ (.tmp 8) = .int .i64 b.kind := hdep 3 _ rfl (by kernel_rfl)
      clear hdep hext
      have CL := Lib.hid (cmpInt_any a.kind b.kind w')
      have HW := Lib.hid hW
      clear hW hcl hd hLi
      unfold OpDone
      go_simp
      refine CL.out.mono ?_
      rintro e w2 ⟨rfl, hu⟩
      exact ⟨_, rfl, rfl, by rw [hu]; exact Upd.refl _ _, by rw [hu]; exact HW.out⟩
    · refine fun ρ w' L hW hLi hcl hd hdep hext hc hg hf => ?_
      rw [if_pos (show wantedR _ _ _ = true from rfl)]
      have e2 : ρ (.tmp 2) = .pointer (some ⟨X, 0, none⟩) := hext 2 (by kernel_rfl)
      clear hdep hext hcl
      have HW := Lib.hid hW
      clear hW
      unfold OpDone
      go_simp
      exact ⟨rfl, Upd.refl _ _, HW.out⟩
    · refine fun ρ w' L hW hLi hcl hd hdep hext hc hg hf => ?_
      rw [if_pos (show wantedR _ _ _ = true from rfl)]
      have e10 : ρ (.tmp 10) = .pointer (some ⟨X, 1, none⟩) := hdep 5 _ rfl (by kernel_rfl)
      have q0 : w'.cell? ⟨X, 1, none⟩ = some (.int .i64 a.id) := (RA.out w' hW).cell 1
      clear hdep hext hcl
      have HW := Lib.hid hW
      clear hW
      unfold OpDone
      go_simp
      exact ⟨rfl, Upd.refl _ _, HW.out⟩
    · refine fun ρ w' L hW hLi hcl hd hdep hext hc hg hf => ?_
      rw [if_pos (show wantedR _ _ _ = true from rfl)]
      have e3 : ρ (.tmp 3) = .pointer (some ⟨X + 1, 0, none⟩) := hext 3 (by kernel_rfl)
      clear hdep hext hcl
      have HW := Lib.hid hW
      clear hW
      unfold OpDone
      go_simp
      exact ⟨rfl, Upd.refl _ _, HW.out⟩
    · refine fun ρ w' L hW hLi hcl hd hdep hext hc hg hf => ?_
      rw [if_pos (show wantedR _ _ _ = true from rfl)]
      have e12 : ρ (.tmp 12) = .pointer (some ⟨X + 1, 1, none⟩) := hdep 7 _ rfl (by kernel_rfl)
      have q0 : w'.cell? ⟨X + 1, 1, none⟩ = some (.int .i64 b.id) := (RB.out w' hW).cell 1
      clear hdep hext hcl
      have HW := Lib.hid hW
      clear hW
      unfold OpDone
      go_simp
      exact ⟨rfl, Upd.refl _ _, HW.out⟩
    · refine fun ρ w' L hW hLi hcl hd hdep hext hc hg hf => ?_
      rw [if_pos (show wantedR _ _ _ = true from rfl)]
      have e11 : ρ (.tmp 11) = .int .i64 a.id := hdep 6 _ rfl (by kernel_rfl)
      have e13 : ρ (.tmp 13) = .int .i64 b.id := hdep 8 _ rfl (by kernel_rfl)
      clear hdep hext
      have CL := Lib.hid (cmpInt_any a.id b.id w')
      have HW := Lib.hid hW
      clear hW hcl hd hLi
      unfold OpDone
      go_simp
      refine CL.out.mono ?_
      rintro e w2 ⟨rfl, hu⟩
      exact ⟨_, rfl, rfl, by rw [hu]; exact Upd.refl _ _, by rw [hu]; exact HW.out⟩
    · refine fun ρ w' L hW hLi hcl hd hdep hext hc hg hf => ?_
      rw [if_pos (show wantedR _ _ _ = true from rfl)]
      have e2 : ρ (.tmp 2) = .pointer (some ⟨X, 0, none⟩) := hext 2 (by kernel_rfl)
      clear hdep hext hcl
      have HW := Lib.hid hW
      clear hW
      unfold OpDone
      go_simp
      exact ⟨rfl, Upd.refl _ _, HW.out⟩
    · refine fun ρ w' L hW hLi hcl hd hdep hext hc hg hf => ?_
      rw [if_pos (show wantedR _ _ _ = true from rfl)]
      have e15 : ρ (.tmp 15) = .pointer (some ⟨X, 2, none⟩) := hdep 10 _ rfl (by kernel_rfl)
      clear hdep hext
      refine od_load_row 28 (.tmp 15) rfl (X) 2 e15 (a.lock.map byteV) _ (fun j v hj => by rw [(RA.out w' hW).cell (2 + j), List.getElem?_toArray]; unfold cellC; rw [Nat.add_comm 2 j, List.getElem?_cons_succ, List.getElem?_cons_succ]; exact hj) Tryz.underlying28 rfl (by rw [show (Tryz.prog.info? 28).map (·.size) = some 8 from by kernel_rfl]; simp [HFa.out.lock]) ?_
      rw [HYa.out]
      exact ⟨rfl, Upd.refl _ _, hW⟩
    · refine fun ρ w' L hW hLi hcl hd hdep hext hc hg hf => ?_
      rw [if_pos (show wantedR _ _ _ = true from rfl)]
      have e3 : ρ (.tmp 3) = .pointer (some ⟨X + 1, 0, none⟩) := hext 3 (by kernel_rfl)
      clear hdep hext hcl
      have HW := Lib.hid hW
      clear hW
      unfold OpDone
      go_simp
      exact ⟨rfl, Upd.refl _ _, HW.out⟩
    · refine fun ρ w' L hW hLi hcl hd hdep hext hc hg hf => ?_
      rw [if_pos (show wantedR _ _ _ = true from rfl)]
      have e17 : ρ (.tmp 17) = .pointer (some ⟨X + 1, 2, none⟩) := hdep 12 _ rfl (by kernel_rfl)
      clear hdep hext
      refine od_load_row 28 (.tmp 17) rfl (X + 1) 2 e17 (b.lock.map byteV) _ (fun j v hj => by rw [(RB.out w' hW).cell (2 + j), List.getElem?_toArray]; unfold cellC; rw [Nat.add_comm 2 j, List.getElem?_cons_succ, List.getElem?_cons_succ]; exact hj) Tryz.underlying28 rfl (by rw [show (Tryz.prog.info? 28).map (·.size) = some 8 from by kernel_rfl]; simp [HFb.out.lock]) ?_
      rw [HYb.out]
      exact ⟨rfl, Upd.refl _ _, hW⟩
    · refine fun ρ w' L hW hLi hcl hd hdep hext hc hg hf => ?_
      rw [if_pos (show wantedR _ _ _ = true from rfl)]
      have e16 : ρ (.tmp 16) = .agg za := hdep 11 _ rfl (by kernel_rfl)
      have e18 : ρ (.tmp 18) = .agg zb := hdep 13 _ rfl (by kernel_rfl)
      clear hdep hext
      have CL := Lib.hid (show Calls Tryz.prog 189 #[.agg za, .agg zb] w' _ from by rw [← HZa.out, ← HZb.out]; exact stCompareNames_any HFa.out.lock HFb.out.lock w')
      have HW := Lib.hid hW
      clear hW hcl hd hLi
      unfold OpDone
      go_simp
      refine CL.out.mono ?_
      rintro e w2 ⟨rfl, hu⟩
      exact ⟨_, rfl, rfl, hu, HW.out.trans hu (fun _ _ f => f)⟩
    · refine fun ρ w' L hW hLi hcl hd hdep hext hc hg hf => ?_
      rw [if_pos (show wantedR _ _ _ = true from rfl)]
      have e9 : ρ (.tmp 9) = .int .i64 (cmp3 a.kind b.kind) := hdep 4 _ rfl (by kernel_rfl)
      have e14 : ρ (.tmp 14) = .int .i64 (cmp3 a.id b.id) := hdep 9 _ rfl (by kernel_rfl)
      have e19 : ρ (.tmp 19) = .int .i64 (cmp3 (be a.lock) (be b.lock)) := hdep 14 _ rfl (by kernel_rfl)
      clear hdep hext
      have HW := Lib.hid hW
      clear hW hcl hd hLi
      unfold OpDone
      go_simp
      exact ⟨⟨_, rfl, Blk.new w' _ _⟩, (Upd.refl NoF w').alloc _, HW.out.alloc _⟩
    · refine fun ρ w' L hW hLi hcl hd hdep hext hc hg hf => ?_
      rw [if_pos (show wantedR _ _ _ = true from rfl)]
      have e20 : (Or3R (cmp3 a.kind b.kind) (cmp3 a.id b.id) (cmp3 (be a.lock) (be b.lock))) (ρ (.tmp 20)) w' := hdep 15 _ rfl (by kernel_rfl)
      clear hdep hext
      obtain ⟨gz, e20, hgz⟩ := e20
      have HGZ := Lib.hid hgz
      clear hgz
      have CL := Lib.hid (show Calls Tryz.prog 187 #[.slice (some ⟨gz, 0, none⟩) 3 3] w' _ from cmpOr_any HGZ.out)
      have HW := Lib.hid hW
      clear hW hcl hd hLi
      unfold OpDone
      go_simp
      refine CL.out.mono ?_
      rintro e w2 ⟨rfl, hu⟩
      exact ⟨_, rfl, rfl, by rw [hu]; exact Upd.refl _ _, by rw [hu]; exact HW.out⟩
    · refine fun ρ w' L hW hLi hcl hd hdep hext hc hg hf => ?_
      rw [if_pos (show wantedR _ _ _ = true from rfl)]
      have e21 : ρ (.tmp 21) = .int .i64 (cmpC a b) := hdep 16 _ rfl (by kernel_rfl)
      clear hdep hext hcl
      have HW := Lib.hid hW
      clear hW
      unfold OpDone
      go_simp
      exact ⟨rfl, Upd.refl _ _, HW.out⟩
  intro vs W3 L3 hL3 hW3 hR
  have hv0 : vs 0 = .pointer (some ⟨X, 0, none⟩) := hR 0 _ rfl
  have hv1 : vs 1 = .int .i64 a.kind := hR 1 _ rfl
  have hv2 : vs 2 = .pointer (some ⟨X + 1, 0, none⟩) := hR 2 _ rfl
  have hv3 : vs 3 = .int .i64 b.kind := hR 3 _ rfl
  have hv4 : vs 4 = .int .i64 (cmp3 a.kind b.kind) := hR 4 _ rfl
  have hv5 : vs 5 = .pointer (some ⟨X, 1, none⟩) := hR 5 _ rfl
  have hv6 : vs 6 = .int .i64 a.id := hR 6 _ rfl
  have hv7 : vs 7 = .pointer (some ⟨X + 1, 1, none⟩) := hR 7 _ rfl
  have hv8 : vs 8 = .int .i64 b.id := hR 8 _ rfl
  have hv9 : vs 9 = .int .i64 (cmp3 a.id b.id) := hR 9 _ rfl
  have hv10 : vs 10 = .pointer (some ⟨X, 2, none⟩) := hR 10 _ rfl
  have hv11 : vs 11 = .agg za := hR 11 _ rfl
  have hv12 : vs 12 = .pointer (some ⟨X + 1, 2, none⟩) := hR 12 _ rfl
  have hv13 : vs 13 = .agg zb := hR 13 _ rfl
  have hv14 : vs 14 = .int .i64 (cmp3 (be a.lock) (be b.lock)) := hR 14 _ rfl
  have hr15 : (Or3R (cmp3 a.kind b.kind) (cmp3 a.id b.id) (cmp3 (be a.lock) (be b.lock))) (vs 15) W3 := hR 15 _ rfl
  obtain ⟨gz, hv15, -⟩ := hr15
  have hv16 : vs 16 = .int .i64 (cmpC a b) := hR 16 _ rfl
  have hv17 : vs 17 = .int .i64 (cmpC a b) := hR 17 _ rfl
  simp only [putAll, Act.put, List.setIfInBounds_toArray, List.set_cons_zero, List.set_cons_succ, hv0, hv1, hv2, hv3, hv4, hv5, hv6, hv7, hv8, hv9, hv10, hv11, hv12, hv13, hv14, hv15, hv16, hv17]
  clear hR hv0 hv1 hv2 hv3 hv4 hv5 hv6 hv7 hv8 hv9 hv10 hv11 hv12 hv13 hv14 hv15 hv16 hv17
  go_wp2_with fail
  go_ret
  exact ⟨rfl, UW.out.trans ((Upd.refl NoF W1).drew.trans hW3 (fun _ _ f => f)) (fun _ _ f => f)⟩
end

section
open Go.RowKit

theorem part10_0 (z0 z1 : Int) (p0 p1 p2 p3 p4 p5 p6 p7 : UInt8) (w : World) : (part 3 #[.int .i64 z0, .int .i64 z1, byteV p0, byteV p1, byteV p2, byteV p3, byteV p4, byteV p5, byteV p6, byteV p7] 0).run Tryz.prog w = .ok (.int .i64 z0) w := by kernel_rfl
theorem part10_1 (z0 z1 : Int) (p0 p1 p2 p3 p4 p5 p6 p7 : UInt8) (w : World) : (part 3 #[.int .i64 z0, .int .i64 z1, byteV p0, byteV p1, byteV p2, byteV p3, byteV p4, byteV p5, byteV p6, byteV p7] 1).run Tryz.prog w = .ok (.int .i64 z1) w := by kernel_rfl
theorem part10_2 (z0 z1 : Int) (p0 p1 p2 p3 p4 p5 p6 p7 : UInt8) (w : World) : (part 28 #[.int .i64 z0, .int .i64 z1, byteV p0, byteV p1, byteV p2, byteV p3, byteV p4, byteV p5, byteV p6, byteV p7] 2).run Tryz.prog w = .ok (nameV [p0, p1, p2, p3, p4, p5, p6, p7]) w := by kernel_rfl
/-- The same cell. -/
def sameC (a b : DelS) : Bool := decide (a.kind = b.kind ∧ a.id = b.id ∧ a.lock = b.lock)
set_option maxRecDepth 100000 in
theorem cell_equal (a b : DelS) (ha : a.lock.length = 8) (hb : b.lock.length = 8) (w : World) : (Op.equalIn 10000 107 (.agg (cellC a).toArray) (.agg (cellC b).toArray)).run Tryz.prog w = .ok (sameC a b) w := by
  obtain ⟨z0, z1, l, za⟩ := a
  obtain ⟨y0, y1, m, ya⟩ := b
  obtain ⟨p0, p1, p2, p3, p4, p5, p6, p7, rfl⟩ := name_spell ha
  obtain ⟨r0, r1, r2, r3, r4, r5, r6, r7, rfl⟩ := name_spell hb
  have h1 : Value.agg (cellC ⟨z0, z1, [p0, p1, p2, p3, p4, p5, p6, p7], za⟩).toArray = .agg #[.int .i64 z0, .int .i64 z1, byteV p0, byteV p1, byteV p2, byteV p3, byteV p4, byteV p5, byteV p6, byteV p7] := rfl
  have h2 : Value.agg (cellC ⟨y0, y1, [r0, r1, r2, r3, r4, r5, r6, r7], ya⟩).toArray = .agg #[.int .i64 y0, .int .i64 y1, byteV r0, byteV r1, byteV r2, byteV r3, byteV r4, byteV r5, byteV r6, byteV r7] := rfl
  have hS : Tryz.prog.underlying 107 = some (.struct (Tryz.prog.fieldsOf 107)) := by kernel_rfl
  have hp : Tryz.prog.stoodInHeld 107 = false := by kernel_rfl
  have I : ∀ (x y : Int) (w : World), (Op.equalIn 9999 3 (.int .i64 x) (.int .i64 y)).run Tryz.prog w = .ok (x == y) w := fun x y w => run_equalIn_int w 9998 3 .i64 .i64 x y Tryz.underlying3
  have N1 : ∀ w, (Op.equalIn 9999 28 (nameV [p0, p1, p2, p3, p4, p5, p6, p7]) (nameV [r0, r1, r2, r3, r4, r5, r6, r7])).run Tryz.prog w = .ok (decide ([p0, p1, p2, p3, p4, p5, p6, p7] = [r0, r1, r2, r3, r4, r5, r6, r7])) w := fun w => by
    rw [show (9999 : Nat) = 9997 + 2 from rfl, name_equal 9997 _ _ rfl rfl w, beq_dec]
  have hfs : (Tryz.prog.fieldsOf 107).toList.map (fun f => (f.name, f.type, f.offset)) = [("Kind", 3, 0), ("ID", 3, 1), ("Lock", 28, 2)] := by kernel_rfl
  have step : ∀ (d : Nat) (xs ys : Array Value) (f : Field) (fs : List Field) (w : World), f.name ≠ "_" → (Op.eqFields d xs ys (f :: fs)).run Tryz.prog w = ((part f.type xs f.offset).run Tryz.prog w).andThen fun u w => ((part f.type ys f.offset).run Tryz.prog w).andThen fun z w => ((Op.equalIn d f.type u z).run Tryz.prog w).andThen fun r w => if r = false then .ok false w else (Op.eqFields d xs ys fs).run Tryz.prog w := fun d xs ys f fs w hn => by
    simp [Op.eqFields, hn]
  rw [h1, h2, show (10000 : Nat) = 9999 + 1 from rfl, run_equalIn_agg w 9999 107 _ _ hS hp]
  generalize (Tryz.prog.fieldsOf 107).toList = fl at hfs ⊢
  obtain ⟨f0, l0, rfl⟩ : ∃ f l, fl = f :: l := List.exists_cons_of_ne_nil (by rintro rfl; simp at hfs)
  rw [List.map_cons, List.cons.injEq, Prod.mk.injEq, Prod.mk.injEq] at hfs
  obtain ⟨⟨n0, t0, o0⟩, hfs⟩ := hfs
  obtain ⟨f1, l1, rfl⟩ : ∃ f l, l0 = f :: l := List.exists_cons_of_ne_nil (by rintro rfl; simp at hfs)
  rw [List.map_cons, List.cons.injEq, Prod.mk.injEq, Prod.mk.injEq] at hfs
  obtain ⟨⟨n1, t1, o1⟩, hfs⟩ := hfs
  obtain ⟨f2, l2, rfl⟩ : ∃ f l, l1 = f :: l := List.exists_cons_of_ne_nil (by rintro rfl; simp at hfs)
  rw [List.map_cons, List.cons.injEq, Prod.mk.injEq, Prod.mk.injEq] at hfs
  obtain ⟨⟨n2, t2, o2⟩, hfs⟩ := hfs
  obtain rfl : l2 = [] := by simpa using hfs
  rw [step _ _ _ _ _ _ (by rw [n0]; decide), t0, o0]
  simp only [Result.andThen_ok, part10_0, I]
  rw [step _ _ _ _ _ _ (by rw [n1]; decide), t1, o1]
  simp only [Result.andThen_ok, part10_1, I]
  rw [step _ _ _ _ _ _ (by rw [n2]; decide), t2, o2]
  simp only [Result.andThen_ok, part10_2, N1]
  simp only [Op.eqFields, Sem.run_pure]
  unfold sameC
  dsimp only
  by_cases c0 : z0 = y0
  rotate_left
  · simp [c0]
  by_cases c1 : z1 = y1
  rotate_left
  · simp [c0, c1]
  generalize [p0, p1, p2, p3, p4, p5, p6, p7] = ps
  generalize [r0, r1, r2, r3, r4, r5, r6, r7] = rs
  by_cases c2 : ps = rs
  · simp [c0, c1, c2]
  · simp [c0, c1, c2]
theorem cell_eql (a b : DelS) (ha : a.lock.length = 8) (hb : b.lock.length = 8) (w : World) : (binOp .eql 107 (.agg (cellC a).toArray) (.agg (cellC b).toArray)).run Tryz.prog w = .ok (.bool (sameC a b)) w := by
  rw [run_eql_struct, cell_equal a b ha hb w]
  rfl

set_option maxRecDepth 100000 in
set_option maxHeartbeats 4000000 in
theorem IndexDelta_any {w : World} {A : Option Addr} {n c : Nat} {rows : List (List Value)} (hn : rows.length = n) (hk : ∀ r ∈ rows, r.length = 11) (hr : Rd w 11 (.slice A n c) n rows.flatten) (g : FuncId) (cap : Array Value) (hg : ∀ r W, (callFunc g (#[.agg r] ++ cap)).run Tryz.prog W = .ok (.enter g (#[.agg r] ++ cap)) W)
    (p : Nat → Bool) (hp : ∀ W, Upd NoF w W → ∀ i (r : List Value), rows[i]? = some r → Calls Tryz.prog g (#[.agg r.toArray] ++ cap) W fun e W' => e = .returned (.bool (p i)) ∧ Upd NoF W W') :
    Calls Tryz.prog 143 #[.slice A n c, .func (.func g) #[] cap] w fun e w' => e = .returned (.int .i64 (firstI p n)) ∧ Upd NoF w w' := by
  have hnm : n ≤ maxLen := hr.le
  unfold maxLen at hnm
  have HR := Lib.hid hr
  have HKR := Lib.hid hk
  have HP := Lib.hid hp
  have HN := Lib.hid hn
  have HG := Lib.hid hg
  obtain ⟨kk, hkk⟩ : ∃ k, k = 11 := ⟨_, rfl⟩
  have HK := Lib.hid hkk
  have aE : ∀ w, (isAgg 109).run Tryz.prog w = .ok true w := fun w => by kernel_rfl
  have zE : ∀ w, (Go.sizeOf 109).run Tryz.prog w = .ok 11 w := fun w => by kernel_rfl
  rw [← hkk] at zE
  clear hr hk hp hn hkk hg
  go_enter Tryz.func143, Tryz.ntmps143
  go_wp2
  go_loopg [8] n (fun kx s8 wr => ∃ k : Nat, s8 = .int .i64 (k : Int) ∧ k ≤ n ∧ n - k ≤ kx ∧ Hid (∀ j, j < k → p j = false) ∧ Hid (Upd NoF w wr))
  case atStart => exact ⟨0, rfl, by omega, by omega, Lib.hid (fun j hj => by omega), Lib.hid (Upd.refl _ _)⟩
  case round =>
    obtain ⟨k, rfl, hkn, hkx, HF, HU⟩ := hrel
    by_cases hlt : k < n
    · have hltz : (k : Int) < (n : Int) := by omega
      obtain ⟨r, hri⟩ : ∃ r, rows[k]? = some r := ⟨_, List.getElem?_eq_getElem (by have := HN.out; omega)⟩
      obtain ⟨g0, o0, rfl, hrg⟩ := rows_at HKR.out (HR.out.keep HU.out) hri hlt
      rw [← HK.out] at hrg
      have HRG := Lib.hid hrg
      have HL := Lib.hid (HKR.out r (List.mem_of_getElem? hri))
      have CP := Lib.hid (HP.out wr HU.out k r hri)
      obtain ⟨ra, hra⟩ : ∃ x, r.toArray = x := ⟨_, rfl⟩
      rw [hra] at CP
      have HRA := Lib.hid hra
      have e1 : ((k : Int)).toNat = k := by omega
      have hgr := HG.out ra
      clear hri hrg hra
      cases hb : p k with
      | true =>
        have HB := Lib.hid hb
        rw [hb] at CP
        clear hb
        go_wp2_with (first
          | (refine wpList_load_row rfl 109 (.tmp 14) rfl g0 (o0 + k * kk) rfl r _ HRG.out Tryz.underlying109 rfl (by rw [delta_size, HL.out]) ra HRA.out ?_)
          | (refine CP.out.mono ?_; rintro e w' ⟨rfl, hu'⟩; have HU' := Lib.hid (HU.out.trans hu' (fun _ _ f => f)); clear hu'))
        go_ret
        exact ⟨by rw [firstI_hit hlt HB.out HF.out]; rfl, HU'.out⟩
      | false =>
        have HB := Lib.hid hb
        rw [hb] at CP
        clear hb
        go_wp2_with (first
          | (refine wpList_load_row rfl 109 (.tmp 14) rfl g0 (o0 + k * kk) rfl r _ HRG.out Tryz.underlying109 rfl (by rw [delta_size, HL.out]) ra HRA.out ?_)
          | (refine CP.out.mono ?_; rintro e w' ⟨rfl, hu'⟩; have HU' := Lib.hid (HU.out.trans hu' (fun _ _ f => f)); clear hu'))
        go_roundg (n - (k + 1))
        case measure => omega
        case rel => exact ⟨k + 1, by first | rfl | go_num, by omega, by omega, Lib.hid (none_next HF.out HB.out), HU'⟩
    · have hltz : ¬ (k : Int) < (n : Int) := by omega
      obtain rfl : k = n := by omega
      go_wp2
      go_ret
      exact ⟨by rw [firstI_no HF.out]; rfl, HU.out⟩


/-- Entries in memory. -/
structure DeR (w : World) (v : Value) (l : List DelS) : Prop where
  fit : ∀ d ∈ l, d.Fit
  rd : Rd w 11 v l.length ((l.map rowD).flatten)
theorem DeR.keep {w w' : World} {v : Value} {l : List DelS} (h : DeR w v l) (hu : Upd NoF w w') : DeR w' v l := ⟨h.fit, h.rd.keep hu⟩
theorem DeR.form {w : World} {v : Value} {l : List DelS} (h : DeR w v l) : ∃ A c, v = .slice A l.length c ∧ l.length ≤ c ∧ c ≤ maxLen := by obtain ⟨A, c, e, h1, h2, -⟩ := h.rd; exact ⟨A, c, e, h1, h2⟩
theorem DeR.rows {l : List DelS} (h : ∀ d ∈ l, d.Fit) : ∀ r ∈ l.map rowD, r.length = 11 := fun r hr => by
  obtain ⟨d, hd, rfl⟩ := List.mem_map.1 hr
  exact rowD_len (h d hd)
theorem DeR.at_ {w : World} {A : Option Addr} {n c : Nat} {l : List DelS} (h : DeR w (.slice A n c) l) {i : Nat} {d : DelS} (hd : l[i]? = some d) : ∃ g o, A = some ⟨g, o, none⟩ ∧ w.rangeAt g (o + i * 11) (rowD d) := by
  have hl : n = l.length := by obtain ⟨A', c', e, -⟩ := h.rd; injection e
  subst hl
  exact rows_at (rows := l.map rowD) (DeR.rows h.fit) h.rd (by rw [List.getElem?_map, hd]; rfl) (List.getElem?_eq_some_iff.1 hd).1
set_option maxRecDepth 100000 in
set_option maxHeartbeats 4000000 in
theorem stFind1_any {W : World} {B : Nat} {c : DelS} (hb : Blk W B 107 (cellC c).toArray) (hc : c.lock.length = 8) (d : DelS) (hd : d.Fit) :
    Calls Tryz.prog 144 #[.agg (rowD d).toArray, .pointer (some ⟨B, 0, none⟩)] W fun e W' => e = .returned (.bool (sameC d c)) ∧ Upd NoF W W' := by
  have HE := Lib.hid (cell_eql d c hd.lock hc)
  obtain ⟨q, hq⟩ : ∃ q, q = sameC d c := ⟨_, rfl⟩
  rw [← hq] at HE ⊢
  have HLD := Lib.hid (cellC_len hd)
  have HLC := Lib.hid (show (cellC c).length = 10 by simp [cellC, hc])
  obtain ⟨ra, hra⟩ : ∃ z, (rowD d).toArray = z := ⟨_, rfl⟩
  obtain ⟨za, hza⟩ : ∃ z, (cellC d).toArray = z := ⟨_, rfl⟩
  obtain ⟨zb, hzb⟩ : ∃ z, (cellC c).toArray = z := ⟨_, rfl⟩
  have hz : ∀ w, (binOp .eql 107 (.agg za) (.agg zb)).run Tryz.prog w = .ok (.bool q) w := fun w => by rw [← hza, ← hzb]; exact HE.out w
  have BA := Lib.hid (show Blk (W.alloc (.cells ra 109)) W.heap.size 109 ra from Blk.new W _ _)
  have RA := Lib.hid (show (W.alloc (.cells ra 109)).rangeAt W.heap.size 0 (cellC d) from fun j v hj => by
    rw [BA.out.cell (0 + j), ← hra]
    unfold rowD
    rw [Nat.zero_add, List.getElem?_toArray, List.getElem?_append_left (List.getElem?_eq_some_iff.1 hj).1]
    exact hj)
  have RB := Lib.hid (show (W.alloc (.cells ra 109)).rangeAt B 0 (cellC c) from range_blk (hb.alloc _))
  have HZA := Lib.hid hza
  have HZB := Lib.hid hzb
  rw [hra]
  clear hq hza hzb hra hb hc hd
  go_enter Tryz.func144, Tryz.ntmps144
  go_wp2_with (first
    | (refine wpList_load_row rfl 107 (.tmp 4) rfl W.heap.size 0 rfl (cellC d) _ RA.out Tryz.underlying107 rfl (by rw [cell_size, HLD.out]) za HZA.out ?_)
    | (refine wpList_load_row rfl 107 (.tmp 1) rfl B 0 rfl (cellC c) _ RB.out Tryz.underlying107 rfl (by rw [cell_size, HLC.out]) zb HZB.out ?_))
  go_ret
  exact ⟨rfl, (Upd.refl NoF W).alloc _⟩
end

section
open Go.RowKit

theorem row_cells {d : DelS} {w : World} {g : Nat} {r : Array Value} (hr : (rowD d).toArray = r) (hb : Blk w g 109 r) : w.rangeAt g 0 (cellC d) := fun j v hj => by
  rw [hb.cell (0 + j), ← hr]
  unfold rowD
  rw [Nat.zero_add, List.getElem?_toArray, List.getElem?_append_left (List.getElem?_eq_some_iff.1 hj).1]
  exact hj
set_option maxRecDepth 100000 in
set_option maxHeartbeats 4000000 in
theorem compareCells_any {a b : DelS} (ha : a.Fit) (hb : b.Fit) (W : World) : Calls Tryz.prog 105 #[.agg (rowD a).toArray, .agg (rowD b).toArray] W fun e W' => e = .returned (.int .i64 (cmpC a b)) ∧ Upd NoF W W' := by
  have CC := Lib.hid (fun w => stCompare_any ha hb w)
  obtain ⟨ra, hra⟩ : ∃ z, (rowD a).toArray = z := ⟨_, rfl⟩
  obtain ⟨rb, hrb⟩ : ∃ z, (rowD b).toArray = z := ⟨_, rfl⟩
  obtain ⟨za, hza⟩ : ∃ z, (cellC a).toArray = z := ⟨_, rfl⟩
  obtain ⟨zb, hzb⟩ : ∃ z, (cellC b).toArray = z := ⟨_, rfl⟩
  have BA := Lib.hid (show Blk ((W.alloc (.cells ra 109)).alloc (.cells rb 109)) W.heap.size 109 ra from (Blk.new W _ _).alloc _)
  have BB := Lib.hid (show Blk ((W.alloc (.cells ra 109)).alloc (.cells rb 109)) (W.heap.size + 1) 109 rb from by have := Blk.new (W.alloc (.cells ra 109)) 109 rb; rw [World.size_alloc] at this; exact this)
  have RA := Lib.hid (row_cells hra BA.out)
  have RB := Lib.hid (row_cells hrb BB.out)
  have HL := Lib.hid (And.intro (cellC_len ha) (cellC_len hb))
  have HZA := Lib.hid hza
  have HZB := Lib.hid hzb
  rw [hra, hrb]
  rw [hza, hzb] at CC
  obtain ⟨q, hq⟩ : ∃ q, cmpC a b = q := ⟨_, rfl⟩
  rw [hq] at CC ⊢
  clear hq hza hzb hra hrb ha hb BA BB
  go_enter Tryz.func105, Tryz.ntmps105
  go_wp2_with (first
    | (refine wpList_load_row rfl 107 (.tmp 5) rfl W.heap.size 0 rfl (cellC a) _ RA.out Tryz.underlying107 rfl (by rw [cell_size, HL.out.1]) za HZA.out ?_)
    | (refine wpList_load_row rfl 107 (.tmp 7) rfl (W.heap.size + 1) 0 rfl (cellC b) _ RB.out Tryz.underlying107 rfl (by rw [cell_size, HL.out.2]) zb HZB.out ?_)
    | (refine (CC.out _).mono ?_; rintro e w5 ⟨rfl, hu⟩; have HU := Lib.hid hu; clear hu))
  go_ret
  exact ⟨rfl, (((Upd.refl NoF W).alloc _).alloc _).trans HU.out (fun _ _ f => f)⟩

set_option maxRecDepth 100000 in
set_option maxHeartbeats 4000000 in
theorem before1_any {W : World} {B F : Nat} {x : DelS} (hb : Blk W B 109 (rowD x).toArray) (hf : Blk W F 170 #[.func (.func 105) #[] #[]]) (hx : x.Fit) (d : DelS) (hd : d.Fit) :
    Calls Tryz.prog 147 #[.agg (rowD d).toArray, .pointer (some ⟨F, 0, none⟩), .pointer (some ⟨B, 0, none⟩)] W fun e W' => e = .returned (.bool (decide (0 < cmpC d x))) ∧ Upd NoF W W' := by
  have CC := Lib.hid (fun w => compareCells_any hd hx w)
  have HL := Lib.hid (And.intro (rowD_len hd) (rowD_len hx))
  obtain ⟨ra, hra⟩ : ∃ z, (rowD d).toArray = z := ⟨_, rfl⟩
  obtain ⟨rb, hrb⟩ : ∃ z, (rowD x).toArray = z := ⟨_, rfl⟩
  have HRA := Lib.hid hra
  have HRB := Lib.hid hrb
  have BA := Lib.hid (show (W.alloc (.cells ra 109)).rangeAt W.heap.size 0 (rowD d) from range_blk (by rw [hra]; exact Blk.new W _ _))
  have BB := Lib.hid (show (W.alloc (.cells ra 109)).rangeAt B 0 (rowD x) from range_blk (hb.alloc _))
  have c0 : (W.alloc (.cells ra 109)).cell? ⟨F, 0, none⟩ = some (.func (.func 105) #[] #[]) := (hf.alloc _).cell 0
  rw [hra]
  rw [hra, hrb] at CC
  obtain ⟨q, hq⟩ : ∃ q, cmpC d x = q := ⟨_, rfl⟩
  rw [hq] at CC ⊢
  have HG : ∀ w, (callFunc 105 #[.agg ra, .agg rb]).run Tryz.prog w = .ok (.enter 105 #[.agg ra, .agg rb]) w := fun w => by kernel_rfl
  clear hq hra hrb hb hf hx hd
  go_enter Tryz.func147, Tryz.ntmps147
  go_wp2_with (first
    | (refine wpList_load_row rfl 109 (.tmp 3) rfl W.heap.size 0 rfl (rowD d) _ BA.out Tryz.underlying109 rfl (by rw [delta_size, HL.out.1]) ra HRA.out ?_)
    | (refine wpList_load_row rfl 109 (.tmp 2) rfl B 0 rfl (rowD x) _ BB.out Tryz.underlying109 rfl (by rw [delta_size, HL.out.2]) rb HRB.out ?_)
    | (refine (CC.out _).mono ?_; rintro e w5 ⟨rfl, hu⟩; have HU := Lib.hid hu; clear hu))
  go_ret
  exact ⟨rfl, ((Upd.refl NoF W).alloc _).trans HU.out (fun _ _ f => f)⟩

/-- The place of the first entry of a cell, or -1. -/
def findC (l : List DelS) (c : DelS) : Int := firstI (fun i => match l[i]? with | some d => sameC d c | none => false) l.length
/-- The amount of a cell. -/
def getC (l : List DelS) (c : DelS) : Int := match l.find? (fun d => sameC d c) with | some d => d.amt | none => 0
set_option maxRecDepth 100000 in
set_option maxHeartbeats 4000000 in
theorem stFind_any {w : World} {A : Option Addr} {n k : Nat} {sq lk ap gl : Value} {l : List DelS} (hn : l.length = n) (h : DeR w (.slice A n k) l) {c : DelS} (hc : c.lock.length = 8) :
    Calls Tryz.prog 100 #[.agg #[.slice A n k, sq, lk, ap, gl], .agg (cellC c).toArray] w fun e w' => e = .returned (.int .i64 (findC l c)) ∧ Upd NoF w w' := by
  obtain ⟨za, hza⟩ : ∃ z, (cellC c).toArray = z := ⟨_, rfl⟩
  have UW := Lib.hid (((Upd.refl NoF w).alloc (.cells #[.slice A n k, sq, lk, ap, gl] 34)).alloc (.cells za 107))
  have BC := Lib.hid (show Blk ((w.alloc (.cells #[.slice A n k, sq, lk, ap, gl] 34)).alloc (.cells za 107)) (w.heap.size + 1) 107 za from by have := Blk.new (w.alloc (.cells #[.slice A n k, sq, lk, ap, gl] 34)) 107 za; rw [World.size_alloc] at this; exact this)
  have CI := Lib.hid (IndexDelta_any (w := (w.alloc (.cells #[.slice A n k, sq, lk, ap, gl] 34)).alloc (.cells za 107)) (rows := l.map rowD) (n := n) (c := k) (A := A) (by simpa using hn) (DeR.rows h.fit) (by have := (h.keep UW.out).rd; rw [hn] at this; exact this) 144 #[.pointer (some ⟨w.heap.size + 1, 0, none⟩)] (fun r W => by kernel_rfl) (fun i => match l[i]? with | some d => sameC d c | none => false) (fun W hu i r hr => by
    rw [List.getElem?_map] at hr
    obtain ⟨d, hd, rfl⟩ := Option.map_eq_some_iff.1 hr
    simp only [hd]
    exact stFind1_any (by rw [hza]; exact hu.blk BC.out (fun f => f)) hc d (h.fit d (List.mem_of_getElem? hd))))
  have HF := Lib.hid (show firstI (fun i => match l[i]? with | some d => sameC d c | none => false) n = findC l c from by unfold findC; rw [hn])
  rw [hza]
  clear h hc hza BC hn
  go_enter Tryz.func100, Tryz.ntmps100
  go_wp2_with fail
  refine CI.out.mono ?_
  rintro e w' ⟨rfl, hu⟩
  rw [HF.out]
  have U := Lib.hid (UW.out.trans hu (fun _ _ f => f))
  clear hu
  go_wp2
  go_ret
  exact ⟨rfl, U.out⟩
theorem findC_none {l : List DelS} {c : DelS} (h : ∀ d ∈ l, sameC d c = false) : findC l c = -1 := firstI_no (fun j hj => by
  rw [List.getElem?_eq_getElem hj]
  exact h _ (List.getElem_mem hj))
set_option maxRecDepth 100000 in
set_option maxHeartbeats 4000000 in
theorem stGet_none {w : World} {A : Option Addr} {n k : Nat} {sq lk ap gl : Value} {l : List DelS} (hn : l.length = n) (h : DeR w (.slice A n k) l) {c : DelS} (hc : c.lock.length = 8) (hno : ∀ d ∈ l, sameC d c = false) :
    Calls Tryz.prog 101 #[.agg #[.slice A n k, sq, lk, ap, gl], .agg (cellC c).toArray] w fun e w' => e = .returned (.int .i64 0) ∧ Upd NoF w w' := by
  have CF := Lib.hid (fun W (hu : Upd NoF w W) => stFind_any (w := W) (sq := sq) (lk := lk) (ap := ap) (gl := gl) hn (h.keep hu) hc)
  rw [findC_none hno] at CF
  have HLC := Lib.hid (show (cellC c).length = 10 by simp [cellC, hc])
  obtain ⟨za, hza⟩ : ∃ z, (cellC c).toArray = z := ⟨_, rfl⟩
  rw [hza] at CF ⊢
  have HZA := Lib.hid hza
  have UW := Lib.hid (((Upd.refl NoF w).alloc (.cells #[.slice A n k, sq, lk, ap, gl] 34)).alloc (.cells za 107))
  have BC := Lib.hid (show ((w.alloc (.cells #[.slice A n k, sq, lk, ap, gl] 34)).alloc (.cells za 107)).rangeAt (w.heap.size + 1) 0 (cellC c) from by have := Blk.new (w.alloc (.cells #[.slice A n k, sq, lk, ap, gl] 34)) 107 za; rw [World.size_alloc] at this; exact range_blk (by rw [hza]; exact this))
  clear h hc hno hza hn
  go_enter Tryz.func101, Tryz.ntmps101
  go_wp2_with (first
    | (refine wpList_load_row rfl 107 (.tmp 3) rfl (w.heap.size + 1) 0 rfl (cellC c) _ BC.out Tryz.underlying107 rfl (by rw [cell_size, HLC.out]) za HZA.out ?_)
    | (refine (CF.out _ UW.out).mono ?_; rintro e w5 ⟨rfl, hu⟩; have HU := Lib.hid hu; clear hu))
  go_ret
  exact ⟨rfl, UW.out.trans HU.out (fun _ _ f => f)⟩
set_option maxRecDepth 100000 in
set_option maxHeartbeats 4000000 in
theorem before_end {w : World} {A : Option Addr} {n k : Nat} {l : List DelS} (hn : l.length = n) (h : DeR w (.slice A n k) l) {x : DelS} (hx : x.Fit) (hb : ∀ d ∈ l, ¬ 0 < cmpC d x) :
    Calls Tryz.prog 104 #[.slice A n k, .agg (rowD x).toArray, .func (.func 105) #[] #[]] w fun e w' => e = .returned (.int .i64 (n : Int)) ∧ Upd NoF w w' := by
  obtain ⟨za, hza⟩ : ∃ z, (rowD x).toArray = z := ⟨_, rfl⟩
  have UW := Lib.hid (((Upd.refl NoF w).alloc (.cells za 109)).alloc (.cells #[.func (.func 105) #[] #[]] 170))
  have BX := Lib.hid (show Blk ((w.alloc (.cells za 109)).alloc (.cells #[.func (.func 105) #[] #[]] 170)) w.heap.size 109 za from (Blk.new w _ _).alloc _)
  have BF := Lib.hid (show Blk ((w.alloc (.cells za 109)).alloc (.cells #[.func (.func 105) #[] #[]] 170)) (w.heap.size + 1) 170 #[.func (.func 105) #[] #[]] from by have := Blk.new (w.alloc (.cells za 109)) 170 #[.func (.func 105) #[] #[]]; rw [World.size_alloc] at this; exact this)
  have CI := Lib.hid (IndexDelta_any (w := (w.alloc (.cells za 109)).alloc (.cells #[.func (.func 105) #[] #[]] 170)) (rows := l.map rowD) (n := n) (c := k) (A := A) (by simpa using hn) (DeR.rows h.fit) (by have := (h.keep UW.out).rd; rw [hn] at this; exact this) 147 #[.pointer (some ⟨w.heap.size + 1, 0, none⟩), .pointer (some ⟨w.heap.size, 0, none⟩)] (fun r W => by kernel_rfl) (fun i => match l[i]? with | some d => decide (0 < cmpC d x) | none => false) (fun W hu i r hr => by
    rw [List.getElem?_map] at hr
    obtain ⟨d, hd, rfl⟩ := Option.map_eq_some_iff.1 hr
    simp only [hd]
    exact before1_any (by rw [hza]; exact hu.blk BX.out (fun f => f)) (hu.blk BF.out (fun f => f)) hx d (h.fit d (List.mem_of_getElem? hd))))
  rw [show firstI (fun i => match l[i]? with | some d => decide (0 < cmpC d x) | none => false) n = -1 from firstI_no (fun j hj => by
    rw [List.getElem?_eq_getElem (by omega)]
    simpa using hb _ (List.getElem_mem (by omega)))] at CI
  rw [hza]
  clear h hx hza BX BF hn hb
  go_enter Tryz.func104, Tryz.ntmps104
  go_wp2_with fail
  refine CI.out.mono ?_
  rintro e w' ⟨rfl, hu⟩
  have U := Lib.hid (UW.out.trans hu (fun _ _ f => f))
  clear hu
  go_wp2
  go_ret
  exact ⟨rfl, U.out⟩
end

section
open Go.RowKit

theorem Rd.of0' (w : World) (size : Nat) {A : Option Addr} {c : Nat} (h : c ≤ maxLen) : Rd w size (.slice A 0 c) 0 [] := ⟨A, c, rfl, Nat.zero_le _, h, by simp, fun h => absurd h (by omega)⟩
section
variable {P : Program} {w : World} {t e : TypeId} {size n c k : Nat} {A : Option Addr} {xs : List Value}
theorem run_cut_to' (h : Rd w size (.slice A n c) n xs) (hu : P.underlying t = some (.slice e)) (hs : (sizeOf e).run P w = .ok size w) (hk : k ≤ n) :
    ∃ A', (Instr.sliceAt t (.slice A n c) none (some (.int .i64 (k : Int))) none).run P w = .ok (.slice A' k c) w ∧ Rd w size (.slice A' k c) k (xs.take (k * size)) := by
  have h0 := h
  obtain ⟨A0, c', e', hn, hc, hl, hx⟩ := h
  injection e' with e1 _ e3
  subst e1 e3
  have hkc : (0 : Int) ≤ (k : Int) ∧ (k : Int) ≤ (c : Int) := ⟨by omega, by omega⟩
  refine ⟨if c = 0 then A else A.map (·.add (0 * size)), ?_, ?_⟩
  · simp [Instr.sliceAt, Instr.slice, run_underlying hu, Instr.sliceBounds, Instr.sliceBound, asIntOf, hs, hkc]
    exact fun h => absurd h (by omega)
  · rcases Nat.eq_zero_or_pos k with hz | hz
    · subst hz
      rw [Nat.zero_mul, List.take_zero]
      exact Rd.of0' w size hc
    · obtain ⟨g, o, rfl, -⟩ := hx (by omega)
      rw [if_neg (by omega), show (some (⟨g, o, none⟩ : Addr)).map (·.add (0 * size)) = some ⟨g, o, none⟩ by simp [Addr.add]]
      exact h0.upto hk
theorem run_cut_from' (h : Rd w size (.slice A n c) n xs) (hu : P.underlying t = some (.slice e)) (hs : (sizeOf e).run P w = .ok size w) (hk : k ≤ n) :
    ∃ A', (Instr.sliceAt t (.slice A n c) (some (.int .i64 (k : Int))) none none).run P w = .ok (.slice A' (n - k) (c - k)) w ∧ Rd w size (.slice A' (n - k) (c - k)) (n - k) (xs.drop (k * size)) := by
  have h0 := h
  obtain ⟨A0, c', e', hn, hc, hl, hx⟩ := h
  injection e' with e1 _ e3
  subst e1 e3
  have hkc : (0 : Int) ≤ (k : Int) ∧ (k : Int) ≤ (n : Int) := ⟨by omega, by omega⟩
  refine ⟨if c = k then A else A.map (·.add (k * size)), ?_, ?_⟩
  · simp [Instr.sliceAt, Instr.slice, run_underlying hu, Instr.sliceBounds, Instr.sliceBound, asIntOf, hs, hkc]
    exact fun h => absurd h (by omega)
  · rcases Nat.lt_or_ge k n with hz | hz
    · obtain ⟨g, o, rfl, -⟩ := hx (by omega)
      rw [if_neg (by omega), show (some (⟨g, o, none⟩ : Addr)).map (·.add (k * size)) = some ⟨g, o + k * size, none⟩ by simp [Addr.add]]
      exact h0.from_ hk _ (fun _ => rfl)
    · obtain rfl : k = n := by omega
      rw [Nat.sub_self, List.drop_eq_nil_of_le (by rw [hl]; exact Nat.le_refl _)]
      exact Rd.of0' w size (by omega)
theorem wpList_cut_to' {ops : Array Oper} {rest : List Oper} {o : Oper} {a : Act} {Q : Exit → Act → World → Prop} (hgd : o.guard = none) (x y : Operand) (ho : o.op = .slice t x none (some y) none) (hxv : a.eval x = .slice A n c) (hyv : a.eval y = .int .i64 (k : Int)) (h : Rd w size (.slice A n c) n xs) (hu : P.underlying t = some (.slice e)) (hs : ∀ w, (sizeOf e).run P w = .ok size w) (hk : k ≤ n)
    (hK : ∀ A', Rd w size (.slice A' k c) k (xs.take (k * size)) → wpList P ops Q rest (a.put o.dst (.slice A' k c)) w) : wpList P ops Q (o :: rest) a w := by
  obtain ⟨A', h1, h2⟩ := run_cut_to' h hu (hs w) hk
  refine wpList_od (post := fun v w' => v = .slice A' k c ∧ w' = w) hgd (od_of_run (v := .slice A' k c) (w' := w) ?_ ⟨rfl, rfl⟩) ?_
  · simp [execOp, ho, hxv, hyv, h1]
  · rintro v w' ⟨rfl, rfl⟩
    exact hK A' h2
theorem wpList_cut_from' {ops : Array Oper} {rest : List Oper} {o : Oper} {a : Act} {Q : Exit → Act → World → Prop} (hgd : o.guard = none) (x y : Operand) (ho : o.op = .slice t x (some y) none none) (hxv : a.eval x = .slice A n c) (hyv : a.eval y = .int .i64 (k : Int)) (h : Rd w size (.slice A n c) n xs) (hu : P.underlying t = some (.slice e)) (hs : ∀ w, (sizeOf e).run P w = .ok size w) (hk : k ≤ n)
    (hK : ∀ A', Rd w size (.slice A' (n - k) (c - k)) (n - k) (xs.drop (k * size)) → wpList P ops Q rest (a.put o.dst (.slice A' (n - k) (c - k))) w) : wpList P ops Q (o :: rest) a w := by
  obtain ⟨A', h1, h2⟩ := run_cut_from' h hu (hs w) hk
  refine wpList_od (post := fun v w' => v = .slice A' (n - k) (c - k) ∧ w' = w) hgd (od_of_run (v := .slice A' (n - k) (c - k)) (w' := w) ?_ ⟨rfl, rfl⟩) ?_
  · simp [execOp, ho, hxv, hyv, h1]
  · rintro v w' ⟨rfl, rfl⟩
    exact hK A' h2
end
end

section
open Go.RowKit

/-- Only block X has turned. -/
def StX (X : Nat) (_ : Nat → Bool) (w w' : World) : Prop := Upd (fun k => k = X) w w'
theorem StX.same {X : Nat} {L : Nat → Bool} {w : World} : StX X L w w := Upd.refl _ _
theorem StX.none {X : Nat} {L : Nat → Bool} {w w' : World} (h : Upd NoF w w') : StX X L w w' := h.mono (fun _ _ f => f.elim)
/-- Before op b nothing old has turned, behind it the world is as fin says. -/
structure LastSt (w0 : World) (b : Nat) (fin : World → Prop) (L : Nat → Bool) (w : World) : Prop where
  u : L b = false → Upd NoF w0 w
  f : L b = true → fin w
section
variable {w0 w w' : World} {b i : Nat} {fin : World → Prop} {L : Nat → Bool}
theorem LastSt.start : LastSt w0 b fin (fun _ => false) w0 := ⟨fun _ => Upd.refl _ _, fun e => by cases e⟩
theorem LastSt.same (h : LastSt w0 b fin L w) (hb : (b == i) = false) : LastSt w0 b fin (fun j => j == i || L j) w := ⟨fun e => h.u (by simpa [hb] using e), fun e => h.f (by simpa [hb] using e)⟩
theorem LastSt.step (h : LastSt w0 b fin L w) (hL : L b = false) (hb : (b == i) = false) (hu : Upd NoF w w') : LastSt w0 b fin (fun j => j == i || L j) w' := ⟨fun _ => (h.u hL).trans hu (fun _ _ f => f), fun e => by simp [hb, hL] at e⟩
theorem LastSt.last (hf : fin w') : LastSt w0 b fin (fun j => j == b || L j) w' := ⟨fun e => by simp at e, fun _ => hf⟩
end
/-- A slice that owns its block, which is not older than S0. -/
def NwA (S0 : Nat) (e : TypeId) (size n : Nat) (xs : List Value) (A : Option Addr) (c : Nat) (w : World) : Prop := Own w e size (.slice A n c) n xs ∧ ∀ k, OwnB (.slice A n c) k → S0 ≤ k
def NwAv (S0 : Nat) (e : TypeId) (size n : Nat) (xs : List Value) (v : Value) (w : World) : Prop := ∃ A c, v = .slice A n c ∧ NwA S0 e size n xs A c w
theorem NwA.keepX {S0 X : Nat} {e : TypeId} {size n : Nat} {xs : List Value} {A : Option Addr} {c : Nat} {w w' : World} (h : NwA S0 e size n xs A c w) (hX : X < S0) (hu : Upd (fun k => k = X) w w') : NwA S0 e size n xs A c w' := ⟨h.1.upd hu (fun k hk f => by have := h.2 k hk; have f : k = X := f; omega), h.2⟩
theorem NwA.keep {S0 : Nat} {e : TypeId} {size n : Nat} {xs : List Value} {A : Option Addr} {c : Nat} {w w' : World} (h : NwA S0 e size n xs A c w) (hu : Upd NoF w w') : NwA S0 e size n xs A c w' := ⟨h.1.upd hu (fun _ _ f => f), h.2⟩
theorem stbL_nwA {X S0 i : Nat} {e : TypeId} {size n : Nat} {xs : List Value} (hX : X < S0) : StbL (StX X) i (NwAv S0 e size n xs) := fun _ _ _ _ _ ⟨A, c, e', h⟩ hs => ⟨A, c, e', h.keepX hX hs⟩
/-! ### slices.Insert behind the last entry, slices.Clone -/
theorem delta_info : (Tryz.prog.info? 109).map (fun i => (i.zero, i.size, i.bytes)) = some (some (.agg (rowD ⟨0, 0, nm0, 0⟩).toArray), 11, 32) := by kernel_rfl
set_option maxRecDepth 100000 in
set_option maxHeartbeats 4000000 in
theorem InsertDelta_end {w : World} {A B : Option Addr} {n c d : Nat} {rows ys : List Value} (h : Own w 109 11 (.slice A n c) n rows) (hr : Rd w 11 (.slice B 1 d) 1 ys) (h1 : ∀ u ∈ ys, u.oneCell' = true) (hm : n ≤ 1000000) :
    Calls Tryz.prog 103 #[.slice A n c, .int .i64 (n : Int), .slice B 1 d] w fun e w' => ∃ A' c', e = .returned (.slice A' (n + 1) c') ∧ Own w' 109 11 (.slice A' (n + 1) c') (n + 1) (rows ++ ys) ∧ Upd (OwnB (.slice A n c)) w w' ∧ ∀ k, OwnB (.slice A' (n + 1) c') k → OwnB (.slice A n c) k ∨ w.heap.size ≤ k := by
  obtain ⟨i0, hi0, hz0, hz1, hz2⟩ := info_parts delta_info
  have HR0 := Lib.hid h.rd
  have H := Lib.hid h
  have HR := Lib.hid hr
  have H1 := Lib.hid h1
  clear h hr h1
  go_enter Tryz.func103, Tryz.ntmps103
  go_wp2_with (first
    | (refine wpList_cut_from' rfl (.tmp 10) (.tmp 11) rfl rfl rfl HR0.out Tryz.underlying31 (fun _ => by kernel_rfl) (k := n) (Nat.le_refl _) ?_; intro A' hcut; clear hcut)
    | (at_builtin; refine wpList_append_to _ rfl (.tmp 23) (.tmp 24) 31 rfl 109 i0 _ 11 32 Tryz.underlying31 hi0 hz0 hz1 hz2 (by kernel_rfl) _ n rows rfl H.out _ 1 ys rfl HR.out H1.out (by unfold maxLen; omega) (by omega) ?_; intro A5 c5 w5 hown hupd hnew; have N5 := Lib.hid (And.intro hown (And.intro hupd hnew)); clear hown hupd hnew))
  go_ret
  exact ⟨A5, c5, rfl, N5.out⟩
set_option maxRecDepth 100000 in
theorem CloneDelta_nil (w : World) : Calls Tryz.prog 139 #[.slice none 0 0] w fun e w' => e = .returned (.slice none 0 0) ∧ w' = w := by
  have hE : ∀ w, (binOp .eql 31 (.slice none 0 0) (.slice none 0 0)).run Tryz.prog w = .ok (.bool true) w := fun w => by kernel_rfl
  go_enter Tryz.func139, Tryz.ntmps139
  go_wp2
  go_ret
  exact ⟨rfl, rfl⟩
set_option maxRecDepth 100000 in
theorem CloneLock_nil (w : World) : Calls Tryz.prog 141 #[.slice none 0 0] w fun e w' => e = .returned (.slice none 0 0) ∧ w' = w := by
  have hE : ∀ w, (binOp .eql 32 (.slice none 0 0) (.slice none 0 0)).run Tryz.prog w = .ok (.bool true) w := fun w => by kernel_rfl
  go_enter Tryz.func141, Tryz.ntmps141
  go_wp2
  go_ret
  exact ⟨rfl, rfl⟩
set_option maxRecDepth 100000 in
theorem CloneName_nil (w : World) : Calls Tryz.prog 142 #[.slice none 0 0] w fun e w' => e = .returned (.slice none 0 0) ∧ w' = w := by
  have hE : ∀ w, (binOp .eql 22 (.slice none 0 0) (.slice none 0 0)).run Tryz.prog w = .ok (.bool true) w := fun w => by kernel_rfl
  go_enter Tryz.func142, Tryz.ntmps142
  go_wp2
  go_ret
  exact ⟨rfl, rfl⟩
set_option maxRecDepth 100000 in
set_option maxHeartbeats 4000000 in
theorem CloneInt_some {w : World} {a : Addr} {n c : Nat} {l : List Int} (hn : l.length = n) (h : InR w (.slice (some a) n c) l) (hm : n ≤ 1000000) :
    Calls Tryz.prog 140 #[.slice (some a) n c] w fun e w' => ∃ A' c', e = .returned (.slice A' n c') ∧ NwA w.heap.size 3 1 n (l.map (Value.int .i64)) A' c' w' ∧ Upd NoF w w' := by
  obtain ⟨i0, hi0, hz0, hz1, hz2⟩ := info_parts int_info
  have N0 := Lib.hid (NewR.fresh w 3 1)
  have HR := Lib.hid (show Rd (w.alloc (.cells #[] 3)) 1 (.slice (some a) n c) n (l.map (Value.int .i64)) from by have := h.2.keep ((Upd.refl NoF w).alloc (.cells #[] 3)); rw [hn] at this; exact this)
  have H1 := Lib.hid (show ∀ u ∈ l.map (Value.int .i64), u.oneCell' = true from fun u hu => by obtain ⟨z, _, rfl⟩ := List.mem_map.1 hu; rfl)
  have hE : ∀ w, (binOp .eql 23 (.slice (some a) n c) (.slice none 0 0)).run Tryz.prog w = .ok (.bool false) w := fun w => by kernel_rfl
  clear h hn
  go_enter Tryz.func140, Tryz.ntmps140
  go_wp2_with (at_builtin; refine wpList_append_new _ rfl (.tmp 5) (.tmp 6) 23 rfl 3 i0 _ 1 8 Tryz.underlying23 hi0 hz0 hz1 hz2 rfl (.slice (some ⟨w.heap.size, 0, none⟩) 0 0) rfl N0.out.1 _ n (l.map (Value.int .i64)) rfl HR.out H1.out (by unfold maxLen; omega) (by omega) ?_; intro A5 c5 w5 hown hupd hnew; have N5 := Lib.hid (NewR.app0 N0.out hown hupd hnew); clear hown hupd hnew)
  go_ret
  exact ⟨A5, c5, rfl, ⟨N5.out.1, N5.out.2.1⟩, N5.out.2.2⟩
end
end Go.Proofs.YtengcmfdfmnacaaGreat
