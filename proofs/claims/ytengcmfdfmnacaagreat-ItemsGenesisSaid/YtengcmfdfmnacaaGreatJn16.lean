/- The reference's CopyState, at, Compare. Conditions: sizes; at a cell that is not there. Rows of names within a block: stores in the middle, clear, slices that own what they read. No condition. -/
import Derived.Test.YtengcmfdfmnacaaGreatJn13
import Derived.Test.YtengcmfdfmnacaaGreatJn15
import Derived.WalkSpells
import Derived.Test.YtengcmfdfmnacaaGreatJn12
import Derived.Test.YtengcmfdfmnacaaGreatJn11
namespace Go.Proofs.YtengcmfdfmnacaaGreat
section
open Go.RowKit Go.Lib

section
variable {P : Program} {o : Oper} {ρ : Operand → Value} {w : World} {post : Value → World → Prop}
/-- append to an empty slice that owns its block: nothing old turns. -/
theorem run_append0 (w : World) (t ty e : TypeId) (i : TypeInfo) (z : Value) (size bytes : Nat) (ht : P.underlying t = some (.slice e)) (hi : P.info? e = some i) (hz : i.zero = some z)
    (hsize : i.size = size) (hby : i.bytes = bytes) (hzs : z.cells.size = size) (g : Nat) (hown : Own w e size (.slice (some ⟨g, 0, none⟩) 0 0) 0 []) (s : Value) (m : Nat) (ys : List Value) (hs : Rd w size s m ys) (h1 : ∀ u ∈ ys, u.oneCell' = true)
    (h63 : m ≤ maxLen) (hbytes : m * bytes ≤ 140737488355328) :
    ∃ v' w', (Builtin.append_ #[t, t] ty #[.slice (some ⟨g, 0, none⟩) 0 0, s]).run P w = .ok v' w' ∧ Own w' e size v' m ys ∧ Upd NoF w w' ∧ (∀ k, OwnB v' k → g = k ∨ w.heap.size ≤ k) := by
  obtain ⟨v', w', hrun, h2, h3, h4⟩ := run_append (P := P) w t ty e i z size bytes ht hi hz hsize hby hzs _ 0 [] hown s m ys hs h1 (by omega) (by simpa using hbytes)
  refine ⟨v', w', hrun, by simpa using h2, ?_, fun k hk => (h4 k hk).elim (fun f => .inl (by simpa [OwnB, Value.ownBlock] using f)) .inr⟩
  subst hsize
  obtain ⟨A, c, rfl, hmc, hc, hyl, hA⟩ := hs
  rcases Nat.eq_zero_or_pos m with hm | hm
  · subst hm
    have hy : ys = [] := List.eq_nil_of_length_eq_zero (by simpa using hyl)
    subst hy
    have : (Builtin.append_ #[t, t] ty #[.slice (some ⟨g, 0, none⟩) 0 0, .slice A 0 c]).run P w = .ok (.slice (some ⟨g, 0, none⟩) 0 0) w := by
      cases A <;> simp [Builtin.append_, run_underlying ht, sizeOf, typeInfo, hi, Builtin.lenOf, Builtin.firstCells, storeCells, loadCells, loadCellsFrom]
    rw [this] at hrun
    injection hrun with _ e2
    rw [← e2]
    exact Upd.refl _ _
  · obtain ⟨g0, o0, rfl, hcell⟩ := hA hm
    have hcells : ∀ j u, ys[j]? = some u → w.cell? ((⟨g0, o0, none⟩ : Addr).add j) = some u := by
      intro j u hu
      have : (⟨g0, o0, none⟩ : Addr).add j = ⟨g0, o0 + j, none⟩ := by unfold Addr.add; split <;> simp_all
      rw [this]; exact hcell j u hu
    have hr := run_append_grow (P := P) w t ty e i z ht hi hz ⟨g, 0, none⟩ 0 0 [] (by simp) (fun j u hu => by simp at hu) ⟨g0, o0, none⟩ m c ys hyl hcells (by omega) (by simp only [maxLen] at h63; omega) (growslice_fits (by simp only [maxLen] at h63; omega) (by rw [hby]; simpa using hbytes))
    rw [hr] at hrun
    injection hrun with _ e2
    rw [← e2]
    exact ((Upd.refl _ w).drew).alloc _
theorem od_append0 (s x : Operand) (t : TypeId) (ho : o.op = .call { callee := .builtin .append, args := #[s, x], argTypes := #[t, t] })
    (e : TypeId) (i : TypeInfo) (z : Value) (size bytes : Nat) (ht : P.underlying t = some (.slice e)) (hi : P.info? e = some i) (hz : i.zero = some z) (hsize : i.size = size) (hby : i.bytes = bytes) (hzs : z.cells.size = size)
    (g : Nat) (hs : ρ s = .slice (some ⟨g, 0, none⟩) 0 0) (hown : Own w e size (.slice (some ⟨g, 0, none⟩) 0 0) 0 []) (u : Value) (m : Nat) (ys : List Value) (hx : ρ x = u) (hr : Rd w size u m ys) (h1 : ∀ u ∈ ys, u.oneCell' = true)
    (h63 : m ≤ maxLen) (hbytes : m * bytes ≤ 140737488355328)
    (h : ∀ A c w', Own w' e size (.slice A m c) m ys → Upd NoF w w' → (∀ k, OwnB (.slice A m c) k → g = k ∨ w.heap.size ≤ k) → post (.slice A m c) w') : OpDone P o ρ w post := by
  obtain ⟨v', w', hrun, h2, h3, h4⟩ := run_append0 (P := P) w t o.type e i z size bytes ht hi hz hsize hby hzs g hown u m ys hr h1 h63 hbytes
  obtain ⟨A, c, rfl⟩ := h2.form
  refine od_of_run (v := .slice A m c) (w' := w') ?_ (h A c w' h2 h3 h4)
  unfold execOp
  simp only [ho, resolve, invoke, builtin, Sem.run_bind, Sem.run_pure, Result.andThen_ok, List.map_toArray, List.map_cons, List.map_nil, hs, hx, hrun]
theorem od_bs0 (t e : TypeId) (size : Nat) (ho : o.op = .buildSlice t 0 #[]) (hr : ∀ w, (Instr.buildSlice t 0 #[]).run P w = .ok (.slice (some ⟨w.heap.size, 0, none⟩) 0 0) (w.alloc (.cells #[] e)))
    (h : ∀ w', Own w' e size (.slice (some ⟨w.heap.size, 0, none⟩) 0 0) 0 [] → Upd NoF w w' → post (.slice (some ⟨w.heap.size, 0, none⟩) 0 0) w') : OpDone P o ρ w post :=
  od_of_run (v := .slice (some ⟨w.heap.size, 0, none⟩) 0 0) (w' := w.alloc (.cells #[] e)) (by simp [execOp, ho, hr w]) (h _ (NewR.fresh w e size).1 ((Upd.refl NoF w).alloc _))
end
def BsE (S0 : Nat) (e : TypeId) (size : Nat) (v : Value) (w : World) : Prop := ∃ g, v = .slice (some ⟨g, 0, none⟩) 0 0 ∧ Own w e size (.slice (some ⟨g, 0, none⟩) 0 0) 0 [] ∧ S0 ≤ g
theorem stbL_bse {X S0 i : Nat} {e : TypeId} {size : Nat} (hX : X < S0) : StbL (StX X) i (BsE S0 e size) := fun _ _ _ _ _ ⟨g, e', h, hg⟩ hs => ⟨g, e', h.upd hs (fun k hk f => by have f : k = X := f; have : g = k := (by simpa [OwnB, Value.ownBlock] using hk); omega), hg⟩
theorem NwA.cap {S0 : Nat} {e : TypeId} {size n : Nat} {xs : List Value} {A : Option Addr} {c : Nat} {w : World} (h : NwA S0 e size n xs A c w) : c ≤ maxLen := by
  rcases h.1.2 with ⟨e1, -⟩ | ⟨g, cap, cur, e1, -, -, h2, -⟩
  · injection e1 with _ _ e3; subst e3; unfold maxLen; omega
  · injection e1 with _ _ e3; subst e3; exact h2
/-- A state: entries l, n counters of zero; no locks, no marks; nobody guilty. In new slices. -/
def StN (S0 n : Nat) (l : List DelS) (ri : Array Value) (w : World) : Prop := ∃ A1 c1 A2 c2 A3 c3 A4 c4, ri = #[.slice A1 l.length c1, .slice A2 n c2, .slice A3 0 c3, .slice A4 0 c4, .int .i64 0] ∧ NwA S0 109 11 l.length (l.map rowD).flatten A1 c1 w ∧ NwA S0 3 1 n (List.replicate n (Value.int .i64 0)) A2 c2 w ∧ c3 ≤ maxLen ∧ c4 ≤ maxLen
def StNv (S0 n : Nat) (l : List DelS) (v : Value) (w : World) : Prop := ∃ ri, v = .agg ri ∧ StN S0 n l ri w
theorem StN.keepX {S0 X n : Nat} {l : List DelS} {ri : Array Value} {w w' : World} (h : StN S0 n l ri w) (hX : X < S0) (hu : Upd (fun k => k = X) w w') : StN S0 n l ri w' := by
  obtain ⟨A1, c1, A2, c2, A3, c3, A4, c4, e, h1, h2, h3, h4⟩ := h
  exact ⟨A1, c1, A2, c2, A3, c3, A4, c4, e, h1.keepX hX hu, h2.keepX hX hu, h3, h4⟩
theorem StN.keep {S0 n : Nat} {l : List DelS} {ri : Array Value} {w w' : World} (h : StN S0 n l ri w) (hu : Upd NoF w w') : StN S0 n l ri w' := by
  obtain ⟨A1, c1, A2, c2, A3, c3, A4, c4, e, h1, h2, h3, h4⟩ := h
  exact ⟨A1, c1, A2, c2, A3, c3, A4, c4, e, h1.keep hu, h2.keep hu, h3, h4⟩
theorem StN.low {S0 S1 n : Nat} {l : List DelS} {ri : Array Value} {w : World} (h : StN S0 n l ri w) (hs : S1 ≤ S0) : StN S1 n l ri w := by
  obtain ⟨A1, c1, A2, c2, A3, c3, A4, c4, e, h1, h2, h3, h4⟩ := h
  exact ⟨A1, c1, A2, c2, A3, c3, A4, c4, e, ⟨h1.1, fun k hk => Nat.le_trans hs (h1.2 k hk)⟩, ⟨h2.1, fun k hk => Nat.le_trans hs (h2.2 k hk)⟩, h3, h4⟩
theorem StN.size {S0 n : Nat} {l : List DelS} {ri : Array Value} {w : World} (h : StN S0 n l ri w) : ri.size = 5 := by
  obtain ⟨A1, c1, A2, c2, A3, c3, A4, c4, rfl, -⟩ := h; rfl
theorem StN.one {S0 n : Nat} {l : List DelS} {ri : Array Value} {w : World} (h : StN S0 n l ri w) : ri.all (·.oneCell') = true := by
  obtain ⟨A1, c1, A2, c2, A3, c3, A4, c4, rfl, -⟩ := h; exact st_one _ _ _ _ _ _ _ _ _ _ _ _ _
theorem stbL_stn {X S0 i n : Nat} {l : List DelS} (hX : X < S0) : StbL (StX X) i (StNv S0 n l) := fun _ _ _ _ _ ⟨ri, e, h⟩ hs => ⟨ri, e, h.keepX hX hs⟩
/-- The same, as it reads. -/
def StR (w : World) (n : Nat) (l : List DelS) (ri : Array Value) : Prop := ∃ A1 c1 A2 c2 A3 c3 A4 c4, ri = #[.slice A1 l.length c1, .slice A2 n c2, .slice A3 0 c3, .slice A4 0 c4, .int .i64 0] ∧ Rd w 11 (.slice A1 l.length c1) l.length (l.map rowD).flatten ∧ Rd w 1 (.slice A2 n c2) n (List.replicate n (Value.int .i64 0)) ∧ c3 ≤ maxLen ∧ c4 ≤ maxLen
theorem StR.keep {w w' : World} {n : Nat} {l : List DelS} {ri : Array Value} (h : StR w n l ri) (hu : Upd NoF w w') : StR w' n l ri := by
  obtain ⟨A1, c1, A2, c2, A3, c3, A4, c4, e, h1, h2, h3, h4⟩ := h
  exact ⟨A1, c1, A2, c2, A3, c3, A4, c4, e, h1.keep hu, h2.keep hu, h3, h4⟩
theorem StN.rd {S0 n : Nat} {l : List DelS} {ri : Array Value} {w : World} (h : StN S0 n l ri w) : StR w n l ri := by
  obtain ⟨A1, c1, A2, c2, A3, c3, A4, c4, e, h1, h2, h3, h4⟩ := h
  exact ⟨A1, c1, A2, c2, A3, c3, A4, c4, e, h1.1.rd, h2.1.rd, h3, h4⟩
theorem build_st (a1 a2 a3 a4 : Option Addr) (n1 k1 n2 k2 n3 k3 n4 k4 : Nat) (w : World) : (Instr.build 34 #[(0, .slice a1 n1 k1), (1, .slice a2 n2 k2), (2, .slice a3 n3 k3), (3, .slice a4 n4 k4), (4, .int .i64 0)]).run Tryz.prog w = .ok (.agg #[.slice a1 n1 k1, .slice a2 n2 k2, .slice a3 n3 k3, .slice a4 n4 k4, .int .i64 0]) w := by kernel_rfl
theorem lock_info : (Tryz.prog.info? 118).map (fun i => (i.zero.isSome, i.zero.map (·.cells.size) == some i.size)) = some (true, true) := by kernel_rfl
set_option maxRecDepth 100000 in
set_option maxHeartbeats 16000000 in
theorem CopyState_any {w : World} {n : Nat} {l : List DelS} {sa : Array Value} (h : StR w n l sa) (hn : n ≤ 1000) (hl : l.length ≤ 1000) : Calls Tryz.prog 110 #[.agg sa] w fun e w' => ∃ sb, e = .returned (.agg sb) ∧ StN w.heap.size n l sb w' ∧ Upd NoF w w' := by
  obtain ⟨A1, c1, A2, c2, A3, c3, A4, c4, rfl, h1, h2, h3, h4⟩ := h
  obtain ⟨j0, hi0, hz00, hz01, hz02⟩ := info_parts delta_info
  obtain ⟨j1, hi1, hz10, hz11, hz12⟩ := info_parts int_info
  obtain ⟨j3, hi3, hz30, hz31, hz32⟩ := info_parts name_info
  obtain ⟨j2, zl, bl, zz, hi2, hz20, hz21, hz22, hz23⟩ : ∃ (i : TypeInfo) (s b : Nat) (z : Value), Tryz.prog.info? 118 = some i ∧ i.zero = some z ∧ i.size = s ∧ i.bytes = b ∧ z.cells.size = s := by
    have q := lock_info
    cases hi : Tryz.prog.info? 118 with
    | none => rw [hi] at q; cases q
    | some i =>
      rw [hi] at q
      simp only [Option.map_some, Option.some.injEq, Prod.mk.injEq] at q
      cases hz : i.zero with
      | none => rw [hz] at q; simp at q
      | some z =>
        rw [hz] at q
        exact ⟨i, i.size, i.bytes, z, rfl, hz, rfl, rfl, by simpa using q.2⟩
  have HR1 := Lib.hid h1
  have HR2 := Lib.hid h2
  have HC3 := Lib.hid h3
  have HC4 := Lib.hid h4
  have HBLD := Lib.hid build_st
  have HBN0 := Lib.hid (show l.length ≤ maxLen ∧ l.length * 32 ≤ 140737488355328 from by unfold maxLen; omega)
  have HBN1 := Lib.hid (show n ≤ maxLen ∧ n * 8 ≤ 140737488355328 from by unfold maxLen; omega)
  have HBN2 := Lib.hid (show 0 ≤ maxLen ∧ 0 * bl ≤ 140737488355328 from by simp)
  have HBN3 := Lib.hid (show 0 ≤ maxLen ∧ 0 * 8 ≤ 140737488355328 from by simp)
  clear h1 h2 h3 h4
  go_enter Tryz.func110, Tryz.ntmps110
  go_wp2_with (first
    | (refine wl_box rfl 34 (.tmp 0) rfl #[.slice A1 l.length c1, .slice A2 n c2, .slice A3 0 c3, .slice A4 0 c4, .int .i64 0] (by rfl) ?_; intro v0 hb0 hu0 hs0; have BX := Lib.hid hb0; have V0 := Lib.hid hu0; have S0 := Lib.hid hs0; clear hb0 hu0 hs0)
    | (refine wpList_alloc_row rfl 34 rfl zSt st_alloc ?_; intro v1 hb1 hu1 hs1; have BY1 := Lib.hid hb1; have BX1 := Lib.hid (hu1.blk BX.out (fun f => f)); have V1 := Lib.hid (V0.out.trans hu1 (fun _ _ f => f)); have S1 := Lib.hid hs1; clear hb1 hu1 hs1))
  obtain ⟨X, hX⟩ : ∃ x, w.heap.size = x := ⟨_, rfl⟩
  obtain ⟨Y, hY⟩ : ∃ x, v0.heap.size = x := ⟨_, rfl⟩
  have HX := Lib.hid hX
  have HXY := Lib.hid (show Y = X + 1 ∧ v1.heap.size = Y + 1 from by have := S0.out; have := S1.out; omega)
  rw [hX] at BX1 ⊢
  rw [hY] at BY1 ⊢
  clear hX hY BX V0 S0 S1
  obtain ⟨W1, hW1⟩ : ∃ x, x = v1 := ⟨_, rfl⟩
  rw [← hW1] at BX1 BY1 V1 HXY ⊢
  obtain ⟨S0, hS0⟩ : ∃ x, W1.drew.heap.size = x := ⟨_, rfl⟩
  have HS0 := Lib.hid hS0
  have HSU := Lib.hid (fun w' (hu : Upd NoF W1.drew w') => show S0 ≤ w'.heap.size from by have := hu.size; rw [hS0] at this; exact this)
  have HYS := Lib.hid (show Y < S0 from by have := HXY.out.2; have : W1.heap.size = S0 := hS0; omega)
  have BY := Lib.hid (show Blk W1.drew Y 34 zSt from BY1.out.drew)
  have C0 := Lib.hid (show W1.drew.cell? ⟨X, 0, none⟩ = some (.slice A1 l.length c1) from BX1.out.drew.cell 0)
  have C1 := Lib.hid (show W1.drew.cell? ⟨X, 1, none⟩ = some (.slice A2 n c2) from BX1.out.drew.cell 1)
  have C2 := Lib.hid (show W1.drew.cell? ⟨X, 2, none⟩ = some (.slice A3 0 c3) from BX1.out.drew.cell 2)
  have C3 := Lib.hid (show W1.drew.cell? ⟨X, 3, none⟩ = some (.slice A4 0 c4) from BX1.out.drew.cell 3)
  have C4 := Lib.hid (show W1.drew.cell? ⟨X, 4, none⟩ = some (.int .i64 0) from BX1.out.drew.cell 4)
  replace HR1 := Lib.hid (HR1.out.keep V1.out.drew)
  replace HR2 := Lib.hid (HR2.out.keep V1.out.drew)
  clear hW1 hS0 BX1 BY1
  refine wp_region_rgl (rgR [BsE S0 109 11, isV (.pointer (some ⟨X, 0, none⟩)), isV (.slice A1 l.length c1), NwAv S0 109 11 (l.length) (l.map rowD).flatten, BsE S0 3 1, isV (.pointer (some ⟨X, 1, none⟩)), isV (.slice A2 n c2), NwAv S0 3 1 (n) (List.replicate n (Value.int .i64 0)), BsE S0 118 zl, isV (.pointer (some ⟨X, 2, none⟩)), isV (.slice A3 0 c3), NwAv S0 118 zl (0) [], BsE S0 28 8, isV (.pointer (some ⟨X, 3, none⟩)), isV (.slice A4 0 c4), NwAv S0 28 8 (0) [], isV (.pointer (some ⟨X, 4, none⟩)), isV (.int .i64 0), StNv S0 n l, anyV]) (StX Y) (LastSt W1.drew 19 (fun w => ∃ sz, Blk w Y 34 sz ∧ StN S0 n l sz w ∧ Upd (fun k => k = Y) W1.drew w)) (by kernel_rfl) (by kernel_rfl) (by kernel_rfl) (by rfl) (fun L w => StX.same) (rgR_keepL ⟨stbL_bse HYS.out, stbL_isV _, stbL_isV _, stbL_nwA HYS.out, stbL_bse HYS.out, stbL_isV _, stbL_isV _, stbL_nwA HYS.out, stbL_bse HYS.out, stbL_isV _, stbL_isV _, stbL_nwA HYS.out, stbL_bse HYS.out, stbL_isV _, stbL_isV _, stbL_nwA HYS.out, stbL_isV _, stbL_isV _, stbL_stn HYS.out, stbL_any, trivial⟩) (LastSt.start) ?_ ?_
  · refine ⟨?_, ?_, ?_, ?_, ?_, ?_, ?_, ?_, ?_, ?_, ?_, ?_, ?_, ?_, ?_, ?_, ?_, ?_, ?_, ?_, trivial⟩
    · refine fun ρ w' L hW hLi hcl hd hdep hext hc hg hf => ?_
      rw [if_pos (show wantedR _ _ _ = true from rfl)]
      clear hdep hext
      have h19 : L 19 = false := by
        cases h : L 19 with
        | false => rfl
        | true => exact absurd (hcl 3 0 (hcl 18 3 (hcl 19 18 h (by kernel_rfl)) (by kernel_rfl)) (by kernel_rfl)) (by rw [hLi]; decide)
      refine od_bs0 31 109 11 rfl (fun w => by kernel_rfl) ?_
      intro w2 ho hu
      exact ⟨⟨_, rfl, ho, HSU.out _ (hW.u h19)⟩, StX.none hu, hW.step h19 (by decide) hu⟩
    · refine fun ρ w' L hW hLi hcl hd hdep hext hc hg hf => ?_
      rw [if_pos (show wantedR _ _ _ = true from rfl)]
      have e1 : ρ (.tmp 1) = .pointer (some ⟨X, 0, none⟩) := hext 1 (by kernel_rfl)
      clear hdep hext
      have h19 : L 19 = false := by
        cases h : L 19 with
        | false => rfl
        | true => exact absurd (hcl 2 1 (hcl 3 2 (hcl 18 3 (hcl 19 18 h (by kernel_rfl)) (by kernel_rfl)) (by kernel_rfl)) (by kernel_rfl)) (by rw [hLi]; decide)
      
      have HW := Lib.hid hW
      clear hW hcl hd hLi
      unfold OpDone
      go_simp
      exact ⟨rfl, StX.same, HW.out.same (by decide)⟩
    · refine fun ρ w' L hW hLi hcl hd hdep hext hc hg hf => ?_
      rw [if_pos (show wantedR _ _ _ = true from rfl)]
      have e4 : ρ (.tmp 4) = .pointer (some ⟨X, 0, none⟩) := hdep 1 _ rfl (by kernel_rfl)
      clear hdep hext
      have h19 : L 19 = false := by
        cases h : L 19 with
        | false => rfl
        | true => exact absurd (hcl 3 2 (hcl 18 3 (hcl 19 18 h (by kernel_rfl)) (by kernel_rfl)) (by kernel_rfl)) (by rw [hLi]; decide)
      have q0 : w'.cell? ⟨X, 0, none⟩ = some (.slice A1 l.length c1) := (hW.u h19).cell C0.out (fun f => f)
      have HW := Lib.hid hW
      clear hW hcl hd hLi
      unfold OpDone
      go_simp
      exact ⟨rfl, StX.same, HW.out.same (by decide)⟩
    · refine fun ρ w' L hW hLi hcl hd hdep hext hc hg hf => ?_
      rw [if_pos (show wantedR _ _ _ = true from rfl)]
      have e3 : (BsE S0 109 11) (ρ (.tmp 3)) w' := hdep 0 _ rfl (by kernel_rfl)
      have e5 : ρ (.tmp 5) = .slice A1 l.length c1 := hdep 2 _ rfl (by kernel_rfl)
      clear hdep hext
      have h19 : L 19 = false := by
        cases h : L 19 with
        | false => rfl
        | true => exact absurd (hcl 18 3 (hcl 19 18 h (by kernel_rfl)) (by kernel_rfl)) (by rw [hLi]; decide)
      obtain ⟨gz, e3, ho, hg⟩ := e3
      refine od_append0 (.tmp 3) (.tmp 5) 31 rfl 109 j0 _ 11 32 Tryz.underlying31 hi0 hz00 hz01 hz02 (by kernel_rfl) gz e3 ho _ (l.length) (l.map rowD).flatten e5 ((HR1.out.keep (hW.u h19))) (fun u hu => by obtain ⟨r, hr, hu⟩ := List.mem_flatten.1 hu; obtain ⟨d, -, rfl⟩ := List.mem_map.1 hr; exact rowD_one d u hu) HBN0.out.1 HBN0.out.2 ?_
      intro A9 c9 w9 hown hu hnew
      exact ⟨⟨A9, c9, rfl, hown, fun k hk => by rcases hnew k hk with f | f; (· omega); exact Nat.le_trans (HSU.out _ (hW.u h19)) f⟩, StX.none hu, hW.step h19 (by decide) hu⟩
    · refine fun ρ w' L hW hLi hcl hd hdep hext hc hg hf => ?_
      rw [if_pos (show wantedR _ _ _ = true from rfl)]
      clear hdep hext
      have h19 : L 19 = false := by
        cases h : L 19 with
        | false => rfl
        | true => exact absurd (hcl 7 4 (hcl 18 7 (hcl 19 18 h (by kernel_rfl)) (by kernel_rfl)) (by kernel_rfl)) (by rw [hLi]; decide)
      refine od_bs0 23 3 1 rfl (fun w => by kernel_rfl) ?_
      intro w2 ho hu
      exact ⟨⟨_, rfl, ho, HSU.out _ (hW.u h19)⟩, StX.none hu, hW.step h19 (by decide) hu⟩
    · refine fun ρ w' L hW hLi hcl hd hdep hext hc hg hf => ?_
      rw [if_pos (show wantedR _ _ _ = true from rfl)]
      have e1 : ρ (.tmp 1) = .pointer (some ⟨X, 0, none⟩) := hext 1 (by kernel_rfl)
      clear hdep hext
      have h19 : L 19 = false := by
        cases h : L 19 with
        | false => rfl
        | true => exact absurd (hcl 6 5 (hcl 7 6 (hcl 18 7 (hcl 19 18 h (by kernel_rfl)) (by kernel_rfl)) (by kernel_rfl)) (by kernel_rfl)) (by rw [hLi]; decide)
      
      have HW := Lib.hid hW
      clear hW hcl hd hLi
      unfold OpDone
      go_simp
      exact ⟨rfl, StX.same, HW.out.same (by decide)⟩
    · refine fun ρ w' L hW hLi hcl hd hdep hext hc hg hf => ?_
      rw [if_pos (show wantedR _ _ _ = true from rfl)]
      have e8 : ρ (.tmp 8) = .pointer (some ⟨X, 1, none⟩) := hdep 5 _ rfl (by kernel_rfl)
      clear hdep hext
      have h19 : L 19 = false := by
        cases h : L 19 with
        | false => rfl
        | true => exact absurd (hcl 7 6 (hcl 18 7 (hcl 19 18 h (by kernel_rfl)) (by kernel_rfl)) (by kernel_rfl)) (by rw [hLi]; decide)
      have q0 : w'.cell? ⟨X, 1, none⟩ = some (.slice A2 n c2) := (hW.u h19).cell C1.out (fun f => f)
      have HW := Lib.hid hW
      clear hW hcl hd hLi
      unfold OpDone
      go_simp
      exact ⟨rfl, StX.same, HW.out.same (by decide)⟩
    · refine fun ρ w' L hW hLi hcl hd hdep hext hc hg hf => ?_
      rw [if_pos (show wantedR _ _ _ = true from rfl)]
      have e7 : (BsE S0 3 1) (ρ (.tmp 7)) w' := hdep 4 _ rfl (by kernel_rfl)
      have e9 : ρ (.tmp 9) = .slice A2 n c2 := hdep 6 _ rfl (by kernel_rfl)
      clear hdep hext
      have h19 : L 19 = false := by
        cases h : L 19 with
        | false => rfl
        | true => exact absurd (hcl 18 7 (hcl 19 18 h (by kernel_rfl)) (by kernel_rfl)) (by rw [hLi]; decide)
      obtain ⟨gz, e7, ho, hg⟩ := e7
      refine od_append0 (.tmp 7) (.tmp 9) 23 rfl 3 j1 _ 1 8 Tryz.underlying23 hi1 hz10 hz11 hz12 (by kernel_rfl) gz e7 ho _ (n) (List.replicate n (Value.int .i64 0)) e9 ((HR2.out.keep (hW.u h19))) (fun u hu => by rw [List.eq_of_mem_replicate hu]; rfl) HBN1.out.1 HBN1.out.2 ?_
      intro A9 c9 w9 hown hu hnew
      exact ⟨⟨A9, c9, rfl, hown, fun k hk => by rcases hnew k hk with f | f; (· omega); exact Nat.le_trans (HSU.out _ (hW.u h19)) f⟩, StX.none hu, hW.step h19 (by decide) hu⟩
    · refine fun ρ w' L hW hLi hcl hd hdep hext hc hg hf => ?_
      rw [if_pos (show wantedR _ _ _ = true from rfl)]
      clear hdep hext
      have h19 : L 19 = false := by
        cases h : L 19 with
        | false => rfl
        | true => exact absurd (hcl 11 8 (hcl 18 11 (hcl 19 18 h (by kernel_rfl)) (by kernel_rfl)) (by kernel_rfl)) (by rw [hLi]; decide)
      refine od_bs0 32 118 zl rfl (fun w => by kernel_rfl) ?_
      intro w2 ho hu
      exact ⟨⟨_, rfl, ho, HSU.out _ (hW.u h19)⟩, StX.none hu, hW.step h19 (by decide) hu⟩
    · refine fun ρ w' L hW hLi hcl hd hdep hext hc hg hf => ?_
      rw [if_pos (show wantedR _ _ _ = true from rfl)]
      have e1 : ρ (.tmp 1) = .pointer (some ⟨X, 0, none⟩) := hext 1 (by kernel_rfl)
      clear hdep hext
      have h19 : L 19 = false := by
        cases h : L 19 with
        | false => rfl
        | true => exact absurd (hcl 10 9 (hcl 11 10 (hcl 18 11 (hcl 19 18 h (by kernel_rfl)) (by kernel_rfl)) (by kernel_rfl)) (by kernel_rfl)) (by rw [hLi]; decide)
      
      have HW := Lib.hid hW
      clear hW hcl hd hLi
      unfold OpDone
      go_simp
      exact ⟨rfl, StX.same, HW.out.same (by decide)⟩
    · refine fun ρ w' L hW hLi hcl hd hdep hext hc hg hf => ?_
      rw [if_pos (show wantedR _ _ _ = true from rfl)]
      have e12 : ρ (.tmp 12) = .pointer (some ⟨X, 2, none⟩) := hdep 9 _ rfl (by kernel_rfl)
      clear hdep hext
      have h19 : L 19 = false := by
        cases h : L 19 with
        | false => rfl
        | true => exact absurd (hcl 11 10 (hcl 18 11 (hcl 19 18 h (by kernel_rfl)) (by kernel_rfl)) (by kernel_rfl)) (by rw [hLi]; decide)
      have q0 : w'.cell? ⟨X, 2, none⟩ = some (.slice A3 0 c3) := (hW.u h19).cell C2.out (fun f => f)
      have HW := Lib.hid hW
      clear hW hcl hd hLi
      unfold OpDone
      go_simp
      exact ⟨rfl, StX.same, HW.out.same (by decide)⟩
    · refine fun ρ w' L hW hLi hcl hd hdep hext hc hg hf => ?_
      rw [if_pos (show wantedR _ _ _ = true from rfl)]
      have e11 : (BsE S0 118 zl) (ρ (.tmp 11)) w' := hdep 8 _ rfl (by kernel_rfl)
      have e13 : ρ (.tmp 13) = .slice A3 0 c3 := hdep 10 _ rfl (by kernel_rfl)
      clear hdep hext
      have h19 : L 19 = false := by
        cases h : L 19 with
        | false => rfl
        | true => exact absurd (hcl 18 11 (hcl 19 18 h (by kernel_rfl)) (by kernel_rfl)) (by rw [hLi]; decide)
      obtain ⟨gz, e11, ho, hg⟩ := e11
      refine od_append0 (.tmp 11) (.tmp 13) 32 rfl 118 j2 _ zl bl Tryz.underlying32 hi2 hz20 hz21 hz22 hz23 gz e11 ho _ (0) [] e13 (Rd.of0' w' zl HC3.out) (fun u hu => by cases hu) HBN2.out.1 HBN2.out.2 ?_
      intro A9 c9 w9 hown hu hnew
      exact ⟨⟨A9, c9, rfl, hown, fun k hk => by rcases hnew k hk with f | f; (· omega); exact Nat.le_trans (HSU.out _ (hW.u h19)) f⟩, StX.none hu, hW.step h19 (by decide) hu⟩
    · refine fun ρ w' L hW hLi hcl hd hdep hext hc hg hf => ?_
      rw [if_pos (show wantedR _ _ _ = true from rfl)]
      clear hdep hext
      have h19 : L 19 = false := by
        cases h : L 19 with
        | false => rfl
        | true => exact absurd (hcl 15 12 (hcl 18 15 (hcl 19 18 h (by kernel_rfl)) (by kernel_rfl)) (by kernel_rfl)) (by rw [hLi]; decide)
      refine od_bs0 22 28 8 rfl (fun w => by kernel_rfl) ?_
      intro w2 ho hu
      exact ⟨⟨_, rfl, ho, HSU.out _ (hW.u h19)⟩, StX.none hu, hW.step h19 (by decide) hu⟩
    · refine fun ρ w' L hW hLi hcl hd hdep hext hc hg hf => ?_
      rw [if_pos (show wantedR _ _ _ = true from rfl)]
      have e1 : ρ (.tmp 1) = .pointer (some ⟨X, 0, none⟩) := hext 1 (by kernel_rfl)
      clear hdep hext
      have h19 : L 19 = false := by
        cases h : L 19 with
        | false => rfl
        | true => exact absurd (hcl 14 13 (hcl 15 14 (hcl 18 15 (hcl 19 18 h (by kernel_rfl)) (by kernel_rfl)) (by kernel_rfl)) (by kernel_rfl)) (by rw [hLi]; decide)
      
      have HW := Lib.hid hW
      clear hW hcl hd hLi
      unfold OpDone
      go_simp
      exact ⟨rfl, StX.same, HW.out.same (by decide)⟩
    · refine fun ρ w' L hW hLi hcl hd hdep hext hc hg hf => ?_
      rw [if_pos (show wantedR _ _ _ = true from rfl)]
      have e16 : ρ (.tmp 16) = .pointer (some ⟨X, 3, none⟩) := hdep 13 _ rfl (by kernel_rfl)
      clear hdep hext
      have h19 : L 19 = false := by
        cases h : L 19 with
        | false => rfl
        | true => exact absurd (hcl 15 14 (hcl 18 15 (hcl 19 18 h (by kernel_rfl)) (by kernel_rfl)) (by kernel_rfl)) (by rw [hLi]; decide)
      have q0 : w'.cell? ⟨X, 3, none⟩ = some (.slice A4 0 c4) := (hW.u h19).cell C3.out (fun f => f)
      have HW := Lib.hid hW
      clear hW hcl hd hLi
      unfold OpDone
      go_simp
      exact ⟨rfl, StX.same, HW.out.same (by decide)⟩
    · refine fun ρ w' L hW hLi hcl hd hdep hext hc hg hf => ?_
      rw [if_pos (show wantedR _ _ _ = true from rfl)]
      have e15 : (BsE S0 28 8) (ρ (.tmp 15)) w' := hdep 12 _ rfl (by kernel_rfl)
      have e17 : ρ (.tmp 17) = .slice A4 0 c4 := hdep 14 _ rfl (by kernel_rfl)
      clear hdep hext
      have h19 : L 19 = false := by
        cases h : L 19 with
        | false => rfl
        | true => exact absurd (hcl 18 15 (hcl 19 18 h (by kernel_rfl)) (by kernel_rfl)) (by rw [hLi]; decide)
      obtain ⟨gz, e15, ho, hg⟩ := e15
      refine od_append0 (.tmp 15) (.tmp 17) 22 rfl 28 j3 _ 8 8 Tryz.underlying22 hi3 hz30 hz31 hz32 (by kernel_rfl) gz e15 ho _ (0) [] e17 (Rd.of0' w' 8 HC4.out) (fun u hu => by cases hu) HBN3.out.1 HBN3.out.2 ?_
      intro A9 c9 w9 hown hu hnew
      exact ⟨⟨A9, c9, rfl, hown, fun k hk => by rcases hnew k hk with f | f; (· omega); exact Nat.le_trans (HSU.out _ (hW.u h19)) f⟩, StX.none hu, hW.step h19 (by decide) hu⟩
    · refine fun ρ w' L hW hLi hcl hd hdep hext hc hg hf => ?_
      rw [if_pos (show wantedR _ _ _ = true from rfl)]
      have e1 : ρ (.tmp 1) = .pointer (some ⟨X, 0, none⟩) := hext 1 (by kernel_rfl)
      clear hdep hext
      have h19 : L 19 = false := by
        cases h : L 19 with
        | false => rfl
        | true => exact absurd (hcl 17 16 (hcl 18 17 (hcl 19 18 h (by kernel_rfl)) (by kernel_rfl)) (by kernel_rfl)) (by rw [hLi]; decide)
      
      have HW := Lib.hid hW
      clear hW hcl hd hLi
      unfold OpDone
      go_simp
      exact ⟨rfl, StX.same, HW.out.same (by decide)⟩
    · refine fun ρ w' L hW hLi hcl hd hdep hext hc hg hf => ?_
      rw [if_pos (show wantedR _ _ _ = true from rfl)]
      have e19 : ρ (.tmp 19) = .pointer (some ⟨X, 4, none⟩) := hdep 16 _ rfl (by kernel_rfl)
      clear hdep hext
      have h19 : L 19 = false := by
        cases h : L 19 with
        | false => rfl
        | true => exact absurd (hcl 18 17 (hcl 19 18 h (by kernel_rfl)) (by kernel_rfl)) (by rw [hLi]; decide)
      have q0 : w'.cell? ⟨X, 4, none⟩ = some (.int .i64 0) := (hW.u h19).cell C4.out (fun f => f)
      have HW := Lib.hid hW
      clear hW hcl hd hLi
      unfold OpDone
      go_simp
      exact ⟨rfl, StX.same, HW.out.same (by decide)⟩
    · refine fun ρ w' L hW hLi hcl hd hdep hext hc hg hf => ?_
      rw [if_pos (show wantedR _ _ _ = true from rfl)]
      have e6 : (NwAv S0 109 11 (l.length) (l.map rowD).flatten) (ρ (.tmp 6)) w' := hdep 3 _ rfl (by kernel_rfl)
      have e10 : (NwAv S0 3 1 (n) (List.replicate n (Value.int .i64 0))) (ρ (.tmp 10)) w' := hdep 7 _ rfl (by kernel_rfl)
      have e14 : (NwAv S0 118 zl (0) []) (ρ (.tmp 14)) w' := hdep 11 _ rfl (by kernel_rfl)
      have e18 : (NwAv S0 28 8 (0) []) (ρ (.tmp 18)) w' := hdep 15 _ rfl (by kernel_rfl)
      have e20 : ρ (.tmp 20) = .int .i64 0 := hdep 17 _ rfl (by kernel_rfl)
      clear hdep hext
      have h19 : L 19 = false := by
        cases h : L 19 with
        | false => rfl
        | true => exact absurd (hcl 19 18 h (by kernel_rfl)) (by rw [hLi]; decide)
      obtain ⟨a1, k1, e6, n1⟩ := e6
      obtain ⟨a2, k2, e10, n2⟩ := e10
      obtain ⟨a3, k3, e14, n3⟩ := e14
      obtain ⟨a4, k4, e18, n4⟩ := e18
      refine od_build 34 #[(0, .tmp 6), (1, .tmp 10), (2, .tmp 14), (3, .tmp 18), (4, .tmp 20)] rfl #[(0, .slice a1 l.length k1), (1, .slice a2 n k2), (2, .slice a3 0 k3), (3, .slice a4 0 k4), (4, .int .i64 0)] (by simp [e6, e10, e14, e18, e20]) (HBLD.out a1 a2 a3 a4 _ _ _ _ _ _ _ _ w') ?_
      exact ⟨⟨_, rfl, a1, k1, a2, k2, a3, k3, a4, k4, rfl, n1, n2, n3.cap, n4.cap⟩, StX.same, hW.same (by decide)⟩
    · refine fun ρ w' L hW hLi hcl hd hdep hext hc hg hf => ?_
      rw [if_pos (show wantedR _ _ _ = true from rfl)]
      have e2 : ρ (.tmp 2) = .pointer (some ⟨Y, 0, none⟩) := hext 2 (by kernel_rfl)
      have e21 : (StNv S0 n l) (ρ (.tmp 21)) w' := hdep 18 _ rfl (by kernel_rfl)
      clear hdep hext
      have h19 : L 19 = false := hLi
      obtain ⟨sz, e21, hst⟩ := e21
      have hsz : sz.size = 5 := by obtain ⟨a1, k1, a2, k2, a3, k3, a4, k4, rfl, -⟩ := hst; rfl
      refine od_store_row 34 (.tmp 2) (.tmp 21) rfl Y e2 sz e21 34 zSt ((hW.u h19).blk BY.out (fun f => f)) (by rw [hsz]; rfl) (by rw [hsz]; exact st_size) (by obtain ⟨a1, k1, a2, k2, a3, k3, a4, k4, rfl, -⟩ := hst; exact st_one _ _ _ _ _ _ _ _ _ _ _ _ _) ?_
      intro w9 hb9 hu9 hs9
      exact ⟨trivial, hu9, LastSt.last ⟨sz, hb9, hst.keepX HYS.out hu9, (hW.u h19).mono (fun _ _ f => f.elim) |>.trans hu9 (fun _ _ f => f)⟩⟩
  intro vs W3 L3 hL3 hW3 hR
  have hr0 : (BsE S0 109 11) (vs 0) W3 := hR 0 _ rfl
  obtain ⟨g0, hv0, -⟩ := hr0
  have hv1 : vs 1 = .pointer (some ⟨X, 0, none⟩) := hR 1 _ rfl
  have hv2 : vs 2 = .slice A1 l.length c1 := hR 2 _ rfl
  have hr3 : (NwAv S0 109 11 (l.length) (l.map rowD).flatten) (vs 3) W3 := hR 3 _ rfl
  obtain ⟨a0, k0, hv3, -⟩ := hr3
  have hr4 : (BsE S0 3 1) (vs 4) W3 := hR 4 _ rfl
  obtain ⟨g4, hv4, -⟩ := hr4
  have hv5 : vs 5 = .pointer (some ⟨X, 1, none⟩) := hR 5 _ rfl
  have hv6 : vs 6 = .slice A2 n c2 := hR 6 _ rfl
  have hr7 : (NwAv S0 3 1 (n) (List.replicate n (Value.int .i64 0))) (vs 7) W3 := hR 7 _ rfl
  obtain ⟨a4, k4, hv7, -⟩ := hr7
  have hr8 : (BsE S0 118 zl) (vs 8) W3 := hR 8 _ rfl
  obtain ⟨g8, hv8, -⟩ := hr8
  have hv9 : vs 9 = .pointer (some ⟨X, 2, none⟩) := hR 9 _ rfl
  have hv10 : vs 10 = .slice A3 0 c3 := hR 10 _ rfl
  have hr11 : (NwAv S0 118 zl (0) []) (vs 11) W3 := hR 11 _ rfl
  obtain ⟨a8, k8, hv11, -⟩ := hr11
  have hr12 : (BsE S0 28 8) (vs 12) W3 := hR 12 _ rfl
  obtain ⟨g12, hv12, -⟩ := hr12
  have hv13 : vs 13 = .pointer (some ⟨X, 3, none⟩) := hR 13 _ rfl
  have hv14 : vs 14 = .slice A4 0 c4 := hR 14 _ rfl
  have hr15 : (NwAv S0 28 8 (0) []) (vs 15) W3 := hR 15 _ rfl
  obtain ⟨a12, k12, hv15, -⟩ := hr15
  have hv16 : vs 16 = .pointer (some ⟨X, 4, none⟩) := hR 16 _ rfl
  have hv17 : vs 17 = .int .i64 0 := hR 17 _ rfl
  have hr18 : (StNv S0 n l) (vs 18) W3 := hR 18 _ rfl
  obtain ⟨sz, hv18, -⟩ := hr18
  simp only [putAll, Act.put, List.setIfInBounds_toArray, List.set_cons_zero, List.set_cons_succ, hv0, hv1, hv2, hv3, hv4, hv5, hv6, hv7, hv8, hv9, hv10, hv11, hv12, hv13, hv14, hv15, hv16, hv17, hv18]
  clear hR hv0 hv1 hv2 hv3 hv4 hv5 hv6 hv7 hv8 hv9 hv10 hv11 hv12 hv13 hv14 hv15 hv16 hv17 hv18
  obtain ⟨sz, hb3, hst3, hu3⟩ := hW3.f (hL3 19 (by decide))
  have B3 := Lib.hid hb3
  have N3 := Lib.hid hst3
  have U3 := Lib.hid hu3
  clear hW3 hb3 hst3 hu3
  go_wp2_with fail
  refine bodyPost_ret (results_cell_row Tryz.results110 _ _ Y 34 sz (0, 0) _ rfl B3.out Tryz.underlying34 rfl (by rw [st_size, N3.out.size])) rfl ⟨sz, rfl, N3.out.low (by have := HXY.out; have := HX.out; have := HYS.out; omega), ?_⟩
  exact V1.out.drew.trans U3.out (fun j hj f => by have f : j = Y := f; have := HXY.out; have := HX.out; omega)
theorem rowsD_at {l : List DelS} (h : ∀ d ∈ l, d.Fit) {w : World} {A : Option Addr} {q c k : Nat} (hq : l.length = q) (hr : Rd w 11 (.slice A q c) q (l.map rowD).flatten) {d : DelS} (hd : l[k]? = some d) : ∃ g o, A = some ⟨g, o, none⟩ ∧ w.rangeAt g (o + k * 11) (rowD d) :=
  rows_at (K := 11) (rows := l.map rowD) (fun r hr => by obtain ⟨d, hd, rfl⟩ := List.mem_map.1 hr; exact rowD_len (h d hd)) hr (by rw [List.getElem?_map, hd]; rfl) (by rw [← hq]; exact (List.getElem?_eq_some_iff.1 hd).1)
set_option maxRecDepth 100000 in
set_option maxHeartbeats 8000000 in
theorem r20at_none {w : World} {n : Nat} {l : List DelS} {sa : Array Value} (h : StR w n l sa) (hl : l.length ≤ 1000) (hf : ∀ d ∈ l, d.Fit) {cd : DelS} {ca : Array Value} (hc : cd.lock.length = 8) (hca : (cellC cd).toArray = ca) (hno : ∀ d ∈ l, sameC d cd = false) : Calls Tryz.prog 111 #[.agg sa, .agg ca] w fun e w' => e = .returned (.int .i64 (-1)) ∧ Upd NoF w w' := by
  obtain ⟨A1, c1, A2, c2, A3, c3, A4, c4, rfl, h1, h2, h3, h4⟩ := h
  have HR1 := Lib.hid h1
  have HF := Lib.hid hf
  have HNO := Lib.hid hno
  have HC8 := Lib.hid hc
  have HCAE := Lib.hid hca
  have HCA := Lib.hid (show ca.size = 10 from by rw [← hca]; simp [cellC, hc])
  obtain ⟨q, hq⟩ : ∃ q, l.length = q := ⟨_, rfl⟩
  have HQ := Lib.hid hq
  rw [hq] at HR1 hl ⊢
  clear h1 h2 h3 h4 hf hno hc hca hq
  go_enter Tryz.func111, Tryz.ntmps111
  go_wp2_with (first
    | (refine wl_box rfl 34 (.tmp 0) rfl #[.slice A1 q c1, .slice A2 n c2, .slice A3 0 c3, .slice A4 0 c4, .int .i64 0] (by rfl) ?_; intro v0 hb0 hu0 hs0; have BX := Lib.hid hb0; have V0 := Lib.hid hu0; clear hb0 hu0 hs0)
    | (refine wl_box rfl 107 (.tmp 1) rfl ca (by rfl) ?_; intro v1 hb1 hu1 hs1; have BY := Lib.hid hb1; have BX1 := Lib.hid (hu1.blk BX.out (fun f => f)); have V1 := Lib.hid (V0.out.trans hu1 (fun _ _ f => f)); clear hb1 hu1 hs1))
  obtain ⟨X, hX⟩ : ∃ x, w.heap.size = x := ⟨_, rfl⟩
  obtain ⟨Y, hY⟩ : ∃ x, v0.heap.size = x := ⟨_, rfl⟩
  rw [hX] at BX1 ⊢
  rw [hY] at BY ⊢
  clear hX hY BX V0
  go_loopw [5] (fun s5 wr => ∃ k : Nat, s5 = .int .i64 (k : Int) ∧ k ≤ q ∧ Upd NoF v1 wr) (fun i _ => q - (intOf i).toNat)
  case atStart => exact ⟨0, rfl, Nat.zero_le _, Upd.refl _ _⟩
  case round =>
    obtain ⟨k, rfl, hk, hu⟩ := hrel
    have HU := Lib.hid hu
    clear hu
    have y0 := (HU.out.blk BX1.out (fun f => f)).cell 0
    by_cases hlt : k < q
    · have t1 : decide ((k : Int) < (q : Int)) = true := by simp; omega
      have HLT := Lib.hid (show (k : Int) < (q : Int) from by omega)
      obtain ⟨d, hd⟩ : ∃ y, l[k]? = some y := ⟨_, List.getElem?_eq_getElem (by rw [HQ.out]; exact hlt)⟩
      have hdm := List.mem_of_getElem? hd
      obtain ⟨g, o, rfl, hrow⟩ := rowsD_at HF.out HQ.out HR1.out hd
      have RD := Lib.hid (show ∀ wq, Upd NoF wr.drew wq → wq.rangeAt g (o + k * 11) (cellC d) from fun wq hq j v hv => ((V1.out.trans HU.out (fun _ _ f => f)).drew.trans hq (fun _ _ f => f)).cell (hrow j v (by unfold rowD; rw [List.getElem?_append_left (List.getElem?_eq_some_iff.1 hv).1]; exact hv)) (fun f => f))
      have HDL := Lib.hid (cellC_len (HF.out d hdm))
      obtain ⟨zd, hzd⟩ : ∃ y, (cellC d).toArray = y := ⟨_, rfl⟩
      have HZD := Lib.hid hzd
      have HE := Lib.hid (show ∀ w, (binOp .eql 107 (.agg zd) (.agg ca)).run Tryz.prog w = .ok (.bool false) w from fun w => by
        have e := cell_eql d cd (HF.out d hdm).lock HC8.out w
        rw [HNO.out d hdm] at e
        rw [← hzd, ← HCAE.out]
        exact e)
      have C0 := Lib.hid (show wr.drew.cell? ⟨X, 0, none⟩ = some (.slice (some ⟨g, o, none⟩) q c1) from (HU.out.blk BX1.out (fun f => f)).drew.cell 0)
      have BYr := Lib.hid (show Blk wr.drew Y 107 ca from (HU.out.blk BY.out (fun f => f)).drew)
      have ww : IntKind.i64.wrap ((k : Int) + 1) = (k : Int) + 1 := IntWalk.i64_in _ (by omega)
      clear hd hdm hrow hzd
      go_wp2_with fail
      refine wp_region_rgw (rgR [isV (.pointer (some ⟨X, 0, none⟩)), isV (.slice (some ⟨g, o, none⟩) q c1), isV (.int .i64 (k : Int)), isV (.pointer (some ⟨g, o + k * 11, none⟩)), isV (.pointer (some ⟨g, o + k * 11, none⟩)), isV (.agg zd), isV (.agg ca), isV (.bool false)]) (fun w w' => Upd NoF w w') (fun _ wq => Upd NoF wr.drew wq) (by kernel_rfl) (by kernel_rfl) (by kernel_rfl) (by rfl) (fun w => Upd.refl _ _) (rgR_keep (by
        intro p hp; simp only [List.mem_cons, List.not_mem_nil, or_false] at hp; rcases hp with rfl | rfl | rfl | rfl | rfl | rfl | rfl | rfl <;> first | exact stb_isV _ | exact stb_any)) (Upd.refl _ _) ?_ ?_
      · refine ⟨?_, ?_, ?_, ?_, ?_, ?_, ?_, ?_, trivial⟩
        · refine fun ρ w' L hW hLi hcl hd hdep hext hc hg hf => ?_
          rw [if_pos (show wantedR _ _ _ = true from rfl)]
          have e2 : ρ (.tmp 2) = .pointer (some ⟨X, 0, none⟩) := hext 2 (by kernel_rfl)
          clear hdep hext hcl
          have HW := Lib.hid hW
          clear hW
          unfold OpDone
          go_simp
          exact ⟨rfl, Upd.refl _ _, HW.out⟩
        · refine fun ρ w' L hW hLi hcl hd hdep hext hc hg hf => ?_
          rw [if_pos (show wantedR _ _ _ = true from rfl)]
          have e13 : ρ (.tmp 13) = .pointer (some ⟨X, 0, none⟩) := hdep 0 _ rfl (by kernel_rfl)
          have q0 : w'.cell? ⟨X, 0, none⟩ = some (.slice (some ⟨g, o, none⟩) q c1) := hW.cell C0.out (fun f => f)
          clear hdep hext hcl
          have HW := Lib.hid hW
          clear hW
          unfold OpDone
          go_simp
          exact ⟨rfl, Upd.refl _ _, HW.out⟩
        · refine fun ρ w' L hW hLi hcl hd hdep hext hc hg hf => ?_
          rw [if_pos (show wantedR _ _ _ = true from rfl)]
          have e5 : ρ (.tmp 5) = .int .i64 (k : Int) := hext 5 (by kernel_rfl)
          clear hdep hext hcl
          have HW := Lib.hid hW
          clear hW
          unfold OpDone
          go_simp
          exact ⟨rfl, Upd.refl _ _, HW.out⟩
        · refine fun ρ w' L hW hLi hcl hd hdep hext hc hg hf => ?_
          rw [if_pos (show wantedR _ _ _ = true from rfl)]
          have e14 : ρ (.tmp 14) = .slice (some ⟨g, o, none⟩) q c1 := hdep 1 _ rfl (by kernel_rfl)
          have e15 : ρ (.tmp 15) = .int .i64 (k : Int) := hdep 2 _ rfl (by kernel_rfl)
          have q0 : (0 : Int) ≤ (k : Int) := by omega
          have q1 : (k : Int) < (q : Int) := HLT.out
          have q2 : k < q := by omega
          have q3 : ((k : Int)).toNat = k := by omega
          clear hdep hext hcl
          have HW := Lib.hid hW
          clear hW
          unfold OpDone
          go_simp
          exact ⟨rfl, Upd.refl _ _, HW.out⟩
        · refine fun ρ w' L hW hLi hcl hd hdep hext hc hg hf => ?_
          rw [if_pos (show wantedR _ _ _ = true from rfl)]
          have e16 : ρ (.tmp 16) = .pointer (some ⟨g, o + k * 11, none⟩) := hdep 3 _ rfl (by kernel_rfl)
          clear hdep hext hcl
          have HW := Lib.hid hW
          clear hW
          unfold OpDone
          go_simp
          exact ⟨rfl, Upd.refl _ _, HW.out⟩
        · refine fun ρ w' L hW hLi hcl hd hdep hext hc hg hf => ?_
          rw [if_pos (show wantedR _ _ _ = true from rfl)]
          have e17 : ρ (.tmp 17) = .pointer (some ⟨g, o + k * 11, none⟩) := hdep 4 _ rfl (by kernel_rfl)
          clear hdep hext
          refine od_load_row 107 (.tmp 17) rfl g (o + k * 11) e17 (cellC d) _ (RD.out w' hW) Tryz.underlying107 rfl (by rw [HDL.out]; exact cell_size) ?_
          rw [HZD.out]
          exact ⟨rfl, Upd.refl _ _, hW⟩
        · refine fun ρ w' L hW hLi hcl hd hdep hext hc hg hf => ?_
          rw [if_pos (show wantedR _ _ _ = true from rfl)]
          have e3 : ρ (.tmp 3) = .pointer (some ⟨Y, 0, none⟩) := hext 3 (by kernel_rfl)
          clear hdep hext
          refine od_load_row 107 (.tmp 3) rfl Y 0 e3 ca.toList _ (range_blk (by rw [Array.toArray_toList]; exact hW.blk BYr.out (fun f => f))) Tryz.underlying107 rfl (by rw [Array.length_toList, HCA.out]; exact cell_size) ?_
          rw [show ca.toList.toArray = ca from by simp]
          exact ⟨rfl, Upd.refl _ _, hW⟩
        · refine fun ρ w' L hW hLi hcl hd hdep hext hc hg hf => ?_
          rw [if_pos (show wantedR _ _ _ = true from rfl)]
          have e18 : ρ (.tmp 18) = .agg zd := hdep 5 _ rfl (by kernel_rfl)
          have e19 : ρ (.tmp 19) = .agg ca := hdep 6 _ rfl (by kernel_rfl)
          clear hdep hext
          have hE : ∀ w, (binOp .eql 107 (.agg zd) (.agg ca)).run Tryz.prog w = .ok (.bool false) w := fun w => HE.out w
          have HW := Lib.hid hW
          clear hW
          unfold OpDone
          go_simp
          exact ⟨rfl, Upd.refl _ _, HW.out⟩
      intro vs W8 L8 hL8 hW8 hR
      have hv0 : vs 0 = .pointer (some ⟨X, 0, none⟩) := hR 0 _ rfl
      have hv1 : vs 1 = .slice (some ⟨g, o, none⟩) q c1 := hR 1 _ rfl
      have hv2 : vs 2 = .int .i64 (k : Int) := hR 2 _ rfl
      have hv3 : vs 3 = .pointer (some ⟨g, o + k * 11, none⟩) := hR 3 _ rfl
      have hv4 : vs 4 = .pointer (some ⟨g, o + k * 11, none⟩) := hR 4 _ rfl
      have hv5 : vs 5 = .agg zd := hR 5 _ rfl
      have hv6 : vs 6 = .agg ca := hR 6 _ rfl
      have hv7 : vs 7 = .bool false := hR 7 _ rfl
      simp only [putAll, Act.put, List.setIfInBounds_toArray, List.set_cons_zero, List.set_cons_succ, hv0, hv1, hv2, hv3, hv4, hv5, hv6, hv7]
      clear hR hv0 hv1 hv2 hv3 hv4 hv5 hv6 hv7
      have HU8 := Lib.hid (show Upd NoF v1 W8 from HU.out.trans (((Upd.refl NoF wr).drew).trans hW8 (fun _ _ f => f)) (fun _ _ f => f))
      clear hW8
      go_wp2
      go_roundw
      case rel => exact ⟨k + 1, by go_num, by omega, HU8.out⟩
      case measure => simp [intOf]; omega
    · obtain rfl : k = q := by omega
      have t1 : decide ((k : Int) < (k : Int)) = false := by simp
      go_wp2
      go_ret
      exact ⟨rfl, V1.out.trans HU.out (fun _ _ f => f)⟩
set_option maxRecDepth 100000 in
set_option maxHeartbeats 2000000 in
theorem r20compare_lt (a b : Int) (h : a < b) (w : World) : Calls Tryz.prog 152 #[.int .i64 a, .int .i64 b] w fun e w' => e = .returned (.int .i64 (-1)) ∧ w' = w := by
  have t1 : decide (a < b) = true := decide_eq_true h
  go_enter Tryz.func152, Tryz.ntmps152
  go_wp2
  go_ret
  exact ⟨rfl, rfl⟩
set_option maxRecDepth 100000 in
set_option maxHeartbeats 2000000 in
theorem r20compare_eq (a : Int) (w : World) : Calls Tryz.prog 152 #[.int .i64 a, .int .i64 a] w fun e w' => e = .returned (.int .i64 0) ∧ w' = w := by
  have t1 : decide (a < a) = false := by simp
  go_enter Tryz.func152, Tryz.ntmps152
  go_wp2
  go_ret
  exact ⟨rfl, rfl⟩
def LtC (a b : DelS) : Prop := a.kind < b.kind ∨ a.kind = b.kind ∧ a.id < b.id
theorem LtC.ne {a b : DelS} (h : LtC a b) : sameC a b = false := by
  unfold sameC
  rw [decide_eq_false_iff_not]
  rintro ⟨h1, h2, -⟩
  rcases h with h | ⟨-, h⟩ <;> omega
theorem cells_two {d : DelS} {ca : Array Value} (h : (cellC d).toArray = ca) : ca[0]? = some (.int .i64 d.kind) ∧ ca[1]? = some (.int .i64 d.id) := by
  rw [← h, List.getElem?_toArray, List.getElem?_toArray]
  exact ⟨rfl, rfl⟩
set_option maxRecDepth 100000 in
set_option maxHeartbeats 4000000 in
theorem r20Compare_lt {a b : DelS} {ca cb : Array Value} (ha : (cellC a).toArray = ca) (hb : (cellC b).toArray = cb) (h : LtC a b) (w : World) : Calls Tryz.prog 112 #[.agg ca, .agg cb] w fun e w' => e = .returned (.int .i64 (-1)) ∧ Upd NoF w w' := by
  obtain ⟨a0, a1⟩ := cells_two ha
  obtain ⟨b0, b1⟩ := cells_two hb
  obtain ⟨z0, hz0⟩ : ∃ z, a.kind = z := ⟨_, rfl⟩
  obtain ⟨z1, hz1⟩ : ∃ z, a.id = z := ⟨_, rfl⟩
  obtain ⟨y0, hy0⟩ : ∃ z, b.kind = z := ⟨_, rfl⟩
  obtain ⟨y1, hy1⟩ : ∃ z, b.id = z := ⟨_, rfl⟩
  rw [hz0] at a0
  rw [hz1] at a1
  rw [hy0] at b0
  rw [hy1] at b1
  unfold LtC at h
  rw [hz0, hz1, hy0, hy1] at h
  have HA0 := Lib.hid a0
  have HA1 := Lib.hid a1
  have HB0 := Lib.hid b0
  have HB1 := Lib.hid b1
  clear ha hb hz0 hz1 hy0 hy1 a0 a1 b0 b1
  rcases h with h | ⟨h0, h1⟩
  · have CK := Lib.hid (fun W => r20compare_lt z0 y0 h W)
    clear h
    go_enter Tryz.func112, Tryz.ntmps112
    go_wp2_with (first
      | (refine wl_box rfl 107 (.tmp 0) rfl ca (by rfl) ?_; intro v0 hb0 hu0 hs0; have BX := Lib.hid hb0; have V0 := Lib.hid hu0; clear hb0 hu0 hs0)
      | (refine wl_box rfl 107 (.tmp 1) rfl cb (by rfl) ?_; intro v1 hb1 hu1 hs1; have V1 := Lib.hid (V0.out.trans hu1 (fun _ _ f => f)); have x0 := ((hu1.blk BX.out (fun f => f)).cell 0).trans HA0.out; have y0' := (hb1.cell 0).trans HB0.out; clear hb1 hu1 hs1)
      | (with_reducible show Calls _ 152 _ _ _; refine (CK.out _).mono ?_; rintro e w1 ⟨rfl, rfl⟩))
    go_ret
    exact ⟨rfl, V1.out⟩
  · subst h0
    have CK := Lib.hid (fun W => r20compare_eq z0 W)
    have CI := Lib.hid (fun W => r20compare_lt z1 y1 h1 W)
    clear h1
    go_enter Tryz.func112, Tryz.ntmps112
    go_wp2_with (first
      | (refine wl_box rfl 107 (.tmp 0) rfl ca (by rfl) ?_; intro v0 hb0 hu0 hs0; have BX := Lib.hid hb0; have V0 := Lib.hid hu0; clear hb0 hu0 hs0)
      | (refine wl_box rfl 107 (.tmp 1) rfl cb (by rfl) ?_; intro v1 hb1 hu1 hs1; have V1 := Lib.hid (V0.out.trans hu1 (fun _ _ f => f)); have x0 := ((hu1.blk BX.out (fun f => f)).cell 0).trans HA0.out; have y0' := (hb1.cell 0).trans HB0.out; have x1 := ((hu1.blk BX.out (fun f => f)).cell 1).trans HA1.out; have y1' := (hb1.cell 1).trans HB1.out; clear hb1 hu1 hs1)
      | (with_reducible show Calls _ 152 #[.int .i64 z0, .int .i64 z0] _ _; refine (CK.out _).mono ?_; rintro e w1 ⟨rfl, rfl⟩)
      | (with_reducible show Calls _ 152 #[.int .i64 z1, .int .i64 y1] _ _; refine (CI.out _).mono ?_; rintro e w1 ⟨rfl, rfl⟩))
    go_ret
    exact ⟨rfl, V1.out⟩
end

section
open Go.RowKit Go.Shelf Go.Lib

/-- Row i of a block is the name t. -/
def RowIn (cur : Array Value) (i : Nat) (t : List UInt8) : Prop := ∀ j v, (t.map byteV)[j]? = some v → cur[i * 8 + j]? = some v
/-- Row q has been written. -/
def RowSet (cur cur' : Array Value) (q : Nat) (cells : Array Value) : Prop := cur'.size = cur.size ∧ ∀ j, cur'[j]? = if q * 8 ≤ j ∧ j < q * 8 + cells.size then cells[j - q * 8]? else cur[j]?
theorem RowIn.range {w : World} {g i : Nat} {ty : TypeId} {cur : Array Value} {t : List UInt8} (h : RowIn cur i t) (hb : Blk w g ty cur) : w.rangeAt g (i * 8) (t.map byteV) := fun j v hj => by
  rw [hb.cell]
  exact h j v hj
theorem RowSet.same {cur cur' : Array Value} {q : Nat} {t : List UInt8} (h : RowSet cur cur' q (t.map byteV).toArray) : RowIn cur' q t := fun j v hj => by
  have hlt := (List.getElem?_eq_some_iff.1 hj).1
  rw [h.2, if_pos (by simp at hlt ⊢; omega), show q * 8 + j - q * 8 = j by omega, List.getElem?_toArray]
  exact hj
theorem RowSet.other {cur cur' : Array Value} {q i : Nat} {t s : List UInt8} (h : RowSet cur cur' q (t.map byteV).toArray) (ht : t.length = 8) (hs : s.length = 8) (hne : i ≠ q) (hi : RowIn cur i s) : RowIn cur' i s := fun j v hj => by
  have hlt := (List.getElem?_eq_some_iff.1 hj).1
  rw [h.2, if_neg (by simp at hlt ⊢; rcases Nat.lt_or_ge i q with h1 | h1 <;> omega)]
  exact hi j v hj
theorem own_rows {w : World} {g q c : Nat} {e : TypeId} {cur : Array Value} {m : List (List UInt8)} (hb : Blk w g e cur) (h8 : All8 m) (hq : m.length = q) (hr : ∀ (i : Nat) t, m[i]? = some t → RowIn cur i t) (hc : q ≤ c) (hm : c ≤ maxLen) (hs : c * 8 ≤ cur.size) : Own w e 8 (.slice (some ⟨g, 0, none⟩) q c) q ((m.map (·.map byteV)).flatten) := by
  have hl : ((m.map (·.map byteV)).flatten).length = q * 8 := by
    rw [List.length_flatten, List.map_map]
    have : (m.map (List.length ∘ fun x => x.map byteV)) = List.replicate q 8 := by
      rw [List.eq_replicate_iff]
      refine ⟨by simp [hq], fun b hb => ?_⟩
      obtain ⟨x, hx, rfl⟩ := List.mem_map.1 hb
      simp [h8 x hx]
    rw [this, List.sum_replicate_nat]
  refine ⟨hl, .inr ⟨g, c, cur, rfl, hb, hc, hm, hs, ?_⟩⟩
  apply List.ext_getElem?
  intro t
  rw [List.getElem?_take]
  by_cases ht : t < q * 8
  · rw [if_pos ht]
    have hi : t / 8 < m.length := by omega
    have hj : t % 8 < 8 := Nat.mod_lt _ (by omega)
    have hrow : (m.map (·.map byteV))[t / 8]? = some (m[t / 8].map byteV) := by rw [List.getElem?_map, List.getElem?_eq_getElem hi]; rfl
    have h1 := flatten_at (k := 8) (rows := m.map (·.map byteV)) (fun r hr => by obtain ⟨x, hx, rfl⟩ := List.mem_map.1 hr; simp [h8 x hx]) hrow hj
    rw [show t / 8 * 8 + t % 8 = t from by omega] at h1
    have hlen : (m[t / 8].map byteV).length = 8 := by simp [h8 _ (List.getElem_mem hi)]
    have h2 := hr (t / 8) _ (List.getElem?_eq_getElem hi) (t % 8) _ (List.getElem?_eq_getElem (by rw [hlen]; exact hj))
    rw [h1, Array.getElem?_toList, List.getElem?_eq_getElem (by rw [hlen]; exact hj)]
    rw [show t / 8 * 8 + t % 8 = t from by omega] at h2
    exact h2
  · rw [if_neg ht, List.getElem?_eq_none (by omega)]
set_option linter.unusedVariables false in
theorem rows_own {w : World} {g n c : Nat} {e : TypeId} {cur : Array Value} {l : List (List UInt8)} (h8 : All8 l) (hx : cur.toList.take (n * 8) = (l.map (·.map byteV)).flatten) {i : Nat} {t : List UInt8} (hi : l[i]? = some t) : RowIn cur i t := fun j v hj => by
  have h8t := h8 t (List.mem_of_getElem? hi)
  have hj8 : j < 8 := by have := (List.getElem?_eq_some_iff.1 hj).1; simpa [h8t] using this
  have h1 := flatten_at (k := 8) (rows := l.map (·.map byteV)) (i := i) (r := t.map byteV) (fun r hr => by obtain ⟨x, hx, rfl⟩ := List.mem_map.1 hr; simp [h8 x hx]) (by rw [List.getElem?_map, hi]; rfl) hj8
  rw [← hx, List.getElem?_take, hj] at h1
  split at h1
  · rw [← Array.getElem?_toList]; exact h1
  · cases h1
section
variable {P : Program} {ops : Array Oper} {rest : List Oper} {o : Oper} {a : Act} {w : World} {Q : Exit → Act → World → Prop} {post : Value → World → Prop}
/-- A row stored into the middle of a block. -/
theorem wl_storeAt (hw : Region.wanted o (yielded ops a.tmps) = true) (ty : TypeId) (x y : Operand) (ho : o.op = .store ty x y) (g q : Nat) (hx : a.eval x = .pointer (some ⟨g, q * 8, none⟩)) (cells : Array Value) (hy : a.eval y = .agg cells) (t : TypeId) (cur : Array Value) (hb : Blk w g t cur) (hs : q * 8 + cells.size ≤ cur.size) (hi : (P.info? ty).map (·.size) = some cells.size) (h1 : cells.all (·.oneCell') = true)
    (hk : ∀ w' cur', Blk w' g t cur' → RowSet cur cur' q cells → Upd (fun k => k = g) w w' → w'.heap.size = w.heap.size → wpList P ops Q rest (a.put o.dst undef) w') : wpList P ops Q (o :: rest) a w := by
  have hth := hb.there (o := q * 8) (n := cells.size) hs
  refine wl_skip hw (w' := w.setCells g (q * 8) cells.toList) ?_ ?_
  · unfold execOp
    simp only [ho, hx, hy, Instr.storeAt, Instr.sureAddr, Sem.run_bind, Sem.run_pure, Result.andThen_ok, run_storeVar_mid w g (q * 8) ty cells hth hi h1]
  · obtain ⟨cs', hb', hsz⟩ := hb.setCells (vs := cells.toList) (o := q * 8)
    refine hk _ cs' hb' ⟨hsz, fun j => ?_⟩ ((Upd.refl (fun k => k = g) w).setCells (g := g) _ _ (.inl rfl)) (heap_setCells _ _ _)
    rw [← hb'.cell j]
    by_cases hj : q * 8 ≤ j ∧ j < q * 8 + cells.size
    · rw [if_pos hj]
      have := World.cell?_setCells_in g cells.toList (q * 8) w (fun j hj => (hb.there (o := q * 8) (n := cells.toList.length) (by simpa using hs) j hj).1) (j - q * 8) (by simp; omega)
      rw [show q * 8 + (j - q * 8) = j by omega] at this
      rw [this]
      simp only [Array.getElem_toList]
      rw [Array.getElem?_eq_getElem (show j - q * 8 < cells.size by omega)]
    · rw [if_neg hj, ← hb.cell j]
      exact World.cell?_setCells_out g _ _ _ _ (fun _ => by simp only [Array.length_toList]; omega)
end
/-- 'clear' of the rows from q on. -/
theorem run_clearN {w : World} {g q n : Nat} (hn : 0 < n) {cur : Array Value} (hb : Blk w g 28 cur) (hs : q * 8 + n * 8 ≤ cur.size) : ∃ w' cur', (∀ ty c, (Builtin.clear_ #[22] ty #[.slice (some ⟨g, q * 8, none⟩) n c]).run Tryz.prog w = .ok (.tuple #[]) w') ∧ Blk w' g 28 cur' ∧ cur'.size = cur.size ∧ (∀ j, j < q * 8 → cur'[j]? = cur[j]?) ∧ Upd (fun k => k = g) w w' := by
  obtain ⟨z, hz, hz8, hzo⟩ : ∃ z : Value, (∀ w, (zeroValue 28).run Tryz.prog w = .ok z w) ∧ z.cells.size = 8 ∧ ∀ v ∈ z.cells, v.oneCell' = true := ⟨nameV (List.replicate 8 0), fun w => by kernel_rfl, rfl, fun v hv => by
    have : v ∈ (List.replicate 8 (0 : UInt8)).map byteV := by simpa [Value.cells] using hv
    obtain ⟨b, -, rfl⟩ := List.mem_map.1 this
    rfl⟩
  obtain ⟨L, hL⟩ : ∃ L, L = (Builtin.zeroCells z.cells n).toList := ⟨_, rfl⟩
  have hLl : L.length = n * 8 := by rw [hL]; simp [Builtin.zeroCells, hz8]
  have hLo : ∀ v ∈ L, v.oneCell' = true := by
    intro v hv
    rw [hL] at hv
    unfold Builtin.zeroCells at hv
    have hv := Array.mem_toList_iff.1 hv
    obtain ⟨i, hi, rfl⟩ := Array.mem_iff_getElem.1 hv
    simp only [Array.getElem_map, Array.getElem_range]
    apply hzo
    rw [getElem!_pos z.cells (i % z.cells.size) (Nat.mod_lt _ (by omega))]
    exact Array.getElem_mem _
  have hst := run_storeCells_at Tryz.prog g (q * 8) 28 L 0 cur w hb (by rw [hLl]; simpa using hs) hLo
  simp only [Nat.add_zero] at hst
  obtain ⟨CC, hCC⟩ : ∃ x, x = (cur.toList.take (q * 8) ++ L ++ cur.toList.drop (q * 8 + L.length)).toArray := ⟨_, rfl⟩
  rw [← hCC] at hst
  refine ⟨w.setRow g CC, CC, fun ty c => ?_, hb.row _, ?_, fun j hj => ?_, (Upd.refl (fun k => k = g) w).setRow (.inl rfl) _⟩
  · obtain ⟨m, rfl⟩ : ∃ m, n = m + 1 := ⟨n - 1, by omega⟩
    simp [Builtin.clear_, run_underlying Tryz.underlying22, hz, ← hL, hst]
  · rw [hCC]; simp [hLl]; omega
  · rw [hCC, List.getElem?_toArray, List.append_assoc, List.getElem?_append_left (by simp; omega), List.getElem?_take, if_pos hj]
    simp
end
end Go.Proofs.YtengcmfdfmnacaaGreat
