/- The reference disk: put. No condition. The reference disk: what goes wrong. No condition. The reference disk: Sync, Remove, Rename, Read, Arm. No condition. The reference disk: Remove, Read, Arm, mod, pick. No condition. The reference disk: Truncate. No condition. -/
import Derived.Test.YtbgificdilpdcaaGreatJn6
import Derived.Deep.QuietTactic
import Derived.BigQuiet
import Derived.StillTailTactics
import Derived.BigRegion
namespace Go.Proofs.YtbgificdilpdcaaGreat
section
open Go.RowKit Go.Maps

def insRR (r : RRec) : List RRec → List RRec
  | [] => [r]
  | y :: l => if bytesBefore r.nm y.nm then r :: y :: l else y :: insRR r l

theorem less_before : ∀ (a b : List UInt8), Op.bytesLess a b = bytesBefore a b
  | [], [] => rfl
  | [], _ :: _ => rfl
  | _ :: _, [] => rfl
  | a :: r, b :: s => by simp [Op.bytesLess, bytesBefore, less_before r s]

theorem insRR_split {r : RRec} : ∀ {R : List RRec} {k : Nat}, k ≤ R.length → (∀ j, j < k → ∀ x, R[j]? = some x → bytesBefore x.nm r.nm = true) → (∀ x, R[k]? = some x → bytesBefore x.nm r.nm = false) → (∀ x ∈ R, x.nm ≠ r.nm) → R.take k ++ r :: R.drop k = insRR r R
  | [], 0, _, _, _, _ => rfl
  | [], k + 1, h, _, _, _ => by simp at h
  | y :: l, 0, _, _, h0, hn => by
    have h1 := h0 y rfl
    have h2 := hn y (by simp)
    have h3 : bytesBefore r.nm y.nm = true := by
      rcases Go.WideAt.bytes_total r.nm y.nm (fun e => h2 e.symm) with h | h
      · exact h
      · rw [h1] at h; cases h
    simp [insRR, h3]
  | y :: l, k + 1, hk, hb, h0, hn => by
    have h1 : bytesBefore y.nm r.nm = true := hb 0 (by omega) y rfl
    have h3 : bytesBefore r.nm y.nm = false := by
      cases h : bytesBefore r.nm y.nm
      · rfl
      · have := Go.WideShapes.bytes_trans _ _ _ h1 h
        rw [Go.WideAt.bytes_irrefl] at this
        cases this
    have := insRR_split (R := l) (k := k) (by simpa using hk) (fun j hj x hx => hb (j + 1) (by omega) x (by simpa using hx)) (fun x hx => h0 x (by simpa using hx)) (fun x hx => hn x (by simp [hx]))
    simp [insRR, h3, this]

section
variable {w w' : World} {m : Nat} {off armed : Bool} {left : Nat} {lv : Value} {R : List RRec}

set_option maxRecDepth 100000 in
set_option maxHeartbeats 4000000 in
theorem put_some (h : RefL w m off armed left lv R) (r : RRec) (hcv : Own w 5 1 r.cv r.c.length (r.c.map byteV)) (hrl : r.c.length ≤ 1099511627776) (hnew : ∀ x ∈ R, x.nm ≠ r.nm) (hnum : R.length + 1 ≤ 1099511627776) (hA00 : lv ≠ .slice none 0 0) :
    Calls Tryz.prog 93 #[ptrV m, .agg #[strV r.nm, r.cv, .int .i64 r.dur]] w (DropPost w m off armed left (insRR r R) (fun k => k = m)) := by
  obtain ⟨A, c, hlv, hn, hc, hx⟩ := h.form
  subst hlv
  have hA0 : A ≠ none := by
    rintro rfl
    rcases h.form2 with ⟨_, h0, h1⟩ | ⟨g, e⟩
    · exact hA00 (by rw [h0, h1])
    · cases e
  clear hA00
  have c0 : w.cell? ⟨m, 0, none⟩ = some (.slice A R.length c) := h.head.cell 0
  have f0 : w.frozen? ⟨m, 0, none⟩ = false := h.head.frozen 0
  have hmz : m < w.heap.size := h.head.lt
  obtain ⟨Ac, cc, hcvf⟩ := hcv.form
  obtain ⟨i0, hi0, hz0, hz1, hz2⟩ := info_parts file_info
  have HX := Lib.hid hx
  have H := Lib.hid h
  have HC := Lib.hid hcv
  have HN := Lib.hid hnew
  clear h hx hcv hnew
  rw [hcvf]
  have HCF := Lib.hid hcvf
  clear hcvf
  obtain ⟨X, hX⟩ : ∃ X, X = Obj.cells #[strV r.nm, .slice Ac r.c.length cc, .int .i64 r.dur] 94 := ⟨_, rfl⟩
  have P1 := Lib.hid (show ∀ q, Own (((w.alloc (.cells #[strV r.nm, .slice Ac r.c.length cc, .int .i64 r.dur] 94)).drewN q).alloc (.cells #[] 94)) 94 3 (.slice (some ⟨w.heap.size + 1, 0, none⟩) 0 0) 0 [] from fun q => by
    simpa using Own.fresh ((w.alloc (.cells #[strV r.nm, .slice Ac r.c.length cc, .int .i64 r.dur] 94)).drewN q) 94 3)
  have hW : ∀ q, Upd NoF w (((w.alloc (.cells #[strV r.nm, .slice Ac r.c.length cc, .int .i64 r.dur] 94)).drewN q).alloc (.cells #[] 94)) := fun q => (((Upd.refl NoF w).alloc _).drewN q).alloc _
  have HW := Lib.hid hW
  have hlr : ∀ w2, Upd NoF w w2 → Rd w2 3 (.slice A R.length c) R.length (cellsR R) := fun w2 hu => (H.out.list.upd hu (fun _ _ h => h)).rd
  have LR := Lib.hid hlr
  have P3 := Lib.hid (show ∀ k, ∀ u ∈ (cellsR R).take (k * 3), u.oneCell' = true from fun k u hu => cellsR_one H.out.cont u (List.mem_of_mem_take hu))
  have P3' := Lib.hid (show ∀ k, ∀ u ∈ (cellsR R).drop (k * 3), u.oneCell' = true from fun k u hu => cellsR_one H.out.cont u (List.mem_of_mem_drop hu))
  have hfz : ∀ q w1, Upd (OwnB (.slice (some ⟨w.heap.size + 1, 0, none⟩) 0 0)) (((w.alloc (.cells #[strV r.nm, .slice Ac r.c.length cc, .int .i64 r.dur] 94)).drewN q).alloc (.cells #[] 94)) w1 → Upd NoF w w1 ∧ Blk w1 w.heap.size 94 #[strV r.nm, .slice Ac r.c.length cc, .int .i64 r.dur] ∧ Blk w1 m 44 #[.slice A R.length c, .bool armed, .int .i64 left, .bool off] ∧ w.heap.size + 2 ≤ w1.heap.size := by
    intro q w1 hu
    have hu1 : Upd NoF w w1 := (HW.out q).trans hu (fun k hk e => by simp [OwnB, Value.ownBlock] at e; omega)
    refine ⟨hu1, hu.blk (Blk.alloc ((Blk.new w _ _).drewN q) _) (by simp [OwnB, Value.ownBlock]), hu1.blk H.out.head (fun h => h), by have := hu.size; simp at this; omega⟩
  have FZ := Lib.hid hfz
  have fin : ∀ k, k ≤ R.length → (∀ j, j < k → ∀ x, R[j]? = some x → bytesBefore x.nm r.nm = true) → (∀ x, R[k]? = some x → bytesBefore x.nm r.nm = false) → ∀ (w3 : World) (v : Value) (n : Nat), Upd NoF w w3 → (∀ j, OwnB v j → w.heap.size ≤ j) → n = R.length + 1 →
      Own w3 94 3 v n ((cellsR R).take (k * 3) ++ [strV r.nm, .slice Ac r.c.length cc, .int .i64 r.dur] ++ (cellsR R).drop (k * 3)) →
      DropPost w m off armed left (insRR r R) (fun k => k = m) (.returned (.tuple #[])) (w3.setCell ⟨m, 0, none⟩ v) := by
    intro k hk hlo hhi w3 v n hu hN hn3 ho
    have hsp := insRR_split hk hlo hhi HN.out
    have hlen : (insRR r R).length = R.length + 1 := by rw [← hsp]; simp; omega
    have hcells : cellsR (insRR r R) = (cellsR R).take (k * 3) ++ [strV r.nm, .slice Ac r.c.length cc, .int .i64 r.dur] ++ (cellsR R).drop (k * 3) := by
      rw [← hsp, cellsR_append, cellsR_take, cellsR_drop]
      simp [cellsR, HCF.out]
    have hU3 : Upd (fun k => k = m) w (w3.setCell ⟨m, 0, none⟩ v) := (hu.mono (G := fun k => k = m) (fun _ _ h => h.elim)).setCell (p := ⟨m, 0, none⟩) (.inl rfl) _
    have hmem : ∀ x ∈ insRR r R, x = r ∨ x ∈ R := by
      intro x hx
      rw [← hsp] at hx
      rcases List.mem_append.1 hx with h | h
      · exact .inr (List.mem_of_mem_take h)
      · rcases List.mem_cons.1 h with h | h
        · exact .inl h
        · exact .inr (List.mem_of_mem_drop h)
    have hcont : ∀ x ∈ insRR r R, Own w 5 1 x.cv x.c.length (x.c.map byteV) := by
      intro x hx
      rcases hmem x hx with rfl | hx
      · exact HC.out
      · exact H.out.cont x hx
    refine ⟨rfl, v, { head := (hu.blk H.out.head (fun h => h)).put 0 _, list := ?_, cont := fun x hx => (hcont x hx).upd hU3 (fun j hj e => (hcont x hx).ne_of H.out.head (by decide) hj e), lft := H.out.lft, len := ?_, num := by omega }, hU3, hN⟩
    · rw [hlen, ← hn3, hcells]
      exact ho.upd ((Upd.refl (fun k => k = m) w3).setCell (p := ⟨m, 0, none⟩) (.inl rfl) _) (fun j hj e => by have := hN j hj; omega)
    · intro x hx
      rcases hmem x hx with rfl | hx
      · exact hrl
      · exact H.out.len x hx
  have FIN := Lib.hid fin
  clear hW hlr hfz fin hX X
  go_enter Tryz.func93, Tryz.ntmps93
  go_wp2
  go_loopw [4] (fun i wr => ∃ k : Nat, ∃ nd : Nat, k ≤ R.length ∧ i = .int .i64 k ∧ (∀ j, j < k → ∀ x, R[j]? = some x → bytesBefore x.nm r.nm = true) ∧ wr = (w.alloc (.cells #[strV r.nm, .slice Ac r.c.length cc, .int .i64 r.dur] 94)).drewN nd) (fun i _ => R.length - (intOf i).toNat)
  case atStart => exact ⟨0, 0, Nat.zero_le _, rfl, fun j h => absurd h (by omega), rfl⟩
  case round =>
    obtain ⟨k, nd, hk, rfl, hlo, rfl⟩ := hrel
    have HLO := Lib.hid hlo
    clear hlo
    by_cases hlt : k < R.length
    · obtain ⟨g, rfl, _, hcell⟩ := HX.out (by omega)
      obtain ⟨x, hx⟩ : ∃ x, R[k]? = some x := ⟨_, List.getElem?_eq_getElem hlt⟩
      have hc1 : w.cell? ⟨g, k * 3, none⟩ = some (strV x.nm) := (hcell k x hx).1
      have hgz : g < w.heap.size := block_lt_of_cell hc1
      have HXX := Lib.hid hx
      have hd1 : decide ((k : Int) < (R.length : Int)) = true := by simp; omega
      have hd2 : decide (k < R.length) = true := by simp; omega
      clear hcell hx
      have hless := less_before x.nm r.nm
      cases hb : bytesBefore x.nm r.nm
      · have HHI := Lib.hid (show ∀ y, R[k]? = some y → bytesBefore y.nm r.nm = false from fun y hy => by rw [HXX.out] at hy; injection hy with hy; subst hy; exact hb)
        have hkc : ¬ c = k := by omega
        go_wp2
        go_quiet (fail)
        go_wp2_with (first
          | (at_builtin; refine wpList_append_new _ rfl (.tmp 28) (.tmp 34) 42 rfl 94 i0 _ 3 48 Tryz.underlying42 hi0 hz0 hz1 hz2 rfl (.slice (some ⟨w.heap.size + 1, 0, none⟩) 0 0) rfl (P1.out _) (.slice (some ⟨g, 0, none⟩) k c) k ((cellsR R).take (k * 3)) rfl ((LR.out _ (HW.out _)).upto hk) (P3.out k) (by unfold maxLen; omega) (by omega) ?_; intro A1 c1 w1 hown1 hupd1 hnew1; obtain ⟨g1, g2, g3, g4⟩ := FZ.out _ w1 hupd1; have d0 := g2.cell 0; have d1 := g2.cell 1; have d2 := g2.cell 2; have d3 := g3.cell 0; have d4 := g3.frozen 0; have O1 := Lib.hid hown1; have G1 := Lib.hid g1; have G3 := Lib.hid g3; have N1 := Lib.hid (show ∀ j, OwnB (.slice A1 k c1) j → w.heap.size < j from fun j hj => by rcases hnew1 j hj with e | e; (simp [OwnB, Value.ownBlock] at e; omega); (simp at e; omega)); clear hown1 hupd1 hnew1 g1 g2 g3)
          | (at_builtin; refine wpList_append_to _ rfl (.tmp 36) (.tmp 38) 42 rfl 94 i0 _ 3 48 Tryz.underlying42 hi0 hz0 hz1 hz2 rfl (.slice A1 k c1) k ((cellsR R).take (k * 3)) rfl (Own.upd O1.out ((Upd.refl NoF w1).alloc _) (fun _ _ h => h)) (.slice (some ⟨w1.heap.size, 0, none⟩) 1 1) 1 [strV r.nm, .slice Ac r.c.length cc, .int .i64 r.dur] rfl (Rd.of_blk (Blk.new w1 _ _) (Nat.le_refl _) (by unfold maxLen; omega) rfl (fun j u hu => by simpa using hu)) (by simp [Value.oneCell']) (by unfold maxLen; omega) (by omega) ?_; intro A2 c2 w2 hown2 hupd2 hnew2; have hU2 : Upd NoF w w2 := (G1.out.alloc _).trans hupd2 (fun j hj e => by have := N1.out j e; omega); have e3 := (hU2.blk H.out.head (fun h => h)).cell 0; have e4 := (hU2.blk H.out.head (fun h => h)).frozen 0; have O2 := Lib.hid hown2; have U2 := Lib.hid hU2; have N2 := Lib.hid (show ∀ j, OwnB (.slice A2 (k + 1) c2) j → w.heap.size ≤ j from fun j hj => by rcases hnew2 j hj with e | e; (have := N1.out j e; omega); (simp at e; omega)); clear hown2 hupd2 hnew2 hU2 d0 d1 d2 d3 d4)
          | (at_builtin; refine wpList_append_to _ rfl (.tmp 41) (.tmp 47) 42 rfl 94 i0 _ 3 48 Tryz.underlying42 hi0 hz0 hz1 hz2 rfl (.slice A2 (k + 1) c2) (k + 1) ((cellsR R).take (k * 3) ++ [strV r.nm, .slice Ac r.c.length cc, .int .i64 r.dur]) rfl O2.out (.slice (some ⟨g, k * 3, none⟩) (R.length - k) (c - k)) (R.length - k) ((cellsR R).drop (k * 3)) rfl ((LR.out _ U2.out).from_ hk _ (fun _ => by simp)) (P3'.out k) (by unfold maxLen; omega) (by omega) ?_; intro A3 c3 w3 hown3 hupd3 hnew3; have hU3 : Upd NoF w w3 := U2.out.trans hupd3 (fun j hj e => by have := N2.out j e; omega); have i3 := (hU3.blk H.out.head (fun h => h)).cell 0; have i4 := (hU3.blk H.out.head (fun h => h)).frozen 0; have O3 := Lib.hid hown3; have U3 := Lib.hid hU3; have N3 := Lib.hid (show ∀ j, OwnB (.slice A3 (k + 1 + (R.length - k)) c3) j → w.heap.size ≤ j from fun j hj => by rcases hnew3 j hj with e | e; (exact N2.out j e); (have := U2.out.size; omega)); clear hown3 hupd3 hnew3 hU3 e3 e4))
        go_end0
        exact FIN.out k hk HLO.out HHI.out w3 _ _ U3.out N3.out (by omega) O3.out
      · have HB := Lib.hid hb
        go_wp2
        go_quiet (fail)
        go_wp2
        go_roundw
        case rel =>
          refine ⟨k + 1, _, by omega, by go_num, fun j hj y hy => ?_, rfl⟩
          rcases Nat.lt_or_ge j k with h | h
          · exact HLO.out j h y hy
          · obtain rfl : j = k := by omega
            rw [HXX.out] at hy
            injection hy with hy
            subst hy
            exact HB.out
        case measure => simp [intOf]; omega
    · obtain rfl : k = R.length := by omega
      have HHI := Lib.hid (show ∀ y, R[R.length]? = some y → bytesBefore y.nm r.nm = false from fun y hy => by simp at hy)
      have hd1 : decide ((R.length : Int) < (R.length : Int)) = false := by simp
      have hd2 : decide (R.length < R.length) = false := by simp
      rcases H.out.form2 with ⟨rfl, h0, rfl⟩ | ⟨g, rfl⟩
      · exact absurd rfl hA0
      · by_cases hce : c = R.length
        · subst hce
          go_wp2
          go_quiet (fail)
          go_wp2_with (first
            | (at_builtin; refine wpList_append_new _ rfl (.tmp 28) (.tmp 34) 42 rfl 94 i0 _ 3 48 Tryz.underlying42 hi0 hz0 hz1 hz2 rfl (.slice (some ⟨w.heap.size + 1, 0, none⟩) 0 0) rfl (P1.out _) (.slice (some ⟨g, 0, none⟩) R.length R.length) R.length ((cellsR R).take (R.length * 3)) rfl ((LR.out _ (HW.out _)).upto (Nat.le_refl _)) (P3.out R.length) (by unfold maxLen; omega) (by omega) ?_; intro A1 c1 w1 hown1 hupd1 hnew1; obtain ⟨g1, g2, g3, g4⟩ := FZ.out _ w1 hupd1; have d0 := g2.cell 0; have d1 := g2.cell 1; have d2 := g2.cell 2; have d3 := g3.cell 0; have d4 := g3.frozen 0; have O1 := Lib.hid hown1; have G1 := Lib.hid g1; have G3 := Lib.hid g3; have N1 := Lib.hid (show ∀ j, OwnB (.slice A1 R.length c1) j → w.heap.size < j from fun j hj => by rcases hnew1 j hj with e | e; (simp [OwnB, Value.ownBlock] at e; omega); (simp at e; omega)); clear hown1 hupd1 hnew1 g1 g2 g3)
            | (at_builtin; refine wpList_append_to _ rfl (.tmp 36) (.tmp 38) 42 rfl 94 i0 _ 3 48 Tryz.underlying42 hi0 hz0 hz1 hz2 rfl (.slice A1 R.length c1) R.length ((cellsR R).take (R.length * 3)) rfl (Own.upd O1.out ((Upd.refl NoF w1).alloc _) (fun _ _ h => h)) (.slice (some ⟨w1.heap.size, 0, none⟩) 1 1) 1 [strV r.nm, .slice Ac r.c.length cc, .int .i64 r.dur] rfl (Rd.of_blk (Blk.new w1 _ _) (Nat.le_refl _) (by unfold maxLen; omega) rfl (fun j u hu => by simpa using hu)) (by simp [Value.oneCell']) (by unfold maxLen; omega) (by omega) ?_; intro A2 c2 w2 hown2 hupd2 hnew2; have hU2 : Upd NoF w w2 := (G1.out.alloc _).trans hupd2 (fun j hj e => by have := N1.out j e; omega); have e3 := (hU2.blk H.out.head (fun h => h)).cell 0; have e4 := (hU2.blk H.out.head (fun h => h)).frozen 0; have O2 := Lib.hid hown2; have U2 := Lib.hid hU2; have N2 := Lib.hid (show ∀ j, OwnB (.slice A2 (R.length + 1) c2) j → w.heap.size ≤ j from fun j hj => by rcases hnew2 j hj with e | e; (have := N1.out j e; omega); (simp at e; omega)); clear hown2 hupd2 hnew2 hU2 d0 d1 d2 d3 d4)
            | (at_builtin; refine wpList_append_none _ rfl (.tmp 41) (.tmp 47) 42 rfl 94 i0 3 Tryz.underlying42 hi0 (.slice A2 (R.length + 1) c2) (R.length + 1) _ rfl O2.out _ _ rfl ?_))
          go_end0
          exact FIN.out R.length (Nat.le_refl _) HLO.out HHI.out w2 _ _ U2.out N2.out rfl (by rw [List.drop_eq_nil_of_le (by rw [length_cellsR]; omega), List.append_nil]; exact O2.out)
        · have hkc : ¬ c = R.length := hce
          go_wp2
          go_quiet (fail)
          go_wp2_with (first
            | (at_builtin; refine wpList_append_new _ rfl (.tmp 28) (.tmp 34) 42 rfl 94 i0 _ 3 48 Tryz.underlying42 hi0 hz0 hz1 hz2 rfl (.slice (some ⟨w.heap.size + 1, 0, none⟩) 0 0) rfl (P1.out _) (.slice (some ⟨g, 0, none⟩) R.length c) R.length ((cellsR R).take (R.length * 3)) rfl ((LR.out _ (HW.out _)).upto (Nat.le_refl _)) (P3.out R.length) (by unfold maxLen; omega) (by omega) ?_; intro A1 c1 w1 hown1 hupd1 hnew1; obtain ⟨g1, g2, g3, g4⟩ := FZ.out _ w1 hupd1; have d0 := g2.cell 0; have d1 := g2.cell 1; have d2 := g2.cell 2; have d3 := g3.cell 0; have d4 := g3.frozen 0; have O1 := Lib.hid hown1; have G1 := Lib.hid g1; have G3 := Lib.hid g3; have N1 := Lib.hid (show ∀ j, OwnB (.slice A1 R.length c1) j → w.heap.size < j from fun j hj => by rcases hnew1 j hj with e | e; (simp [OwnB, Value.ownBlock] at e; omega); (simp at e; omega)); clear hown1 hupd1 hnew1 g1 g2 g3)
            | (at_builtin; refine wpList_append_to _ rfl (.tmp 36) (.tmp 38) 42 rfl 94 i0 _ 3 48 Tryz.underlying42 hi0 hz0 hz1 hz2 rfl (.slice A1 R.length c1) R.length ((cellsR R).take (R.length * 3)) rfl (Own.upd O1.out ((Upd.refl NoF w1).alloc _) (fun _ _ h => h)) (.slice (some ⟨w1.heap.size, 0, none⟩) 1 1) 1 [strV r.nm, .slice Ac r.c.length cc, .int .i64 r.dur] rfl (Rd.of_blk (Blk.new w1 _ _) (Nat.le_refl _) (by unfold maxLen; omega) rfl (fun j u hu => by simpa using hu)) (by simp [Value.oneCell']) (by unfold maxLen; omega) (by omega) ?_; intro A2 c2 w2 hown2 hupd2 hnew2; have hU2 : Upd NoF w w2 := (G1.out.alloc _).trans hupd2 (fun j hj e => by have := N1.out j e; omega); have e3 := (hU2.blk H.out.head (fun h => h)).cell 0; have e4 := (hU2.blk H.out.head (fun h => h)).frozen 0; have O2 := Lib.hid hown2; have U2 := Lib.hid hU2; have N2 := Lib.hid (show ∀ j, OwnB (.slice A2 (R.length + 1) c2) j → w.heap.size ≤ j from fun j hj => by rcases hnew2 j hj with e | e; (have := N1.out j e; omega); (simp at e; omega)); clear hown2 hupd2 hnew2 hU2 d0 d1 d2 d3 d4)
            | (at_builtin; refine wpList_append_none _ rfl (.tmp 41) (.tmp 47) 42 rfl 94 i0 3 Tryz.underlying42 hi0 (.slice A2 (R.length + 1) c2) (R.length + 1) _ rfl O2.out _ _ rfl ?_))
          go_end0
          exact FIN.out R.length (Nat.le_refl _) HLO.out HHI.out w2 _ _ U2.out N2.out rfl (by rw [List.drop_eq_nil_of_le (by rw [length_cellsR]; omega), List.append_nil]; exact O2.out)

set_option maxRecDepth 100000 in
set_option maxHeartbeats 4000000 in
theorem put_none (h : RefL w m off armed left (.slice none 0 0) []) (r : RRec) (hcv : Own w 5 1 r.cv r.c.length (r.c.map byteV)) (hrl : r.c.length ≤ 1099511627776) :
    Calls Tryz.prog 93 #[ptrV m, .agg #[strV r.nm, r.cv, .int .i64 r.dur]] w (DropPost w m off armed left [r] (fun k => k = m)) := by
  have c0 : w.cell? ⟨m, 0, none⟩ = some (.slice none 0 0) := h.head.cell 0
  have f0 : w.frozen? ⟨m, 0, none⟩ = false := h.head.frozen 0
  have hmz : m < w.heap.size := h.head.lt
  obtain ⟨Ac, cc, hcvf⟩ := hcv.form
  obtain ⟨i0, hi0, hz0, hz1, hz2⟩ := info_parts file_info
  have H := Lib.hid h
  have HC := Lib.hid hcv
  clear h hcv
  have hW : ∀ q q2, Upd NoF w ((((w.alloc (.cells #[strV r.nm, .slice Ac r.c.length cc, .int .i64 r.dur] 94)).drewN q).alloc (.cells #[] 94)).alloc (.cells #[strV r.nm, .slice Ac r.c.length cc, .int .i64 r.dur] 94 q2)) := fun q q2 => ((((Upd.refl NoF w).alloc _).drewN q).alloc _).alloc _
  have HW := Lib.hid hW
  have P1 := Lib.hid (show ∀ q, Own (((w.alloc (.cells #[strV r.nm, .slice Ac r.c.length cc, .int .i64 r.dur] 94)).drewN q).alloc (.cells #[] 94)) 94 3 (.slice (some ⟨w.heap.size + 1, 0, none⟩) 0 0) 0 [] from fun q => by
    simpa using Own.fresh ((w.alloc (.cells #[strV r.nm, .slice Ac r.c.length cc, .int .i64 r.dur] 94)).drewN q) 94 3)
  have P2 := Lib.hid (show ∀ q, Own ((((w.alloc (.cells #[strV r.nm, .slice Ac r.c.length cc, .int .i64 r.dur] 94)).drewN q).alloc (.cells #[] 94)).alloc (.cells #[strV r.nm, .slice Ac r.c.length cc, .int .i64 r.dur] 94)) 94 3 (.slice (some ⟨w.heap.size + 1, 0, none⟩) 0 0) 0 [] from fun q => (P1.out q).upd ((Upd.refl NoF _).alloc _) (fun _ _ h => h))
  have P4 := Lib.hid (show ∀ q, Rd ((((w.alloc (.cells #[strV r.nm, .slice Ac r.c.length cc, .int .i64 r.dur] 94)).drewN q).alloc (.cells #[] 94)).alloc (.cells #[strV r.nm, .slice Ac r.c.length cc, .int .i64 r.dur] 94)) 3 (.slice (some ⟨w.heap.size + 1 + 1, 0, none⟩) 1 1) 1 [strV r.nm, .slice Ac r.c.length cc, .int .i64 r.dur] from fun q =>
    Rd.of_blk (by simpa using Blk.new (((w.alloc (.cells #[strV r.nm, .slice Ac r.c.length cc, .int .i64 r.dur] 94)).drewN q).alloc (.cells #[] 94)) 94 #[strV r.nm, .slice Ac r.c.length cc, .int .i64 r.dur]) (Nat.le_refl _) (by unfold maxLen; omega) rfl (fun j u hu => by simpa using hu))
  have fin : ∀ (w3 : World) (v : Value), Upd NoF w w3 → (∀ j, OwnB v j → w.heap.size ≤ j) → Own w3 94 3 v 1 [strV r.nm, .slice Ac r.c.length cc, .int .i64 r.dur] → DropPost w m off armed left [r] (fun k => k = m) (.returned (.tuple #[])) (w3.setCell ⟨m, 0, none⟩ v) := by
    intro w3 v hu hN ho
    have hU3 : Upd (fun k => k = m) w (w3.setCell ⟨m, 0, none⟩ v) := (hu.mono (G := fun k => k = m) (fun _ _ h => h.elim)).setCell (p := ⟨m, 0, none⟩) (.inl rfl) _
    refine ⟨rfl, v, { head := (hu.blk H.out.head (fun h => h)).put 0 _, list := ?_, cont := ?_, lft := H.out.lft, len := ?_, num := by simp }, hU3, hN⟩
    · have e : cellsR [r] = [strV r.nm, .slice Ac r.c.length cc, .int .i64 r.dur] := by simp [cellsR, hcvf]
      rw [e]
      exact ho.upd ((Upd.refl (fun k => k = m) w3).setCell (p := ⟨m, 0, none⟩) (.inl rfl) _) (fun j hj e => by have := hN j hj; omega)
    · intro x hx
      obtain rfl : x = r := by simpa using hx
      exact HC.out.upd hU3 (fun j hj e => HC.out.ne_of H.out.head (by decide) hj e)
    · intro x hx
      obtain rfl : x = r := by simpa using hx
      exact hrl
  have FIN := Lib.hid fin
  clear fin hW
  rw [hcvf]
  clear hcvf
  go_enter Tryz.func93, Tryz.ntmps93
  go_wp2
  go_loopw [4] (fun i wr => i = .int .i64 0 ∧ wr = w.alloc (.cells #[strV r.nm, .slice Ac r.c.length cc, .int .i64 r.dur] 94)) (fun _ _ => 0)
  case atStart => exact ⟨rfl, rfl⟩
  case round =>
    obtain ⟨rfl, rfl⟩ := hrel
    go_wp2
    go_quiet (fail)
    go_wp2_with (first
      | (at_builtin; refine wpList_append_none _ rfl (.tmp 28) (.tmp 34) 42 rfl 94 i0 3 Tryz.underlying42 hi0 (.slice (some ⟨w.heap.size + 1, 0, none⟩) 0 0) 0 _ rfl (P1.out _) none 0 rfl ?_)
      | (at_builtin; refine wpList_append_new _ rfl (.tmp 36) (.tmp 38) 42 rfl 94 i0 _ 3 48 Tryz.underlying42 hi0 hz0 hz1 hz2 rfl (.slice (some ⟨w.heap.size + 1, 0, none⟩) 0 0) rfl (P2.out _) (.slice (some ⟨w.heap.size + 1 + 1, 0, none⟩) 1 1) 1 [strV r.nm, .slice Ac r.c.length cc, .int .i64 r.dur] rfl (P4.out _) (by simp [Value.oneCell']) (by unfold maxLen; omega) (by omega) ?_; intro A2 c2 w2 hown2 hupd2 hnew2; have hU2 : Upd NoF w w2 := (HW.out _ _).trans hupd2 (fun j hj e => by simp [OwnB, Value.ownBlock] at e; omega); have e3 := (hU2.blk H.out.head (fun h => h)).cell 0; have e4 := (hU2.blk H.out.head (fun h => h)).frozen 0; have O2 := Lib.hid hown2; have U2 := Lib.hid hU2; have N2 := Lib.hid (show ∀ j, OwnB (.slice A2 1 c2) j → w.heap.size ≤ j from fun j hj => by rcases hnew2 j hj with e | e; (simp [OwnB, Value.ownBlock] at e; omega); (simp at e; omega)); clear hown2 hupd2 hnew2 hU2)
      | (at_builtin; refine wpList_append_none _ rfl (.tmp 41) (.tmp 47) 42 rfl 94 i0 3 Tryz.underlying42 hi0 (.slice A2 1 c2) 1 _ rfl O2.out none 0 rfl ?_))
    go_end0
    exact FIN.out w2 _ U2.out N2.out O2.out

theorem put_any (h : RefL w m off armed left lv R) (r : RRec) (hcv : Own w 5 1 r.cv r.c.length (r.c.map byteV)) (hrl : r.c.length ≤ 1099511627776) (hnew : ∀ x ∈ R, x.nm ≠ r.nm) (hnum : R.length + 1 ≤ 1099511627776) :
    Calls Tryz.prog 93 #[ptrV m, .agg #[strV r.nm, r.cv, .int .i64 r.dur]] w (DropPost w m off armed left (insRR r R) (fun k => k = m)) := by
  by_cases h0 : lv = .slice none 0 0
  · subst h0
    have hR : R = [] := by
      rcases h.list.2 with ⟨_, h0⟩ | ⟨g, cap, cur, e, _⟩
      · exact List.eq_nil_of_length_eq_zero h0
      · cases e
    subst hR
    exact put_none h r hcv hrl
  · exact put_some h r hcv hrl hnew hnum h0
end
end

section
open Go.RowKit Go.Maps

section
variable {w : World} {m : Nat} {off armed : Bool} {left : Nat} {lv : Value} {R : List RRec}
set_option maxRecDepth 100000 in
theorem rsync_arg (m : Nat) (w : World) : Calls Tryz.prog 55 #[ptrV m, strV []] w fun e w' => e = retE 1 ∧ w = w' := by
  go_enter Tryz.func55, Tryz.ntmps55
  go_wp2
  go_ret
  exact ⟨rfl, rfl⟩
set_option maxRecDepth 100000 in
theorem rsync_off (h : RefL w m true armed left lv R) (nm : List UInt8) (hn : nm.isEmpty = false) : Calls Tryz.prog 55 #[ptrV m, strV nm] w fun e w' => e = retE 103 ∧ w = w' := by
  have c3 : w.cell? ⟨m, 3, none⟩ = some (.bool true) := h.head.cell 3
  clear h
  go_enter Tryz.func55, Tryz.ntmps55
  go_wp2
  go_ret
  exact ⟨rfl, rfl⟩
set_option maxRecDepth 100000 in
theorem rsync_no (h : RefL w m false armed left lv R) (nm : List UInt8) (hn : nm.isEmpty = false) (hi : idxR R nm = -1) : Calls Tryz.prog 55 #[ptrV m, strV nm] w fun e w' => e = retE 6 ∧ w = w' := by
  have c3 : w.cell? ⟨m, 3, none⟩ = some (.bool false) := h.head.cell 3
  have FI := find_any h nm
  rw [hi] at FI
  have HF := Lib.hid FI
  clear h FI hi
  go_enter Tryz.func55, Tryz.ntmps55
  go_wp2_with (go_at_call 52; refine HF.out.mono ?_; rintro e w' ⟨rfl, rfl⟩)
  go_ret
  exact ⟨rfl, rfl⟩
set_option maxRecDepth 100000 in
theorem rsync_out (h : RefL w m false armed left lv R) (nm : List UInt8) (hn : nm.isEmpty = false) (i : Nat) (hi : idxR R nm = i) (hwb : wrB armed left = false) : Calls Tryz.prog 55 #[ptrV m, strV nm] w fun e w' => e = retE 103 ∧ RefL w' m true armed (wrL armed left) lv R ∧ Upd (fun k => k = m) w w' := by
  have c3 : w.cell? ⟨m, 3, none⟩ = some (.bool false) := h.head.cell 3
  have FI := find_any h nm
  rw [hi] at FI
  have HF := Lib.hid FI
  have FA := fails_any h
  rw [hwb] at FA
  have HA := Lib.hid FA
  clear h FI FA hi hwb
  go_enter Tryz.func55, Tryz.ntmps55
  go_wp2_with (first
    | (go_at_call 52; refine HF.out.mono ?_; rintro e w' ⟨rfl, rfl⟩)
    | (go_at_call 91; refine HA.out.mono ?_; rintro e w2 ⟨rfl, hd2, hu2⟩; have D2 := Lib.hid hd2; have U2 := Lib.hid hu2; clear hd2 hu2))
  go_ret
  exact ⟨rfl, by simpa using D2.out, U2.out⟩
set_option maxRecDepth 100000 in
theorem rremove_arg (m : Nat) (w : World) : Calls Tryz.prog 53 #[ptrV m, strV []] w fun e w' => e = retE 1 ∧ w = w' := by
  go_enter Tryz.func53, Tryz.ntmps53
  go_wp2
  go_ret
  exact ⟨rfl, rfl⟩
set_option maxRecDepth 100000 in
theorem rremove_off (h : RefL w m true armed left lv R) (nm : List UInt8) (hn : nm.isEmpty = false) : Calls Tryz.prog 53 #[ptrV m, strV nm] w fun e w' => e = retE 103 ∧ w = w' := by
  have c3 : w.cell? ⟨m, 3, none⟩ = some (.bool true) := h.head.cell 3
  clear h
  go_enter Tryz.func53, Tryz.ntmps53
  go_wp2
  go_ret
  exact ⟨rfl, rfl⟩
set_option maxRecDepth 100000 in
theorem rremove_no (h : RefL w m false armed left lv R) (nm : List UInt8) (hn : nm.isEmpty = false) (hi : idxR R nm = -1) : Calls Tryz.prog 53 #[ptrV m, strV nm] w fun e w' => e = retE 6 ∧ w = w' := by
  have c3 : w.cell? ⟨m, 3, none⟩ = some (.bool false) := h.head.cell 3
  have FI := find_any h nm
  rw [hi] at FI
  have HF := Lib.hid FI
  clear h FI hi
  go_enter Tryz.func53, Tryz.ntmps53
  go_wp2_with (go_at_call 52; refine HF.out.mono ?_; rintro e w' ⟨rfl, rfl⟩)
  go_ret
  exact ⟨rfl, rfl⟩
set_option maxRecDepth 100000 in
theorem rremove_out (h : RefL w m false armed left lv R) (nm : List UInt8) (hn : nm.isEmpty = false) (i : Nat) (hi : idxR R nm = i) (hwb : wrB armed left = false) : Calls Tryz.prog 53 #[ptrV m, strV nm] w fun e w' => e = retE 103 ∧ RefL w' m true armed (wrL armed left) lv R ∧ Upd (fun k => k = m) w w' := by
  have c3 : w.cell? ⟨m, 3, none⟩ = some (.bool false) := h.head.cell 3
  have FI := find_any h nm
  rw [hi] at FI
  have HF := Lib.hid FI
  have FA := fails_any h
  rw [hwb] at FA
  have HA := Lib.hid FA
  clear h FI FA hi hwb
  go_enter Tryz.func53, Tryz.ntmps53
  go_wp2_with (first
    | (go_at_call 52; refine HF.out.mono ?_; rintro e w' ⟨rfl, rfl⟩)
    | (go_at_call 91; refine HA.out.mono ?_; rintro e w2 ⟨rfl, hd2, hu2⟩; have D2 := Lib.hid hd2; have U2 := Lib.hid hu2; clear hd2 hu2))
  go_ret
  exact ⟨rfl, by simpa using D2.out, U2.out⟩
set_option maxRecDepth 100000 in
theorem rrename_arg (m : Nat) (w : World) (to : List UInt8) : Calls Tryz.prog 56 #[ptrV m, strV [], strV to] w fun e w' => e = retE 1 ∧ w = w' := by
  go_enter Tryz.func56, Tryz.ntmps56
  go_wp2
  go_ret
  exact ⟨rfl, rfl⟩
set_option maxRecDepth 100000 in
theorem rrename_off (h : RefL w m true armed left lv R) (nm : List UInt8) (hn : nm.isEmpty = false) (to : List UInt8) (ht : to.isEmpty = false) : Calls Tryz.prog 56 #[ptrV m, strV nm, strV to] w fun e w' => e = retE 103 ∧ w = w' := by
  have c3 : w.cell? ⟨m, 3, none⟩ = some (.bool true) := h.head.cell 3
  clear h
  go_enter Tryz.func56, Tryz.ntmps56
  go_wp2
  go_ret
  exact ⟨rfl, rfl⟩
set_option maxRecDepth 100000 in
theorem rrename_no (h : RefL w m false armed left lv R) (nm : List UInt8) (hn : nm.isEmpty = false) (hi : idxR R nm = -1) (to : List UInt8) (ht : to.isEmpty = false) : Calls Tryz.prog 56 #[ptrV m, strV nm, strV to] w fun e w' => e = retE 6 ∧ w = w' := by
  have c3 : w.cell? ⟨m, 3, none⟩ = some (.bool false) := h.head.cell 3
  have FI := find_any h nm
  rw [hi] at FI
  have HF := Lib.hid FI
  clear h FI hi
  go_enter Tryz.func56, Tryz.ntmps56
  go_wp2_with (go_at_call 52; refine HF.out.mono ?_; rintro e w' ⟨rfl, rfl⟩)
  go_ret
  exact ⟨rfl, rfl⟩
set_option maxRecDepth 100000 in
theorem rrename_out (h : RefL w m false armed left lv R) (nm : List UInt8) (hn : nm.isEmpty = false) (i : Nat) (hi : idxR R nm = i) (hwb : wrB armed left = false) (to : List UInt8) (ht : to.isEmpty = false) : Calls Tryz.prog 56 #[ptrV m, strV nm, strV to] w fun e w' => e = retE 103 ∧ RefL w' m true armed (wrL armed left) lv R ∧ Upd (fun k => k = m) w w' := by
  have c3 : w.cell? ⟨m, 3, none⟩ = some (.bool false) := h.head.cell 3
  have FI := find_any h nm
  rw [hi] at FI
  have HF := Lib.hid FI
  have FA := fails_any h
  rw [hwb] at FA
  have HA := Lib.hid FA
  clear h FI FA hi hwb
  go_enter Tryz.func56, Tryz.ntmps56
  go_wp2_with (first
    | (go_at_call 52; refine HF.out.mono ?_; rintro e w' ⟨rfl, rfl⟩)
    | (go_at_call 91; refine HA.out.mono ?_; rintro e w2 ⟨rfl, hd2, hu2⟩; have D2 := Lib.hid hd2; have U2 := Lib.hid hu2; clear hd2 hu2))
  go_ret
  exact ⟨rfl, by simpa using D2.out, U2.out⟩
set_option maxRecDepth 100000 in
theorem rread_arg (m : Nat) (w : World) : Calls Tryz.prog 61 #[ptrV m, strV []] w fun e w' => e = retPE (.slice none 0 0) 1 ∧ w = w' := by
  go_enter Tryz.func61, Tryz.ntmps61
  go_wp2
  go_ret2
  exact ⟨rfl, rfl⟩
set_option maxRecDepth 100000 in
theorem rread_off (h : RefL w m true armed left lv R) (nm : List UInt8) (hn : nm.isEmpty = false) : Calls Tryz.prog 61 #[ptrV m, strV nm] w fun e w' => e = retPE (.slice none 0 0) 103 ∧ w = w' := by
  have c3 : w.cell? ⟨m, 3, none⟩ = some (.bool true) := h.head.cell 3
  clear h
  go_enter Tryz.func61, Tryz.ntmps61
  go_wp2
  go_ret2
  exact ⟨rfl, rfl⟩
set_option maxRecDepth 100000 in
theorem rread_no (h : RefL w m false armed left lv R) (nm : List UInt8) (hn : nm.isEmpty = false) (hi : idxR R nm = -1) : Calls Tryz.prog 61 #[ptrV m, strV nm] w fun e w' => e = retPE (.slice none 0 0) 6 ∧ w = w' := by
  have c3 : w.cell? ⟨m, 3, none⟩ = some (.bool false) := h.head.cell 3
  have FI := find_any h nm
  rw [hi] at FI
  have HF := Lib.hid FI
  clear h FI hi
  go_enter Tryz.func61, Tryz.ntmps61
  go_wp2_with (go_at_call 52; refine HF.out.mono ?_; rintro e w' ⟨rfl, rfl⟩)
  go_ret2
  exact ⟨rfl, rfl⟩
set_option maxRecDepth 100000 in
theorem rappend_arg (m : Nat) (w : World) (v : Value) : Calls Tryz.prog 54 #[ptrV m, strV [], v] w fun e w' => e = retE 1 ∧ w = w' := by
  go_enter Tryz.func54, Tryz.ntmps54
  go_wp2
  go_ret
  exact ⟨rfl, rfl⟩
set_option maxRecDepth 100000 in
theorem rappend_off (h : RefL w m true armed left lv R) (nm : List UInt8) (hn : nm.isEmpty = false) (v : Value) : Calls Tryz.prog 54 #[ptrV m, strV nm, v] w fun e w' => e = retE 103 ∧ w = w' := by
  have c3 : w.cell? ⟨m, 3, none⟩ = some (.bool true) := h.head.cell 3
  clear h
  go_enter Tryz.func54, Tryz.ntmps54
  go_wp2
  go_ret
  exact ⟨rfl, rfl⟩
end
end

section
open Go.RowKit Go.Maps

theorem cellsR_dur {R : List RRec} {i : Nat} {r : RRec} (h : R[i]? = some r) (d : Nat) : cellsR (R.set i { r with dur := d }) = (cellsR R).set (i * 3 + 2) (.int .i64 d) := by
  induction R generalizing i with
  | nil => cases h
  | cons x R ih =>
    cases i with
    | zero => simp at h; subst h; simp [cellsR]
    | succ i =>
      have := ih (i := i) (by simpa using h)
      simp only [cellsR, List.set_cons_succ, List.flatMap_cons] at this ⊢
      rw [this, show (i + 1) * 3 + 2 = 3 + (i * 3 + 2) by omega, List.set_append_right _ _ (by simp)]
      simp
theorem cellsR_cont {R : List RRec} {i : Nat} {r : RRec} (h : R[i]? = some r) (cv : Value) (c : List UInt8) : cellsR (R.set i { r with cv := cv, c := c }) = (cellsR R).set (i * 3 + 1) cv := by
  induction R generalizing i with
  | nil => cases h
  | cons x R ih =>
    cases i with
    | zero => simp at h; subst h; simp [cellsR]
    | succ i =>
      have := ih (i := i) (by simpa using h)
      simp only [cellsR, List.set_cons_succ, List.flatMap_cons] at this ⊢
      rw [this, show (i + 1) * 3 + 1 = 3 + (i * 3 + 1) by omega, List.set_append_right _ _ (by simp)]
      simp

theorem Own.put {w : World} {e : TypeId} {size n g c : Nat} {xs : List Value} (h : Own w e size (.slice (some ⟨g, 0, none⟩) n c) n xs) {j : Nat} (_hj : j < n * size) (u : Value) : Own (w.setCell ⟨g, j, none⟩ u) e size (.slice (some ⟨g, 0, none⟩) n c) n (xs.set j u) := by
  refine ⟨by simpa using h.1, ?_⟩
  rcases h.2 with ⟨e1, _⟩ | ⟨g', cap, cur, e1, hb, hn, hc, hs, hx⟩
  · cases e1
  · injection e1 with e1 _ e3
    injection e1 with e1
    injection e1 with e1 _
    subst e1 e3
    refine .inr ⟨g, c, _, rfl, hb.put j u, hn, hc, by simpa using hs, ?_⟩
    rw [Array.toList_setIfInBounds, List.take_set, hx]

section
variable {w w' : World} {m : Nat} {off armed : Bool} {left : Nat} {lv : Value} {R : List RRec}

theorem mem_set {i : Nat} {r' x : RRec} (h : x ∈ R.set i r') : x = r' ∨ x ∈ R := by
  rcases List.mem_or_eq_of_mem_set h with h | h
  · exact .inr h
  · exact .inl h

theorem RefL.setDur {g c : Nat} (h : RefL w m off armed left (.slice (some ⟨g, 0, none⟩) R.length c) R) {i : Nat} {r : RRec} (hr : R[i]? = some r) (d : Nat) :
    RefL (w.setCell ⟨g, i * 3 + 2, none⟩ (.int .i64 d)) m off armed left (.slice (some ⟨g, 0, none⟩) R.length c) (R.set i { r with dur := d }) := by
  have hi : i < R.length := (List.getElem?_eq_some_iff.1 hr).1
  have hrm : r ∈ R := List.mem_of_getElem? hr
  have hu : Upd (fun k => k = g) w (w.setCell ⟨g, i * 3 + 2, none⟩ (.int .i64 d)) := (Upd.refl (fun k => k = g) w).setCell (p := ⟨g, i * 3 + 2, none⟩) (.inl rfl) _
  have hog : OwnB (.slice (some ⟨g, 0, none⟩) R.length c) g := by simp [OwnB, Value.ownBlock]
  have hcont : ∀ x ∈ R, Own (w.setCell ⟨g, i * 3 + 2, none⟩ (.int .i64 d)) 5 1 x.cv x.c.length (x.c.map byteV) := fun x hx => (h.cont x hx).upd hu (fun k hk e => by
    subst e
    rcases h.list.2 with ⟨e1, _⟩ | ⟨g', cap, cur, e1, hb, _⟩
    · cases e1
    · injection e1 with e1
      injection e1 with e1
      injection e1 with e1 _
      subst e1
      exact (h.cont x hx).blk_ne hb (by decide) hk)
  refine { head := hu.blk h.head (fun e => h.list.blk_ne h.head (by decide) (by rw [e]; exact hog)), list := ?_, cont := ?_, lft := h.lft, len := ?_, num := by simpa using h.num }
  · rw [cellsR_dur hr, List.length_set]
    exact h.list.put (by omega) _
  · intro x hx
    rcases mem_set hx with rfl | hx
    · exact hcont r hrm
    · exact hcont x hx
  · intro x hx
    rcases mem_set hx with rfl | hx
    · exact h.len r hrm
    · exact h.len x hx

theorem RefL.setCont {g c : Nat} (h : RefL w m off armed left (.slice (some ⟨g, 0, none⟩) R.length c) R) {i : Nat} {r : RRec} (hr : R[i]? = some r) (cv : Value) (c' : List UInt8) (ho : Own w 5 1 cv c'.length (c'.map byteV)) (hl : c'.length ≤ 1099511627776) :
    RefL (w.setCell ⟨g, i * 3 + 1, none⟩ cv) m off armed left (.slice (some ⟨g, 0, none⟩) R.length c) (R.set i { r with cv := cv, c := c' }) := by
  have hi : i < R.length := (List.getElem?_eq_some_iff.1 hr).1
  have hu : Upd (fun k => k = g) w (w.setCell ⟨g, i * 3 + 1, none⟩ cv) := (Upd.refl (fun k => k = g) w).setCell (p := ⟨g, i * 3 + 1, none⟩) (.inl rfl) _
  have hog : OwnB (.slice (some ⟨g, 0, none⟩) R.length c) g := by simp [OwnB, Value.ownBlock]
  have hkeep : ∀ {v : Value} {n : Nat} {xs : List Value}, Own w 5 1 v n xs → Own (w.setCell ⟨g, i * 3 + 1, none⟩ cv) 5 1 v n xs := fun {v n xs} hv => hv.upd hu (fun k hk e => by
    subst e
    rcases h.list.2 with ⟨e1, _⟩ | ⟨g', cap, cur, e1, hb, _⟩
    · cases e1
    · injection e1 with e1
      injection e1 with e1
      injection e1 with e1 _
      subst e1
      exact hv.blk_ne hb (by decide) hk)
  refine { head := hu.blk h.head (fun e => h.list.blk_ne h.head (by decide) (by rw [e]; exact hog)), list := ?_, cont := ?_, lft := h.lft, len := ?_, num := by simpa using h.num }
  · rw [cellsR_cont hr, List.length_set]
    exact h.list.put (by omega) _
  · intro x hx
    rcases mem_set hx with rfl | hx
    · exact hkeep ho
    · exact hkeep (h.cont x hx)
  · intro x hx
    rcases mem_set hx with rfl | hx
    · exact hl
    · exact h.len x hx

/-- The list of files has been copied. -/
theorem RefL.copied (h : RefL w m off armed left lv R) {w1 : World} {A : Option Addr} {c : Nat} (hu : Upd NoF w w1) (ho : Own w1 94 3 (.slice A R.length c) R.length (cellsR R)) (hN : ∀ k, OwnB (.slice A R.length c) k → w.heap.size ≤ k) :
    RefL (w1.setCell ⟨m, 0, none⟩ (.slice A R.length c)) m off armed left (.slice A R.length c) R := by
  have hm := h.head.lt
  have hu1 : Upd (fun k => k = m) w1 (w1.setCell ⟨m, 0, none⟩ (.slice A R.length c)) := (Upd.refl (fun k => k = m) w1).setCell (p := ⟨m, 0, none⟩) (.inl rfl) _
  exact { head := (hu.blk h.head (fun h => h)).put 0 _, list := ho.upd hu1 (fun k hk e => by have := hN k hk; omega), cont := fun x hx => ((h.cont x hx).upd hu (fun _ _ h => h)).upd hu1 (fun k hk e => (h.cont x hx).ne_of h.head (by decide) hk e), lft := h.lft, len := h.len, num := h.num }

theorem RefL.at_ {A : Option Addr} {n c : Nat} (h : RefL w m off armed left (.slice A n c) R) {i : Nat} {r : RRec} (hr : R[i]? = some r) : ∃ g, A = some ⟨g, 0, none⟩ ∧ n = R.length ∧ R.length ≤ c ∧ c ≤ 9223372036854775807 ∧ g ≠ m ∧ OwnB (.slice A n c) g ∧
    w.cell? ⟨g, i * 3, none⟩ = some (strV r.nm) ∧ w.cell? ⟨g, i * 3 + 1, none⟩ = some r.cv ∧ w.cell? ⟨g, i * 3 + 2, none⟩ = some (.int .i64 r.dur) ∧ w.frozen? ⟨g, i * 3 + 1, none⟩ = false ∧ w.frozen? ⟨g, i * 3 + 2, none⟩ = false := by
  have hi : i < R.length := (List.getElem?_eq_some_iff.1 hr).1
  obtain ⟨A', c', e1, h1, h2, h3⟩ := h.form
  injection e1 with ea en ec
  subst ea en ec
  obtain ⟨g, hA, hg, hc⟩ := h3 (by omega)
  obtain ⟨y0, y1, y2⟩ := hc i r hr
  have hne : g ≠ m := fun e => h.list.blk_ne h.head (by decide) (by rw [← e]; exact hg)
  rcases h.list.2 with ⟨e1, _⟩ | ⟨g', cap, cur, e1, hb, _⟩
  · rw [hA] at e1; cases e1
  · rw [hA] at e1
    injection e1 with e1
    injection e1 with e1
    injection e1 with e1 _
    subst e1
    exact ⟨g, hA, rfl, h1, h2, hne, hg, y0, y1, y2, hb.frozen _, hb.frozen _⟩

def RPost (w : World) (m : Nat) (off armed : Bool) (left : Nat) (lv : Value) (R R' : List RRec) (code : Int) (e : Ending) (w' : World) : Prop :=
  e = retE code ∧ ∃ lv', RefL w' m off armed left lv' R' ∧ Upd (fun k => k = m) w w' ∧ ∀ k, refFoot m lv' R' k → refFoot m lv R k ∨ w.heap.size ≤ k

theorem RefL.drew (h : RefL w m off armed left lv R) : RefL w.drew m off armed left lv R := h.upd (F := NoF) (Upd.refl NoF w).drew (fun _ _ h => h)

/-- The frame after a copy of the list and one write into the copy. -/
theorem RPost.mk {off2 armed2 off3 : Bool} {left2 : Nat} {lv' lvo : Value} {i j g : Nat} {r r' : RRec} {w2 w3 w4 : World} {u : Value} (_ : RefL w4 m off3 armed2 left2 lv' R) (hr : R[i]? = some r) (hcv : r'.cv = r.cv) (hoff : off3 = off2)
    (hu2 : Upd (fun k => k = m) w w2) (hu3 : Upd NoF w2 w3) (hN : ∀ k, OwnB lv' k → w2.heap.size ≤ k) (hgo : OwnB lv' g) (hw4 : w4 = w3.setCell ⟨m, 0, none⟩ lv')
    (hd : RefL (w4.setCell ⟨g, j, none⟩ u) m off3 armed2 left2 lv' (R.set i r')) :
    RPost w m off2 armed2 left2 lvo R (R.set i r') 0 (retE 0) (w4.setCell ⟨g, j, none⟩ u).drew := by
  subst hoff
  refine ⟨rfl, lv', hd.drew, ?_, ?_⟩
  · have h4 : Upd (fun k => k = m) w w4 := by
      rw [hw4]
      exact (hu2.trans hu3 (fun _ _ h => h.elim)).setCell (p := ⟨m, 0, none⟩) (.inl rfl) _
    exact (h4.setCell (p := ⟨g, j, none⟩) (.inr (Nat.le_trans hu2.size (hN g hgo))) _).drew
  · intro k hk
    rcases hk with hk | hk | ⟨x, hx, hk⟩
    · exact .inl (.inl hk)
    · exact .inr (Nat.le_trans hu2.size (hN k hk))
    · rcases mem_set hx with rfl | hx
      · rw [hcv] at hk
        exact .inl (.inr (.inr ⟨r, List.mem_of_getElem? hr, hk⟩))
      · exact .inl (.inr (.inr ⟨x, hx, hk⟩))

set_option maxRecDepth 100000 in
set_option maxHeartbeats 2000000 in
theorem rsync_yes (h : RefL w m false armed left lv R) (nm : List UInt8) (hn : nm.isEmpty = false) (i : Nat) (hi : idxR R nm = i) (r : RRec) (hr : R[i]? = some r) (hwb : wrB armed left = true) :
    Calls Tryz.prog 55 #[ptrV m, strV nm] w (RPost w m false armed (wrL armed left) lv R (R.set i { r with dur := r.c.length }) 0) := by
  have c3 : w.cell? ⟨m, 3, none⟩ = some (.bool false) := h.head.cell 3
  have hil : i < R.length := (List.getElem?_eq_some_iff.1 hr).1
  have FI := find_any h nm
  rw [hi] at FI
  have HF := Lib.hid FI
  have FA := fails_any h
  rw [hwb] at FA
  have HA := Lib.hid FA
  have H := Lib.hid h
  have HR := Lib.hid hr
  obtain ⟨i0, hi0, hz0, hz1, hz2⟩ := info_parts file_info
  have hnum := h.num
  obtain ⟨A, c, hlv, hnc, hc, _⟩ := h.form
  subst hlv
  obtain ⟨Av, cv, hcvf⟩ := (h.cont r (List.mem_of_getElem? hr)).form
  have HCV := Lib.hid hcvf
  have t1 : decide ((i : Int) < 0) = false := by simp
  clear h FI FA hi hwb hr hcvf
  go_enter Tryz.func55, Tryz.ntmps55
  go_wp2_with (first
    | (go_at_call 52; refine HF.out.mono ?_; rintro e w' ⟨rfl, rfl⟩)
    | (go_at_call 91; refine HA.out.mono ?_; rintro e w2 ⟨rfl, hd2, hu2⟩; have d0 := hd2.head.cell 0; have hmz := hd2.head.lt; have D2 := Lib.hid hd2; have U2 := Lib.hid hu2; clear hd2 hu2)
    | (at_builtin; refine wpList_append_new _ rfl (.tmp 20) (.tmp 24) 42 rfl 94 i0 _ 3 48 Tryz.underlying42 hi0 hz0 hz1 hz2 rfl (.slice (some ⟨w2.heap.size, 0, none⟩) 0 0) rfl (Own.fresh w2 _ _) (.slice A R.length c) R.length (cellsR R) rfl (D2.out.list.upd ((Upd.refl NoF w2).alloc _) (fun _ _ h => h)).rd (cellsR_one D2.out.cont) (by unfold maxLen; omega) (by omega) ?_; intro A1 c1 w3 hown1 hupd1 hnew1; have hU3 : Upd NoF w2 w3 := ((Upd.refl NoF w2).alloc _).trans hupd1 (fun k hk e => by simp [OwnB, Value.ownBlock] at e; omega); have hN : ∀ k, OwnB (.slice A1 R.length c1) k → w2.heap.size ≤ k := (fun k hk => by rcases hnew1 k hk with e | e; (simp [OwnB, Value.ownBlock] at e; omega); (simp at e; omega)); have D3 := Lib.hid (RefL.copied D2.out hU3 hown1 hN); have x0 := (hU3.blk D2.out.head (fun h => h)).cell 0; have x1 := (hU3.blk D2.out.head (fun h => h)).frozen 0; have U3 := Lib.hid hU3; have N3 := Lib.hid hN; clear hown1 hupd1 hnew1 hU3 hN d0))
  obtain ⟨w4, hw4⟩ : ∃ w4, w4 = w3.setCell ⟨m, 0, none⟩ (.slice A1 R.length c1) := ⟨_, rfl⟩
  rw [← hw4] at D3 ⊢
  obtain ⟨g, hA, -, hnc1, hc1, hgm, hgo, y0, y1, y2, z1, z2⟩ := D3.out.at_ HR.out
  subst hA
  rw [HCV.out] at y1
  have y3 := D3.out.head.cell 0
  have t2 : (0:Int) ≤ i := by omega
  have t3 : (i:Int) < R.length := by omega
  have W4 := Lib.hid hw4
  clear y0 hw4 x0 x1
  go_still_tail 16, (by kernel_rfl)
  change wpList _ _ _ _ _ w4.drew
  go_wp2
  go_ret
  exact RPost.mk (by simpa using D3.out) HR.out rfl rfl U2.out U3.out N3.out hgo W4.out (D3.out.setDur HR.out _)
end
end

section
open Go.RowKit Go.Maps

section
variable {w w' : World} {m : Nat} {off armed : Bool} {left : Nat} {lv : Value} {R : List RRec}

set_option maxRecDepth 100000 in
theorem rremove_yes (h : RefL w m false armed left lv R) (nm : List UInt8) (hn : nm.isEmpty = false) (i : Nat) (hi : idxR R nm = i) (hil : i < R.length) (hwb : wrB armed left = true) :
    Calls Tryz.prog 53 #[ptrV m, strV nm] w (RPost w m false armed (wrL armed left) lv R (R.take i ++ R.drop (i + 1)) 0) := by
  have c3 : w.cell? ⟨m, 3, none⟩ = some (.bool false) := h.head.cell 3
  have FI := find_any h nm
  rw [hi] at FI
  have HF := Lib.hid FI
  have FA := fails_any h
  rw [hwb] at FA
  have HA := Lib.hid FA
  have t1 : decide ((i : Int) < 0) = false := by simp
  clear h FI FA hi hwb
  go_enter Tryz.func53, Tryz.ntmps53
  go_wp2_with (first
    | (go_at_call 52; refine HF.out.mono ?_; rintro e w' ⟨rfl, rfl⟩)
    | (go_at_call 91; refine HA.out.mono ?_; rintro e w2 ⟨rfl, hd2, hu2⟩; have D2 := Lib.hid hd2; have U2 := Lib.hid hu2; clear hd2 hu2)
    | (go_at_call 92; refine (drop_any D2.out i hil).mono ?_; rintro e w3 ⟨rfl, lv', hd3, hu3, hn3⟩; have D3 := Lib.hid hd3; have U3 := Lib.hid hu3; have N3 := Lib.hid hn3; clear hd3 hu3 hn3))
  go_ret
  refine ⟨rfl, lv', by simpa using D3.out, U2.out.trans U3.out (fun _ _ h => h), ?_⟩
  rintro k (hk | hk | ⟨x, hx, hk⟩)
  · exact .inl (.inl hk)
  · exact .inr (Nat.le_trans U2.out.size (N3.out k hk))
  · refine .inl (.inr (.inr ⟨x, ?_, hk⟩))
    rcases List.mem_append.1 hx with hx | hx
    · exact List.mem_of_mem_take hx
    · exact List.mem_of_mem_drop hx

set_option maxRecDepth 100000 in
theorem rread_yes (h : RefL w m false armed left lv R) (nm : List UInt8) (hn : nm.isEmpty = false) (i : Nat) (hi : idxR R nm = i) (r : RRec) (hr : R[i]? = some r) :
    Calls Tryz.prog 61 #[ptrV m, strV nm] w (BytesErr w (r.c, 0)) := by
  have c3 : w.cell? ⟨m, 3, none⟩ = some (.bool false) := h.head.cell 3
  have FI := find_any h nm
  rw [hi] at FI
  have HF := Lib.hid FI
  obtain ⟨A, c, hlv, _, _, _⟩ := h.form
  subst hlv
  obtain ⟨g, hA, -, hnc, hc, hgm, hgo, y0, y1, y2, z1, z2⟩ := h.at_ hr
  subst hA
  have hrm : r ∈ R := List.mem_of_getElem? hr
  obtain ⟨Av, cv, hcvf⟩ := (h.cont r hrm).form
  have C := Lib.hid (h.cont r hrm)
  have L := h.len r hrm
  rw [hcvf] at y1 C
  have y3 := h.head.cell 0
  have hmz := h.head.lt
  have hgz := h.list.lt hgo
  have t1 : decide ((i : Int) < 0) = false := by simp
  have hil : i < R.length := (List.getElem?_eq_some_iff.1 hr).1
  have t2 : (0:Int) ≤ i := by omega
  have t3 : (i:Int) < R.length := by omega
  obtain ⟨i0, hi0, hz0, hz1, hz2⟩ := info_parts byte_info
  clear h FI hi hr hcvf y0 y2 z1 z2 hgo hrm
  go_enter Tryz.func61, Tryz.ntmps61
  go_wp2_with (first
    | (go_at_call 52; refine HF.out.mono ?_; rintro e w' ⟨rfl, rfl⟩)
    | (at_builtin; refine wpList_append_new _ rfl (.tmp 18) (.tmp 26) 28 rfl 5 i0 _ 1 1 Tryz.underlying28 hi0 hz0 hz1 hz2 rfl (.slice (some ⟨w.heap.size, 0, none⟩) 0 0) rfl (Own.fresh w _ _) (.slice Av r.c.length cv) r.c.length (r.c.map byteV) rfl (C.out.upd ((Upd.refl NoF w).alloc _) (fun _ _ h => h)).rd (by simp [byteV, Value.oneCell']) (by unfold maxLen; omega) (by omega) ?_; intro A1 c1 w3 hown1 hupd1 hnew1; have O1 := Lib.hid hown1; have U1 := Lib.hid hupd1; have N1 := Lib.hid hnew1; clear hown1 hupd1 hnew1))
  go_ret2
  refine ⟨A1, c1, rfl, O1.out, ?_, ?_⟩
  · intro k hk
    rcases N1.out k hk with e | e
    · simp [OwnB, Value.ownBlock] at e; omega
    · simp at e; omega
  · exact ((Upd.refl NoF w).alloc _).trans U1.out (fun k hk e => by simp [OwnB, Value.ownBlock] at e; omega)

set_option maxRecDepth 100000 in
theorem rarm_any (h : RefL w m off armed left lv R) (n : Int) (h0 : -9223372036854775808 ≤ n) (h1 : n ≤ 9223372036854775807) :
    Calls Tryz.prog 20 #[ptrV m, .int .i64 n] w fun e w' => e = .returned (.tuple #[]) ∧ RefL w' m off true n.toNat lv R ∧ Upd (fun k => k = m) w w' := by
  have c1 : w.cell? ⟨m, 1, none⟩ = some (.bool armed) := h.head.cell 1
  have c2 : w.cell? ⟨m, 2, none⟩ = some (.int .i64 left) := h.head.cell 2
  have f1 : w.frozen? ⟨m, 1, none⟩ = false := h.head.frozen 1
  have f2 : w.frozen? ⟨m, 2, none⟩ = false := h.head.frozen 2
  have fin : RefL ((w.setCell ⟨m, 1, none⟩ (.bool true)).setCell ⟨m, 2, none⟩ (.int .i64 (n.toNat : Int))) m off true n.toNat lv R ∧ Upd (fun k => k = m) w ((w.setCell ⟨m, 1, none⟩ (.bool true)).setCell ⟨m, 2, none⟩ (.int .i64 (n.toNat : Int))) := by
    have hu : Upd (fun k => k = m) w ((w.setCell ⟨m, 1, none⟩ (.bool true)).setCell ⟨m, 2, none⟩ (.int .i64 (n.toNat : Int))) :=
      ((Upd.refl (fun k => k = m) w).setCell (p := ⟨m, 1, none⟩) (.inl rfl) _).setCell (p := ⟨m, 2, none⟩) (.inl rfl) _
    exact ⟨h.top hu ((h.head.put 1 _).put 2 _) (by omega), hu⟩
  have F := Lib.hid fin
  clear h fin
  go_enter Tryz.func20, Tryz.ntmps20
  go_wp2
  go_end0
  rw [show max n 0 = ((n.toNat : Nat) : Int) by omega]
  exact ⟨rfl, F.out⟩

set_option maxRecDepth 100000 in
theorem rmod_any (p : Int) (n : Nat) (w : World) (hn : 0 < n) (hn2 : n ≤ 4611686018427387904) (_hp1 : -9223372036854775808 ≤ p) (_hp2 : p ≤ 9223372036854775807) :
    Calls Tryz.prog 59 #[.int .i64 p, .int .i64 n] w fun e w' => e = .returned (.int .i64 ((p % (n : Int)).toNat : Int)) ∧ w = w' := by
  have hlo : -(n : Int) < p.tmod n := by
    have := Int.tmod_lt_of_pos (-p) (b := n) (by omega)
    rw [Int.neg_tmod] at this
    omega
  have hhi : p.tmod n < n := Int.tmod_lt_of_pos _ (by omega)
  have hne : ((n : Int) == 0) = false := by simp; omega
  by_cases hneg : p.tmod n < 0
  · have T := Lib.hid (show p.tmod n + n = ((p % (n : Int)).toNat : Int) by rw [← tmod_fix p n hn, if_pos hneg])
    generalize ((p % (n : Int)).toNat : Int) = q at T ⊢
    go_enter Tryz.func59, Tryz.ntmps59
    go_wp2
    go_ret
    exact ⟨congrArg (fun z => Ending.returned (.int .i64 z)) T.out, rfl⟩
  · have T := Lib.hid (show p.tmod n = ((p % (n : Int)).toNat : Int) by rw [← tmod_fix p n hn, if_neg hneg])
    generalize ((p % (n : Int)).toNat : Int) = q at T ⊢
    go_enter Tryz.func59, Tryz.ntmps59
    go_wp2
    go_ret
    exact ⟨congrArg (fun z => Ending.returned (.int .i64 z)) T.out, rfl⟩

set_option maxRecDepth 100000 in
theorem rpick_any (v : Value) (picks : List Int) (i : Nat) (w : World) {F : Nat → Prop} (hv : RdI F w v picks) (hi : i ≤ 4611686018427387904) :
    Calls Tryz.prog 60 #[v, .int .i64 i] w fun e w' => e = .returned (.int .i64 (picks[i]?.getD 0)) ∧ w = w' := by
  obtain ⟨A, c, rfl, hnc, hc, hl, hx⟩ := hv.now
  by_cases h : i < picks.length
  · obtain ⟨g, o, rfl, hcell⟩ := hx (by omega)
    have c0 : w.cell? ⟨g, o + i, none⟩ = some (.int .i64 picks[i]) := hcell i _ (by simp [h])
    have t1 : decide ((i : Int) < picks.length) = true := by simpa using h
    have t2 : (0:Int) ≤ i := by omega
    have t3 : (i:Int) < picks.length := by omega
    have E := Lib.hid (show picks[i] = picks[i]?.getD 0 by simp [h])
    clear hx hcell hv
    go_enter Tryz.func60, Tryz.ntmps60
    go_wp2
    go_ret
    exact ⟨congrArg (fun z => Ending.returned (.int .i64 z)) E.out, rfl⟩
  · have t1 : decide ((i : Int) < picks.length) = false := by simp; omega
    have E := Lib.hid (show 0 = picks[i]?.getD 0 by simp [h])
    clear hx hv
    go_enter Tryz.func60, Tryz.ntmps60
    go_wp2
    go_ret
    exact ⟨congrArg (fun z => Ending.returned (.int .i64 z)) E.out, rfl⟩
end
end

section
open Go.RowKit Go.Maps

def absRR (r : RRec) : List UInt8 × FSt := (r.nm, ⟨r.c, r.dur⟩)

section
variable {w w' : World} {m : Nat} {off armed : Bool} {left : Nat} {lv : Value} {R : List RRec}

def RPostA (w : World) (m : Nat) (off armed : Bool) (left : Nat) (lv : Value) (R : List RRec) (fs' : FS) (code : Int) (e : Ending) (w' : World) : Prop :=
  e = retE code ∧ ∃ lv' R', RefL w' m off armed left lv' R' ∧ R'.map absRR = fs' ∧ Upd (fun k => k = m) w w' ∧ ∀ k, refFoot m lv' R' k → refFoot m lv R k ∨ w.heap.size ≤ k

theorem rframe2 {w2 w3 w4 w1 : World} {lv' : Value} {g : Nat} {o : Obj} (hu2 : Upd (fun k => k = m) w w2) (hu3 : Upd NoF w2 w3) (hN : ∀ k, OwnB lv' k → w2.heap.size ≤ k) (hgo : OwnB lv' g) (hw4 : w4 = w3.setCell ⟨m, 0, none⟩ lv')
    (hu : Upd (OwnB (.slice (some ⟨w4.heap.size, 0, none⟩) 0 0)) (w4.alloc o).drew w1) : Upd (fun k => k = m) w w1 ∧ w.heap.size ≤ g ∧ w.heap.size ≤ w4.heap.size := by
  have h4 : Upd (fun k => k = m) w w4 := by
    rw [hw4]
    exact (hu2.trans hu3 (fun _ _ h => h.elim)).setCell (p := ⟨m, 0, none⟩) (.inl rfl) _
  exact ⟨((h4.alloc _).drew).trans hu (fun k hk e => by have := h4.size; simp [OwnB, Value.ownBlock] at e; omega), Nat.le_trans hu2.size (hN g hgo), h4.size⟩

end
end
end Go.Proofs.YtbgificdilpdcaaGreat
