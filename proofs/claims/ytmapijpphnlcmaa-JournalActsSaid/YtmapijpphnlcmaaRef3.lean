/- The reference disk: put. No condition. -/
import Derived.Test.YtmapijpphnlcmaaRef2
import Derived.Deep.QuietTactic
import Derived.BigQuiet
namespace Go.Proofs.Ytmapijpphnlcmaa
open Go.RowKit Go.Maps

def insRR (r : RRec) : List RRec → List RRec
  | [] => [r]
  | y :: l => if bytesBefore r.nm y.nm then r :: y :: l else y :: insRR r l

theorem less_before : ∀ (a b : List UInt8), Op.bytesLess a b = bytesBefore a b
  | [], [] => rfl
  | [], _ :: _ => rfl
  | _ :: _, [] => rfl
  | a :: r, b :: s => by simp [Op.bytesLess, bytesBefore, less_before r s]

theorem insRR_split {r : RRec} : ∀ {R : List RRec} {k : Nat}, k ≤ R.length → (∀ j, j < k → ∀ x, R[j]? = some x → bytesBefore x.nm r.nm = true) → (∀ x, R[k]? = some x → bytesBefore x.nm r.nm = false) → (∀ x ∈ R, x.nm ≠ r.nm) → R.take k ++ r :: R.drop k = insRR r R
  | [], 0, _, _, _, _ => rfl
  | [], k + 1, h, _, _, _ => by simp at h
  | y :: l, 0, _, _, h0, hn => by
    have h1 := h0 y rfl
    have h2 := hn y (by simp)
    have h3 : bytesBefore r.nm y.nm = true := by
      rcases Go.WideAt.bytes_total r.nm y.nm (fun e => h2 e.symm) with h | h
      · exact h
      · rw [h1] at h; cases h
    simp [insRR, h3]
  | y :: l, k + 1, hk, hb, h0, hn => by
    have h1 : bytesBefore y.nm r.nm = true := hb 0 (by omega) y rfl
    have h3 : bytesBefore r.nm y.nm = false := by
      cases h : bytesBefore r.nm y.nm
      · rfl
      · have := Go.WideShapes.bytes_trans _ _ _ h1 h
        rw [Go.WideAt.bytes_irrefl] at this
        cases this
    have := insRR_split (R := l) (k := k) (by simpa using hk) (fun j hj x hx => hb (j + 1) (by omega) x (by simpa using hx)) (fun x hx => h0 x (by simpa using hx)) (fun x hx => hn x (by simp [hx]))
    simp [insRR, h3, this]

section
variable {w w' : World} {m : Nat} {off armed : Bool} {left : Nat} {lv : Value} {R : List RRec}

set_option maxRecDepth 100000 in
set_option maxHeartbeats 4000000 in
theorem put_some (h : RefL w m off armed left lv R) (r : RRec) (hcv : Own w 5 1 r.cv r.c.length (r.c.map byteV)) (hrl : r.c.length ≤ 1099511627776) (hnew : ∀ x ∈ R, x.nm ≠ r.nm) (hnum : R.length + 1 ≤ 1099511627776) (hA00 : lv ≠ .slice none 0 0) :
    Calls Try.prog 64 #[ptrV m, .agg #[strV r.nm, r.cv, .int .i64 r.dur]] w (DropPost w m off armed left (insRR r R) (fun k => k = m)) := by
  obtain ⟨A, c, hlv, hn, hc, hx⟩ := h.form
  subst hlv
  have hA0 : A ≠ none := by
    rintro rfl
    rcases h.form2 with ⟨_, h0, h1⟩ | ⟨g, e⟩
    · exact hA00 (by rw [h0, h1])
    · cases e
  clear hA00
  have c0 : w.cell? ⟨m, 0, none⟩ = some (.slice A R.length c) := h.head.cell 0
  have f0 : w.frozen? ⟨m, 0, none⟩ = false := h.head.frozen 0
  have hmz : m < w.heap.size := h.head.lt
  obtain ⟨Ac, cc, hcvf⟩ := hcv.form
  obtain ⟨i0, hi0, hz0, hz1, hz2⟩ := info_parts file_info
  have HX := Lib.hid hx
  have H := Lib.hid h
  have HC := Lib.hid hcv
  have HN := Lib.hid hnew
  clear h hx hcv hnew
  rw [hcvf]
  have HCF := Lib.hid hcvf
  clear hcvf
  obtain ⟨X, hX⟩ : ∃ X, X = Obj.cells #[strV r.nm, .slice Ac r.c.length cc, .int .i64 r.dur] 89 := ⟨_, rfl⟩
  have P1 := Lib.hid (show ∀ q, Own (((w.alloc (.cells #[strV r.nm, .slice Ac r.c.length cc, .int .i64 r.dur] 89)).drewN q).alloc (.cells #[] 89)) 89 3 (.slice (some ⟨w.heap.size + 1, 0, none⟩) 0 0) 0 [] from fun q => by
    simpa using Own.fresh ((w.alloc (.cells #[strV r.nm, .slice Ac r.c.length cc, .int .i64 r.dur] 89)).drewN q) 89 3)
  have hW : ∀ q, Upd NoF w (((w.alloc (.cells #[strV r.nm, .slice Ac r.c.length cc, .int .i64 r.dur] 89)).drewN q).alloc (.cells #[] 89)) := fun q => (((Upd.refl NoF w).alloc _).drewN q).alloc _
  have HW := Lib.hid hW
  have hlr : ∀ w2, Upd NoF w w2 → Rd w2 3 (.slice A R.length c) R.length (cellsR R) := fun w2 hu => (H.out.list.upd hu (fun _ _ h => h)).rd
  have LR := Lib.hid hlr
  have P3 := Lib.hid (show ∀ k, ∀ u ∈ (cellsR R).take (k * 3), u.oneCell' = true from fun k u hu => cellsR_one H.out.cont u (List.mem_of_mem_take hu))
  have P3' := Lib.hid (show ∀ k, ∀ u ∈ (cellsR R).drop (k * 3), u.oneCell' = true from fun k u hu => cellsR_one H.out.cont u (List.mem_of_mem_drop hu))
  have hfz : ∀ q w1, Upd (OwnB (.slice (some ⟨w.heap.size + 1, 0, none⟩) 0 0)) (((w.alloc (.cells #[strV r.nm, .slice Ac r.c.length cc, .int .i64 r.dur] 89)).drewN q).alloc (.cells #[] 89)) w1 → Upd NoF w w1 ∧ Blk w1 w.heap.size 89 #[strV r.nm, .slice Ac r.c.length cc, .int .i64 r.dur] ∧ Blk w1 m 43 #[.slice A R.length c, .bool armed, .int .i64 left, .bool off] ∧ w.heap.size + 2 ≤ w1.heap.size := by
    intro q w1 hu
    have hu1 : Upd NoF w w1 := (HW.out q).trans hu (fun k hk e => by simp [OwnB, Value.ownBlock] at e; omega)
    refine ⟨hu1, hu.blk (Blk.alloc ((Blk.new w _ _).drewN q) _) (by simp [OwnB, Value.ownBlock]), hu1.blk H.out.head (fun h => h), by have := hu.size; simp at this; omega⟩
  have FZ := Lib.hid hfz
  have fin : ∀ k, k ≤ R.length → (∀ j, j < k → ∀ x, R[j]? = some x → bytesBefore x.nm r.nm = true) → (∀ x, R[k]? = some x → bytesBefore x.nm r.nm = false) → ∀ (w3 : World) (v : Value) (n : Nat), Upd NoF w w3 → (∀ j, OwnB v j → w.heap.size ≤ j) → n = R.length + 1 →
      Own w3 89 3 v n ((cellsR R).take (k * 3) ++ [strV r.nm, .slice Ac r.c.length cc, .int .i64 r.dur] ++ (cellsR R).drop (k * 3)) →
      DropPost w m off armed left (insRR r R) (fun k => k = m) (.returned (.tuple #[])) (w3.setCell ⟨m, 0, none⟩ v) := by
    intro k hk hlo hhi w3 v n hu hN hn3 ho
    have hsp := insRR_split hk hlo hhi HN.out
    have hlen : (insRR r R).length = R.length + 1 := by rw [← hsp]; simp; omega
    have hcells : cellsR (insRR r R) = (cellsR R).take (k * 3) ++ [strV r.nm, .slice Ac r.c.length cc, .int .i64 r.dur] ++ (cellsR R).drop (k * 3) := by
      rw [← hsp, cellsR_append, cellsR_take, cellsR_drop]
      simp [cellsR, HCF.out]
    have hU3 : Upd (fun k => k = m) w (w3.setCell ⟨m, 0, none⟩ v) := (hu.mono (G := fun k => k = m) (fun _ _ h => h.elim)).setCell (p := ⟨m, 0, none⟩) (.inl rfl) _
    have hmem : ∀ x ∈ insRR r R, x = r ∨ x ∈ R := by
      intro x hx
      rw [← hsp] at hx
      rcases List.mem_append.1 hx with h | h
      · exact .inr (List.mem_of_mem_take h)
      · rcases List.mem_cons.1 h with h | h
        · exact .inl h
        · exact .inr (List.mem_of_mem_drop h)
    have hcont : ∀ x ∈ insRR r R, Own w 5 1 x.cv x.c.length (x.c.map byteV) := by
      intro x hx
      rcases hmem x hx with rfl | hx
      · exact HC.out
      · exact H.out.cont x hx
    refine ⟨rfl, v, { head := (hu.blk H.out.head (fun h => h)).put 0 _, list := ?_, cont := fun x hx => (hcont x hx).upd hU3 (fun j hj e => (hcont x hx).ne_of H.out.head (by decide) hj e), lft := H.out.lft, len := ?_, num := by omega }, hU3, hN⟩
    · rw [hlen, ← hn3, hcells]
      exact ho.upd ((Upd.refl (fun k => k = m) w3).setCell (p := ⟨m, 0, none⟩) (.inl rfl) _) (fun j hj e => by have := hN j hj; omega)
    · intro x hx
      rcases hmem x hx with rfl | hx
      · exact hrl
      · exact H.out.len x hx
  have FIN := Lib.hid fin
  clear hW hlr hfz fin hX X
  go_enter Try.func64, Try.ntmps64
  go_wp2
  go_loopw [4] (fun i wr => ∃ k : Nat, ∃ nd : Nat, k ≤ R.length ∧ i = .int .i64 k ∧ (∀ j, j < k → ∀ x, R[j]? = some x → bytesBefore x.nm r.nm = true) ∧ wr = (w.alloc (.cells #[strV r.nm, .slice Ac r.c.length cc, .int .i64 r.dur] 89)).drewN nd) (fun i _ => R.length - (intOf i).toNat)
  case atStart => exact ⟨0, 0, Nat.zero_le _, rfl, fun j h => absurd h (by omega), rfl⟩
  case round =>
    obtain ⟨k, nd, hk, rfl, hlo, rfl⟩ := hrel
    have HLO := Lib.hid hlo
    clear hlo
    by_cases hlt : k < R.length
    · obtain ⟨g, rfl, _, hcell⟩ := HX.out (by omega)
      obtain ⟨x, hx⟩ : ∃ x, R[k]? = some x := ⟨_, List.getElem?_eq_getElem hlt⟩
      have hc1 : w.cell? ⟨g, k * 3, none⟩ = some (strV x.nm) := (hcell k x hx).1
      have hgz : g < w.heap.size := block_lt_of_cell hc1
      have HXX := Lib.hid hx
      have hd1 : decide ((k : Int) < (R.length : Int)) = true := by simp; omega
      have hd2 : decide (k < R.length) = true := by simp; omega
      clear hcell hx
      have hless := less_before x.nm r.nm
      cases hb : bytesBefore x.nm r.nm
      · have HHI := Lib.hid (show ∀ y, R[k]? = some y → bytesBefore y.nm r.nm = false from fun y hy => by rw [HXX.out] at hy; injection hy with hy; subst hy; exact hb)
        have hkc : ¬ c = k := by omega
        go_wp2
        go_quiet (fail)
        go_wp2_with (first
          | (at_builtin; refine wpList_append_new _ rfl (.tmp 28) (.tmp 34) 41 rfl 89 i0 _ 3 48 Try.underlying41 hi0 hz0 hz1 hz2 rfl (.slice (some ⟨w.heap.size + 1, 0, none⟩) 0 0) rfl (P1.out _) (.slice (some ⟨g, 0, none⟩) k c) k ((cellsR R).take (k * 3)) rfl ((LR.out _ (HW.out _)).upto hk) (P3.out k) (by unfold maxLen; omega) (by omega) ?_; intro A1 c1 w1 hown1 hupd1 hnew1; obtain ⟨g1, g2, g3, g4⟩ := FZ.out _ w1 hupd1; have d0 := g2.cell 0; have d1 := g2.cell 1; have d2 := g2.cell 2; have d3 := g3.cell 0; have d4 := g3.frozen 0; have O1 := Lib.hid hown1; have G1 := Lib.hid g1; have G3 := Lib.hid g3; have N1 := Lib.hid (show ∀ j, OwnB (.slice A1 k c1) j → w.heap.size < j from fun j hj => by rcases hnew1 j hj with e | e; (simp [OwnB, Value.ownBlock] at e; omega); (simp at e; omega)); clear hown1 hupd1 hnew1 g1 g2 g3)
          | (at_builtin; refine wpList_append_to _ rfl (.tmp 36) (.tmp 38) 41 rfl 89 i0 _ 3 48 Try.underlying41 hi0 hz0 hz1 hz2 rfl (.slice A1 k c1) k ((cellsR R).take (k * 3)) rfl (Own.upd O1.out ((Upd.refl NoF w1).alloc _) (fun _ _ h => h)) (.slice (some ⟨w1.heap.size, 0, none⟩) 1 1) 1 [strV r.nm, .slice Ac r.c.length cc, .int .i64 r.dur] rfl (Rd.of_blk (Blk.new w1 _ _) (Nat.le_refl _) (by unfold maxLen; omega) rfl (fun j u hu => by simpa using hu)) (by simp [Value.oneCell']) (by unfold maxLen; omega) (by omega) ?_; intro A2 c2 w2 hown2 hupd2 hnew2; have hU2 : Upd NoF w w2 := (G1.out.alloc _).trans hupd2 (fun j hj e => by have := N1.out j e; omega); have e3 := (hU2.blk H.out.head (fun h => h)).cell 0; have e4 := (hU2.blk H.out.head (fun h => h)).frozen 0; have O2 := Lib.hid hown2; have U2 := Lib.hid hU2; have N2 := Lib.hid (show ∀ j, OwnB (.slice A2 (k + 1) c2) j → w.heap.size ≤ j from fun j hj => by rcases hnew2 j hj with e | e; (have := N1.out j e; omega); (simp at e; omega)); clear hown2 hupd2 hnew2 hU2 d0 d1 d2 d3 d4)
          | (at_builtin; refine wpList_append_to _ rfl (.tmp 41) (.tmp 47) 41 rfl 89 i0 _ 3 48 Try.underlying41 hi0 hz0 hz1 hz2 rfl (.slice A2 (k + 1) c2) (k + 1) ((cellsR R).take (k * 3) ++ [strV r.nm, .slice Ac r.c.length cc, .int .i64 r.dur]) rfl O2.out (.slice (some ⟨g, k * 3, none⟩) (R.length - k) (c - k)) (R.length - k) ((cellsR R).drop (k * 3)) rfl ((LR.out _ U2.out).from_ hk _ (fun _ => by simp)) (P3'.out k) (by unfold maxLen; omega) (by omega) ?_; intro A3 c3 w3 hown3 hupd3 hnew3; have hU3 : Upd NoF w w3 := U2.out.trans hupd3 (fun j hj e => by have := N2.out j e; omega); have i3 := (hU3.blk H.out.head (fun h => h)).cell 0; have i4 := (hU3.blk H.out.head (fun h => h)).frozen 0; have O3 := Lib.hid hown3; have U3 := Lib.hid hU3; have N3 := Lib.hid (show ∀ j, OwnB (.slice A3 (k + 1 + (R.length - k)) c3) j → w.heap.size ≤ j from fun j hj => by rcases hnew3 j hj with e | e; (exact N2.out j e); (have := U2.out.size; omega)); clear hown3 hupd3 hnew3 hU3 e3 e4))
        go_end0
        exact FIN.out k hk HLO.out HHI.out w3 _ _ U3.out N3.out (by omega) O3.out
      · have HB := Lib.hid hb
        go_wp2
        go_quiet (fail)
        go_wp2
        go_roundw
        case rel =>
          refine ⟨k + 1, _, by omega, by go_num, fun j hj y hy => ?_, rfl⟩
          rcases Nat.lt_or_ge j k with h | h
          · exact HLO.out j h y hy
          · obtain rfl : j = k := by omega
            rw [HXX.out] at hy
            injection hy with hy
            subst hy
            exact HB.out
        case measure => simp [intOf]; omega
    · obtain rfl : k = R.length := by omega
      have HHI := Lib.hid (show ∀ y, R[R.length]? = some y → bytesBefore y.nm r.nm = false from fun y hy => by simp at hy)
      have hd1 : decide ((R.length : Int) < (R.length : Int)) = false := by simp
      have hd2 : decide (R.length < R.length) = false := by simp
      rcases H.out.form2 with ⟨rfl, h0, rfl⟩ | ⟨g, rfl⟩
      · exact absurd rfl hA0
      · by_cases hce : c = R.length
        · subst hce
          go_wp2
          go_quiet (fail)
          go_wp2_with (first
            | (at_builtin; refine wpList_append_new _ rfl (.tmp 28) (.tmp 34) 41 rfl 89 i0 _ 3 48 Try.underlying41 hi0 hz0 hz1 hz2 rfl (.slice (some ⟨w.heap.size + 1, 0, none⟩) 0 0) rfl (P1.out _) (.slice (some ⟨g, 0, none⟩) R.length R.length) R.length ((cellsR R).take (R.length * 3)) rfl ((LR.out _ (HW.out _)).upto (Nat.le_refl _)) (P3.out R.length) (by unfold maxLen; omega) (by omega) ?_; intro A1 c1 w1 hown1 hupd1 hnew1; obtain ⟨g1, g2, g3, g4⟩ := FZ.out _ w1 hupd1; have d0 := g2.cell 0; have d1 := g2.cell 1; have d2 := g2.cell 2; have d3 := g3.cell 0; have d4 := g3.frozen 0; have O1 := Lib.hid hown1; have G1 := Lib.hid g1; have G3 := Lib.hid g3; have N1 := Lib.hid (show ∀ j, OwnB (.slice A1 R.length c1) j → w.heap.size < j from fun j hj => by rcases hnew1 j hj with e | e; (simp [OwnB, Value.ownBlock] at e; omega); (simp at e; omega)); clear hown1 hupd1 hnew1 g1 g2 g3)
            | (at_builtin; refine wpList_append_to _ rfl (.tmp 36) (.tmp 38) 41 rfl 89 i0 _ 3 48 Try.underlying41 hi0 hz0 hz1 hz2 rfl (.slice A1 R.length c1) R.length ((cellsR R).take (R.length * 3)) rfl (Own.upd O1.out ((Upd.refl NoF w1).alloc _) (fun _ _ h => h)) (.slice (some ⟨w1.heap.size, 0, none⟩) 1 1) 1 [strV r.nm, .slice Ac r.c.length cc, .int .i64 r.dur] rfl (Rd.of_blk (Blk.new w1 _ _) (Nat.le_refl _) (by unfold maxLen; omega) rfl (fun j u hu => by simpa using hu)) (by simp [Value.oneCell']) (by unfold maxLen; omega) (by omega) ?_; intro A2 c2 w2 hown2 hupd2 hnew2; have hU2 : Upd NoF w w2 := (G1.out.alloc _).trans hupd2 (fun j hj e => by have := N1.out j e; omega); have e3 := (hU2.blk H.out.head (fun h => h)).cell 0; have e4 := (hU2.blk H.out.head (fun h => h)).frozen 0; have O2 := Lib.hid hown2; have U2 := Lib.hid hU2; have N2 := Lib.hid (show ∀ j, OwnB (.slice A2 (R.length + 1) c2) j → w.heap.size ≤ j from fun j hj => by rcases hnew2 j hj with e | e; (have := N1.out j e; omega); (simp at e; omega)); clear hown2 hupd2 hnew2 hU2 d0 d1 d2 d3 d4)
            | (at_builtin; refine wpList_append_none _ rfl (.tmp 41) (.tmp 47) 41 rfl 89 i0 3 Try.underlying41 hi0 (.slice A2 (R.length + 1) c2) (R.length + 1) _ rfl O2.out _ _ rfl ?_))
          go_end0
          exact FIN.out R.length (Nat.le_refl _) HLO.out HHI.out w2 _ _ U2.out N2.out rfl (by rw [List.drop_eq_nil_of_le (by rw [length_cellsR]; omega), List.append_nil]; exact O2.out)
        · have hkc : ¬ c = R.length := hce
          go_wp2
          go_quiet (fail)
          go_wp2_with (first
            | (at_builtin; refine wpList_append_new _ rfl (.tmp 28) (.tmp 34) 41 rfl 89 i0 _ 3 48 Try.underlying41 hi0 hz0 hz1 hz2 rfl (.slice (some ⟨w.heap.size + 1, 0, none⟩) 0 0) rfl (P1.out _) (.slice (some ⟨g, 0, none⟩) R.length c) R.length ((cellsR R).take (R.length * 3)) rfl ((LR.out _ (HW.out _)).upto (Nat.le_refl _)) (P3.out R.length) (by unfold maxLen; omega) (by omega) ?_; intro A1 c1 w1 hown1 hupd1 hnew1; obtain ⟨g1, g2, g3, g4⟩ := FZ.out _ w1 hupd1; have d0 := g2.cell 0; have d1 := g2.cell 1; have d2 := g2.cell 2; have d3 := g3.cell 0; have d4 := g3.frozen 0; have O1 := Lib.hid hown1; have G1 := Lib.hid g1; have G3 := Lib.hid g3; have N1 := Lib.hid (show ∀ j, OwnB (.slice A1 R.length c1) j → w.heap.size < j from fun j hj => by rcases hnew1 j hj with e | e; (simp [OwnB, Value.ownBlock] at e; omega); (simp at e; omega)); clear hown1 hupd1 hnew1 g1 g2 g3)
            | (at_builtin; refine wpList_append_to _ rfl (.tmp 36) (.tmp 38) 41 rfl 89 i0 _ 3 48 Try.underlying41 hi0 hz0 hz1 hz2 rfl (.slice A1 R.length c1) R.length ((cellsR R).take (R.length * 3)) rfl (Own.upd O1.out ((Upd.refl NoF w1).alloc _) (fun _ _ h => h)) (.slice (some ⟨w1.heap.size, 0, none⟩) 1 1) 1 [strV r.nm, .slice Ac r.c.length cc, .int .i64 r.dur] rfl (Rd.of_blk (Blk.new w1 _ _) (Nat.le_refl _) (by unfold maxLen; omega) rfl (fun j u hu => by simpa using hu)) (by simp [Value.oneCell']) (by unfold maxLen; omega) (by omega) ?_; intro A2 c2 w2 hown2 hupd2 hnew2; have hU2 : Upd NoF w w2 := (G1.out.alloc _).trans hupd2 (fun j hj e => by have := N1.out j e; omega); have e3 := (hU2.blk H.out.head (fun h => h)).cell 0; have e4 := (hU2.blk H.out.head (fun h => h)).frozen 0; have O2 := Lib.hid hown2; have U2 := Lib.hid hU2; have N2 := Lib.hid (show ∀ j, OwnB (.slice A2 (R.length + 1) c2) j → w.heap.size ≤ j from fun j hj => by rcases hnew2 j hj with e | e; (have := N1.out j e; omega); (simp at e; omega)); clear hown2 hupd2 hnew2 hU2 d0 d1 d2 d3 d4)
            | (at_builtin; refine wpList_append_none _ rfl (.tmp 41) (.tmp 47) 41 rfl 89 i0 3 Try.underlying41 hi0 (.slice A2 (R.length + 1) c2) (R.length + 1) _ rfl O2.out _ _ rfl ?_))
          go_end0
          exact FIN.out R.length (Nat.le_refl _) HLO.out HHI.out w2 _ _ U2.out N2.out rfl (by rw [List.drop_eq_nil_of_le (by rw [length_cellsR]; omega), List.append_nil]; exact O2.out)

set_option maxRecDepth 100000 in
set_option maxHeartbeats 4000000 in
theorem put_none (h : RefL w m off armed left (.slice none 0 0) []) (r : RRec) (hcv : Own w 5 1 r.cv r.c.length (r.c.map byteV)) (hrl : r.c.length ≤ 1099511627776) :
    Calls Try.prog 64 #[ptrV m, .agg #[strV r.nm, r.cv, .int .i64 r.dur]] w (DropPost w m off armed left [r] (fun k => k = m)) := by
  have c0 : w.cell? ⟨m, 0, none⟩ = some (.slice none 0 0) := h.head.cell 0
  have f0 : w.frozen? ⟨m, 0, none⟩ = false := h.head.frozen 0
  have hmz : m < w.heap.size := h.head.lt
  obtain ⟨Ac, cc, hcvf⟩ := hcv.form
  obtain ⟨i0, hi0, hz0, hz1, hz2⟩ := info_parts file_info
  have H := Lib.hid h
  have HC := Lib.hid hcv
  clear h hcv
  have hW : ∀ q q2, Upd NoF w ((((w.alloc (.cells #[strV r.nm, .slice Ac r.c.length cc, .int .i64 r.dur] 89)).drewN q).alloc (.cells #[] 89)).alloc (.cells #[strV r.nm, .slice Ac r.c.length cc, .int .i64 r.dur] 89 q2)) := fun q q2 => ((((Upd.refl NoF w).alloc _).drewN q).alloc _).alloc _
  have HW := Lib.hid hW
  have P1 := Lib.hid (show ∀ q, Own (((w.alloc (.cells #[strV r.nm, .slice Ac r.c.length cc, .int .i64 r.dur] 89)).drewN q).alloc (.cells #[] 89)) 89 3 (.slice (some ⟨w.heap.size + 1, 0, none⟩) 0 0) 0 [] from fun q => by
    simpa using Own.fresh ((w.alloc (.cells #[strV r.nm, .slice Ac r.c.length cc, .int .i64 r.dur] 89)).drewN q) 89 3)
  have P2 := Lib.hid (show ∀ q, Own ((((w.alloc (.cells #[strV r.nm, .slice Ac r.c.length cc, .int .i64 r.dur] 89)).drewN q).alloc (.cells #[] 89)).alloc (.cells #[strV r.nm, .slice Ac r.c.length cc, .int .i64 r.dur] 89)) 89 3 (.slice (some ⟨w.heap.size + 1, 0, none⟩) 0 0) 0 [] from fun q => (P1.out q).upd ((Upd.refl NoF _).alloc _) (fun _ _ h => h))
  have P4 := Lib.hid (show ∀ q, Rd ((((w.alloc (.cells #[strV r.nm, .slice Ac r.c.length cc, .int .i64 r.dur] 89)).drewN q).alloc (.cells #[] 89)).alloc (.cells #[strV r.nm, .slice Ac r.c.length cc, .int .i64 r.dur] 89)) 3 (.slice (some ⟨w.heap.size + 1 + 1, 0, none⟩) 1 1) 1 [strV r.nm, .slice Ac r.c.length cc, .int .i64 r.dur] from fun q =>
    Rd.of_blk (by simpa using Blk.new (((w.alloc (.cells #[strV r.nm, .slice Ac r.c.length cc, .int .i64 r.dur] 89)).drewN q).alloc (.cells #[] 89)) 89 #[strV r.nm, .slice Ac r.c.length cc, .int .i64 r.dur]) (Nat.le_refl _) (by unfold maxLen; omega) rfl (fun j u hu => by simpa using hu))
  have fin : ∀ (w3 : World) (v : Value), Upd NoF w w3 → (∀ j, OwnB v j → w.heap.size ≤ j) → Own w3 89 3 v 1 [strV r.nm, .slice Ac r.c.length cc, .int .i64 r.dur] → DropPost w m off armed left [r] (fun k => k = m) (.returned (.tuple #[])) (w3.setCell ⟨m, 0, none⟩ v) := by
    intro w3 v hu hN ho
    have hU3 : Upd (fun k => k = m) w (w3.setCell ⟨m, 0, none⟩ v) := (hu.mono (G := fun k => k = m) (fun _ _ h => h.elim)).setCell (p := ⟨m, 0, none⟩) (.inl rfl) _
    refine ⟨rfl, v, { head := (hu.blk H.out.head (fun h => h)).put 0 _, list := ?_, cont := ?_, lft := H.out.lft, len := ?_, num := by simp }, hU3, hN⟩
    · have e : cellsR [r] = [strV r.nm, .slice Ac r.c.length cc, .int .i64 r.dur] := by simp [cellsR, hcvf]
      rw [e]
      exact ho.upd ((Upd.refl (fun k => k = m) w3).setCell (p := ⟨m, 0, none⟩) (.inl rfl) _) (fun j hj e => by have := hN j hj; omega)
    · intro x hx
      obtain rfl : x = r := by simpa using hx
      exact HC.out.upd hU3 (fun j hj e => HC.out.ne_of H.out.head (by decide) hj e)
    · intro x hx
      obtain rfl : x = r := by simpa using hx
      exact hrl
  have FIN := Lib.hid fin
  clear fin hW
  rw [hcvf]
  clear hcvf
  go_enter Try.func64, Try.ntmps64
  go_wp2
  go_loopw [4] (fun i wr => i = .int .i64 0 ∧ wr = w.alloc (.cells #[strV r.nm, .slice Ac r.c.length cc, .int .i64 r.dur] 89)) (fun _ _ => 0)
  case atStart => exact ⟨rfl, rfl⟩
  case round =>
    obtain ⟨rfl, rfl⟩ := hrel
    go_wp2
    go_quiet (fail)
    go_wp2_with (first
      | (at_builtin; refine wpList_append_none _ rfl (.tmp 28) (.tmp 34) 41 rfl 89 i0 3 Try.underlying41 hi0 (.slice (some ⟨w.heap.size + 1, 0, none⟩) 0 0) 0 _ rfl (P1.out _) none 0 rfl ?_)
      | (at_builtin; refine wpList_append_new _ rfl (.tmp 36) (.tmp 38) 41 rfl 89 i0 _ 3 48 Try.underlying41 hi0 hz0 hz1 hz2 rfl (.slice (some ⟨w.heap.size + 1, 0, none⟩) 0 0) rfl (P2.out _) (.slice (some ⟨w.heap.size + 1 + 1, 0, none⟩) 1 1) 1 [strV r.nm, .slice Ac r.c.length cc, .int .i64 r.dur] rfl (P4.out _) (by simp [Value.oneCell']) (by unfold maxLen; omega) (by omega) ?_; intro A2 c2 w2 hown2 hupd2 hnew2; have hU2 : Upd NoF w w2 := (HW.out _ _).trans hupd2 (fun j hj e => by simp [OwnB, Value.ownBlock] at e; omega); have e3 := (hU2.blk H.out.head (fun h => h)).cell 0; have e4 := (hU2.blk H.out.head (fun h => h)).frozen 0; have O2 := Lib.hid hown2; have U2 := Lib.hid hU2; have N2 := Lib.hid (show ∀ j, OwnB (.slice A2 1 c2) j → w.heap.size ≤ j from fun j hj => by rcases hnew2 j hj with e | e; (simp [OwnB, Value.ownBlock] at e; omega); (simp at e; omega)); clear hown2 hupd2 hnew2 hU2)
      | (at_builtin; refine wpList_append_none _ rfl (.tmp 41) (.tmp 47) 41 rfl 89 i0 3 Try.underlying41 hi0 (.slice A2 1 c2) 1 _ rfl O2.out none 0 rfl ?_))
    go_end0
    exact FIN.out w2 _ U2.out N2.out O2.out

theorem put_any (h : RefL w m off armed left lv R) (r : RRec) (hcv : Own w 5 1 r.cv r.c.length (r.c.map byteV)) (hrl : r.c.length ≤ 1099511627776) (hnew : ∀ x ∈ R, x.nm ≠ r.nm) (hnum : R.length + 1 ≤ 1099511627776) :
    Calls Try.prog 64 #[ptrV m, .agg #[strV r.nm, r.cv, .int .i64 r.dur]] w (DropPost w m off armed left (insRR r R) (fun k => k = m)) := by
  by_cases h0 : lv = .slice none 0 0
  · subst h0
    have hR : R = [] := by
      rcases h.list.2 with ⟨_, h0⟩ | ⟨g, cap, cur, e, _⟩
      · exact List.eq_nil_of_length_eq_zero h0
      · cases e
    subst hR
    exact put_none h r hcv hrl
  · exact put_some h r hcv hrl hnew hnum h0
end
end Go.Proofs.Ytmapijpphnlcmaa
