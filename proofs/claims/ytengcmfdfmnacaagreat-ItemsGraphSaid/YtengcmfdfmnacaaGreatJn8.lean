/- Maps keyed by names: lookup, a store at a new key, delete, range. No condition. New slices that own their blocks. No condition. Operations on maps keyed by names, and cuts of owned slices, in a walk. No condition. accept.Outcomes of no votes, whole. No condition. -/
import Derived.Test.YtengcmfdfmnacaaGreatJn6
import Derived.Test.YtengcmfdfmnacaaGreatJn7
import Derived.Maps.RangeRun
import Derived.Test.YtengcmfdfmnacaaGreatJn3
import Derived.Laws.IdiomRangeMap
namespace Go.Proofs.YtengcmfdfmnacaaGreat
section
open Go.RowKit Go.Shelf Go.Lib Go.ChangeMaps

abbrev Tri := List UInt8 × Value × Nat
def mkE (t : Tri) : MapEntry := ⟨nameV t.1, t.2.1, t.2.2⟩
theorem name_eqOp {a b : List UInt8} (ha : a.length = 8) (hb : b.length = 8) (w : World) : (Op.equal 28 (nameV a) (nameV b)).run Tryz.prog w = .ok (decide (a = b)) w := by
  rw [show Op.equal 28 (nameV a) (nameV b) = Op.equalIn (9998 + 2) 28 (nameV a) (nameV b) from rfl, name_equal 9998 a b ha hb w]
  by_cases h : a = b <;> simp [h]
theorem name_key8 (em : Bool) (b0 b1 b2 b3 b4 b5 b6 b7 : Value) (w : World) : (Instr.checkKey em 10000 28 (.agg #[b0, b1, b2, b3, b4, b5, b6, b7])).run Tryz.prog w = .ok () w := by
  kernel_rfl
theorem name_key {n : List UInt8} (hn : n.length = 8) (em : Bool) (w : World) : (Instr.checkKey em 10000 28 (nameV n)).run Tryz.prog w = .ok () w := by
  match n, hn with
  | [b0, b1, b2, b3, b4, b5, b6, b7], _ => exact name_key8 em _ _ _ _ _ _ _ _ w
/-- Where a name stands among the entries. -/
def findT : List Tri → List UInt8 → Nat → Option (Nat × Value)
  | [], _, _ => none
  | t :: l, n, i => if n = t.1 then some (i, t.2.1) else findT l n (i + 1)
theorem run_findT {n : List UInt8} (hn : n.length = 8) (w : World) : ∀ (T : List Tri) (i : Nat), (∀ t ∈ T, t.1.length = 8) → (Instr.findAsking 28 (nameV n) (T.map mkE) i).run Tryz.prog w = .ok (findT T n i) w
  | [], i, _ => by simp [Instr.findAsking, findT]
  | t :: T, i, h => by
    have h1 := h t List.mem_cons_self
    have ih := run_findT hn w T (i + 1) (fun t ht => h t (List.mem_cons_of_mem _ ht))
    have e := name_eqOp hn h1 w
    rw [List.map_cons]
    unfold Instr.findAsking findT
    simp only [Sem.run_bind, mkE, e, Result.andThen_ok]
    by_cases hc : n = t.1
    · simp [hc]
    · simp only [hc, decide_false, Bool.false_eq_true, if_false]
      exact ih
def getT (l : List (List UInt8 × Value)) (n : List UInt8) : Option Value := (l.find? fun p => p.1 = n).map (·.2)
theorem findT_get : ∀ (T : List Tri) (n : List UInt8) (i : Nat), (findT T n i).map (·.2) = getT (T.map fun t => (t.1, t.2.1)) n
  | [], _, _ => rfl
  | t :: T, n, i => by
    unfold findT getT
    rw [List.map_cons, List.find?_cons]
    by_cases hc : n = t.1
    · simp [hc]
    · have : decide (t.1 = n) = false := by simp; exact fun e => hc e.symm
      simp only [hc, if_false, this]
      exact findT_get T n (i + 1)
theorem getT_none {l : List (List UInt8 × Value)} {n : List UInt8} : getT l n = none ↔ n ∉ l.map (·.1) := by
  unfold getT
  rw [Option.map_eq_none_iff, List.find?_eq_none]
  constructor
  · intro h hm
    obtain ⟨p, hp, rfl⟩ := List.mem_map.1 hm
    exact h p hp (by simp)
  · intro h p hp e
    exact h (List.mem_map.2 ⟨p, hp, by simpa using e⟩)
/-- A map in memory: its entries as they were laid. -/
structure MapN (w : World) (r : Nat) (l : List (List UInt8 × Value)) : Prop where
  ex : ∃ (T : List Tri) (clock : Nat), w.heap[r]? = some (.map (T.map mkE).toArray clock) ∧ T.map (fun t => (t.1, t.2.1)) = l ∧ (T.map (·.2.2)).Nodup ∧ ∀ t ∈ T, t.2.2 < clock
  k8 : ∀ p ∈ l, p.1.length = 8
  nd : (l.map (·.1)).Nodup
theorem MapN.lt {w : World} {r : Nat} {l : List (List UInt8 × Value)} (h : MapN w r l) : r < w.heap.size := by
  obtain ⟨T, clock, hb, -⟩ := h.ex
  exact (Array.getElem?_eq_some_iff.1 hb).1
theorem MapN.upd {F : Nat → Prop} {w w' : World} {r : Nat} {l : List (List UInt8 × Value)} (h : MapN w r l) (hu : Upd F w w') (hF : ¬ F r) : MapN w' r l := by
  have hl := h.lt
  obtain ⟨T, clock, hb, h2⟩ := h.ex
  exact ⟨⟨T, clock, (hu.block r hl hF).trans hb, h2⟩, h.k8, h.nd⟩
theorem MapN.keep {w w' : World} {r : Nat} {l : List (List UInt8 × Value)} (h : MapN w r l) (hu : Upd NoF w w') : MapN w' r l := h.upd hu (fun f => f)
theorem MapN.fresh (w : World) : MapN (w.alloc (.map #[] 0)) w.heap.size [] := ⟨⟨[], 0, heap_alloc_new w _, rfl, by simp, by simp⟩, by simp, by simp⟩
theorem nm_find (w : World) (x : Value) (es : List MapEntry) : (Instr.findKey 28 x es).run Tryz.prog w = (Instr.findAsking 28 x es).run Tryz.prog w := run_findKey_eq w (by kernel_rfl) x es
section
variable {w : World} {r : Nat} {l : List (List UInt8 × Value)} {n : List UInt8} {mty et : TypeId}
theorem MapN.tri8 {T : List Tri} (h8 : ∀ p ∈ l, p.1.length = 8) (hT : T.map (fun t => (t.1, t.2.1)) = l) : ∀ t ∈ T, t.1.length = 8 := fun t ht => h8 (t.1, t.2.1) (by rw [← hT]; exact List.mem_map.2 ⟨t, ht, rfl⟩)
/-- 'm[n]', with and without ok. -/
theorem MapN.lookup (h : MapN w r l) (hm : Tryz.prog.underlying mty = some (.map 28 et)) (hn : n.length = 8) {z : Value} (hz : (zeroValue et).run Tryz.prog w = .ok z w) (ok : Bool) :
    (Instr.lookup mty (.map (some r)) (nameV n) ok).run Tryz.prog w = .ok (if ok then .tuple #[(getT l n).getD z, .bool (getT l n).isSome] else (getT l n).getD z) w := by
  obtain ⟨T, clock, hb, hT, -, -⟩ := h.ex
  have hf := run_findT hn w T 0 (MapN.tri8 h.k8 hT)
  have hg := findT_get T n 0
  rw [hT] at hg
  cases hc : findT T n 0 with
  | none =>
    rw [hc] at hf hg
    have hg : getT l n = none := hg.symm
    cases ok <;> simp [Instr.lookup, run_underlying hm, MapKept.run_getObj_map hb, name_key hn, nm_find, hf, hz, Result.andThen, hg]
  | some p =>
    rw [hc] at hf hg
    have hg : getT l n = some p.2 := hg.symm
    cases ok <;> simp [Instr.lookup, run_underlying hm, MapKept.run_getObj_map hb, name_key hn, nm_find, hf, Result.andThen, hg]
theorem lookup_nilN (hm : Tryz.prog.underlying mty = some (.map 28 et)) (hn : n.length = 8) {z : Value} (hz : (zeroValue et).run Tryz.prog w = .ok z w) (ok : Bool) :
    (Instr.lookup mty (.map none) (nameV n) ok).run Tryz.prog w = .ok (if ok then .tuple #[z, .bool false] else z) w := by
  cases ok <;> simp [Instr.lookup, run_underlying hm, name_key hn, nm_find, Instr.findAsking, hz, Result.andThen]
/-- 'm[n] = v' at a key that is not there. -/
theorem MapN.insert (h : MapN w r l) (hm : Tryz.prog.underlying mty = some (.map 28 et)) (hn : n.length = 8) (hg : getT l n = none) (v : Value) :
    ∃ w', (Instr.mapUpdate mty (.map (some r)) (nameV n) v).run Tryz.prog w = .ok () w' ∧ MapN w' r (l ++ [(n, v)]) ∧ Upd (fun k => k = r) w w' ∧ w'.heap.size = w.heap.size := by
  have hlt := h.lt
  obtain ⟨T, clock, hb, hT, hnd, hcl⟩ := h.ex
  have hf := run_findT hn w T 0 (MapN.tri8 h.k8 hT)
  have hg' := findT_get T n 0
  rw [hT, hg] at hg'
  have hc : findT T n 0 = none := by cases hc : findT T n 0 with | none => rfl | some p => rw [hc] at hg'; cases hg'
  rw [hc] at hf
  refine ⟨{ w with heap := w.heap.setIfInBounds r (.map ((T.map mkE).toArray.push { key := nameV n, val := v, born := clock }) (clock + 1)) }, ?_, ⟨⟨T ++ [(n, v, clock)], clock + 1, ?_, ?_, ?_, ?_⟩, ?_, ?_⟩, ?_, by simp⟩
  · simp [Instr.mapUpdate, run_underlying hm, MapKept.run_getObj_map hb, name_key hn, nm_find, hf, MapKept.run_setObj_map _ hb, Result.andThen]
  · show (w.heap.setIfInBounds r _)[r]? = _
    rw [Array.getElem?_setIfInBounds_self_of_lt hlt]
    simp [mkE]
  · rw [List.map_append, hT]; rfl
  · rw [List.map_append, List.nodup_append]
    refine ⟨hnd, by simp, ?_⟩
    intro a ha b hb'
    obtain ⟨t, ht, rfl⟩ := List.mem_map.1 ha
    have hb' : b = clock := by simpa using hb'
    have := hcl t ht
    omega
  · intro t ht
    rcases List.mem_append.1 ht with ht | ht
    · have := hcl t ht; omega
    · have : t = (n, v, clock) := by simpa using ht
      rw [this]; exact Nat.lt_succ_self _
  · intro p hp
    rcases List.mem_append.1 hp with hp | hp
    · exact h.k8 p hp
    · have : p = (n, v) := by simpa using hp
      rw [this]; exact hn
  · rw [List.map_append, List.nodup_append]
    refine ⟨h.nd, by simp, ?_⟩
    intro a ha b hb' e
    have hb' : b = n := by simpa using hb'
    exact getT_none.1 hg (by rw [← hb', ← e]; exact ha)
  · exact ⟨rfl, rfl, rfl, by simp, fun k hk hne => by
      show (w.heap.setIfInBounds r _)[k]? = _
      rw [Array.getElem?_setIfInBounds_ne (fun e => hne e.symm)]⟩
end
theorem findT_split : ∀ (T : List Tri) (n : List UInt8) (i j : Nat) (v : Value), findT T n i = some (j, v) → ∃ pre t post, T = pre ++ t :: post ∧ pre.length + i = j ∧ n = t.1
  | [], _, _, _, _, h => by cases h
  | t :: T, n, i, j, v, h => by
    unfold findT at h
    by_cases hc : n = t.1
    · rw [if_pos hc] at h
      cases h
      exact ⟨[], t, T, rfl, by simp, hc⟩
    · rw [if_neg hc] at h
      obtain ⟨pre, u, post, e, hl, hu⟩ := findT_split T n (i + 1) j v h
      exact ⟨t :: pre, u, post, by rw [e]; rfl, by simp; omega, hu⟩
theorem MapN.delete {w : World} {r : Nat} {l : List (List UInt8 × Value)} {n : List UInt8} {mty et kt ty : TypeId} (h : MapN w r l) (hm : Tryz.prog.underlying mty = some (.map 28 et)) (hn : n.length = 8) :
    ∃ w', (Builtin.delete_ #[mty, kt] ty #[.map (some r), nameV n]).run Tryz.prog w = .ok (.tuple #[]) w' ∧ MapN w' r (l.filter fun p => p.1 ≠ n) ∧ Upd (fun k => k = r) w w' ∧ w'.heap.size = w.heap.size := by
  have hlt := h.lt
  obtain ⟨T, clock, hb, hT, hnd, hcl⟩ := h.ex
  have hf := run_findT hn w T 0 (MapN.tri8 h.k8 hT)
  have hk8 : ∀ p ∈ l.filter fun p => p.1 ≠ n, p.1.length = 8 := fun p hp => h.k8 p (List.mem_filter.1 hp).1
  have hnd' : ((l.filter fun p => p.1 ≠ n).map (·.1)).Nodup := List.Nodup.sublist (List.Sublist.map _ List.filter_sublist) h.nd
  have hup : ∀ o : Obj, Upd (fun k => k = r) w { w with heap := w.heap.setIfInBounds r o } := fun o => ⟨rfl, rfl, rfl, by simp, fun k hk hne => by
      show (w.heap.setIfInBounds r _)[k]? = _
      rw [Array.getElem?_setIfInBounds_ne (fun e => hne e.symm)]⟩
  have hset : ∀ o : Obj, (w.heap.setIfInBounds r o)[r]? = some o := fun o => Array.getElem?_setIfInBounds_self_of_lt hlt
  cases hc : findT T n 0 with
  | none =>
    rw [hc] at hf
    have hg : getT l n = none := by have := findT_get T n 0; rw [hT, hc] at this; exact this.symm
    have hfl : (l.filter fun p => p.1 ≠ n) = l := List.filter_eq_self.2 (fun p hp => by
      simp only [ne_eq, decide_not, Bool.not_eq_true', decide_eq_false_iff_not]
      exact fun e => getT_none.1 hg (List.mem_map.2 ⟨p, hp, e⟩))
    refine ⟨{ w with heap := w.heap.setIfInBounds r (.map (T.map mkE).toArray clock) }, ?_, ⟨⟨T, clock, hset _, by rw [hfl]; exact hT, hnd, hcl⟩, hk8, hnd'⟩, hup _, by simp⟩
    simp [Builtin.delete_, run_underlying hm, MapKept.run_getObj_map hb, name_key hn, nm_find, hf, MapKept.run_setObj_map _ hb, Result.andThen]
  | some p =>
    obtain ⟨j, v⟩ := p
    rw [hc] at hf
    obtain ⟨pre, t, post, rfl, hj, hnt⟩ := findT_split T n 0 j v hc
    have hj : j = pre.length := by omega
    subst hj
    have herase : (pre ++ t :: post).eraseIdx pre.length = pre ++ post := by
      rw [List.eraseIdx_append_of_length_le (Nat.le_refl _)]; simp
    have hfl : (l.filter fun p => p.1 ≠ n) = (pre ++ post).map (fun t => (t.1, t.2.1)) := by
      have hndk := h.nd
      rw [← hT, List.map_map, List.map_append, List.map_cons, List.nodup_append] at hndk
      obtain ⟨-, k2, k3⟩ := hndk
      rw [List.nodup_cons] at k2
      rw [← hT, List.filter_map, List.filter_append, List.filter_cons]
      have h1 : (pre.filter ((fun p : List UInt8 × Value => decide (p.1 ≠ n)) ∘ fun t : Tri => (t.1, t.2.1))) = pre := List.filter_eq_self.2 (fun x hx => by
        simp only [Function.comp, ne_eq, decide_not, Bool.not_eq_true', decide_eq_false_iff_not]
        exact fun e => k3 _ (List.mem_map.2 ⟨x, hx, rfl⟩) _ List.mem_cons_self (by simp [Function.comp, e, hnt]))
      have h2 : (post.filter ((fun p : List UInt8 × Value => decide (p.1 ≠ n)) ∘ fun t : Tri => (t.1, t.2.1))) = post := List.filter_eq_self.2 (fun x hx => by
        simp only [Function.comp, ne_eq, decide_not, Bool.not_eq_true', decide_eq_false_iff_not]
        exact fun e => k2.1 (List.mem_map.2 ⟨x, hx, by simp [Function.comp, e, hnt]⟩))
      rw [h1, h2]
      simp [Function.comp, hnt]
    refine ⟨{ w with heap := w.heap.setIfInBounds r (.map ((pre ++ post).map mkE).toArray clock) }, ?_, ⟨⟨pre ++ post, clock, hset _, by rw [hfl], ?_, fun x hx => hcl x ?_⟩, hk8, hnd'⟩, hup _, by simp⟩
    · have he : (Array.eraseIdxIfInBounds ((pre ++ t :: post).map mkE).toArray pre.length) = ((pre ++ post).map mkE).toArray := by
        apply Array.toList_inj.1
        have : ∀ (L : List MapEntry) (i : Nat), (L.toArray.eraseIdxIfInBounds i).toList = L.eraseIdx i := fun L i => by
          unfold Array.eraseIdxIfInBounds
          split
          · simp
          · rename_i hh
            rw [List.eraseIdx_of_length_le (by simpa using hh)]
        rw [this, ← map_eraseIdx, herase]
      simp only [Builtin.delete_, Sem.run_bind, Sem.run_pure, run_underlying hm, MapKept.run_getObj_map hb, name_key hn, nm_find, hf, Result.andThen_ok, List.getElem?_toArray, List.getElem?_cons_zero, List.getElem?_cons_succ, he, MapKept.run_setObj_map _ hb]
    · refine List.Nodup.sublist (List.Sublist.map _ ?_) hnd
      exact List.Sublist.append_left (List.sublist_cons_self _ _) _
    · rcases List.mem_append.1 hx with hx | hx
      · exact List.mem_append_left _ hx
      · exact List.mem_append_right _ (List.mem_cons_of_mem _ hx)
/-! ### range -/
/-- Block it goes over map r; left: what is still to come. -/
structure RngN (w : World) (r it : Nat) (l left : List (List UInt8 × Value)) : Prop where
  ex : ∃ (T : List Tri) (clock since c0 : Nat) (seen : Array Nat), w.heap[r]? = some (.map (T.map mkE).toArray clock) ∧ T.map (fun t => (t.1, t.2.1)) = l ∧ (T.map (·.2.2)).Nodup ∧ (∀ t ∈ T, t.2.2 < since) ∧ since ≤ c0 ∧ since ≤ clock ∧
    w.heap[it]? = some (.mapIter (some r) since seen c0) ∧ (T.filter fun t => !seen.contains t.2.2).map (fun t => (t.1, t.2.1)) = left
theorem RngN.upd {F : Nat → Prop} {w w' : World} {r it : Nat} {l left : List (List UInt8 × Value)} (h : RngN w r it l left) (hu : Upd F w w') (h1 : ¬ F r) (h2 : ¬ F it) : RngN w' r it l left := by
  obtain ⟨T, clock, since, c0, seen, a1, a2, a3, a4, a5, a5', a6, a7⟩ := h.ex
  exact ⟨T, clock, since, c0, seen, (hu.block r (Array.getElem?_eq_some_iff.1 a1).1 h1).trans a1, a2, a3, a4, a5, a5', (hu.block it (Array.getElem?_eq_some_iff.1 a6).1 h2).trans a6, a7⟩
theorem RngN.lt {w : World} {r it : Nat} {l left : List (List UInt8 × Value)} (h : RngN w r it l left) : r < w.heap.size ∧ it < w.heap.size ∧ r ≠ it := by
  obtain ⟨T, clock, since, c0, seen, a1, a2, a3, a4, a5, a5', a6, a7⟩ := h.ex
  refine ⟨(Array.getElem?_eq_some_iff.1 a1).1, (Array.getElem?_eq_some_iff.1 a6).1, ?_⟩
  rintro rfl
  rw [a1] at a6
  cases a6
theorem MapN.range {w : World} {r : Nat} {l : List (List UInt8 × Value)} {mty et : TypeId} (h : MapN w r l) (hm : Tryz.prog.underlying mty = some (.map 28 et)) :
    ∃ w', (Instr.range mty (.map (some r))).run Tryz.prog w = .ok (.pointer (some ⟨w.heap.size, 0, none⟩)) w' ∧ RngN w' r w.heap.size l l ∧ Upd NoF w w' ∧ w'.heap.size = w.heap.size + 1 := by
  have hlt := h.lt
  obtain ⟨T, clock, hb, hT, hnd, hcl⟩ := h.ex
  refine ⟨_, run_range_map w mty _ et r _ clock hm hb, ⟨⟨T, clock, clock, clock, #[], ?_, hT, hnd, hcl, Nat.le_refl _, Nat.le_refl _, heap_alloc_new w _, by rw [List.filter_eq_self.2 (fun t _ => by simp)]; exact hT⟩⟩, (Upd.refl NoF w).alloc _, by simp⟩
  exact (Below.heap_alloc w _ r hlt).trans hb
theorem leftOf_map (T : List Tri) (seen : Array Nat) : (leftOf (T.map mkE).toArray seen).toList = (T.filter fun t => !seen.contains t.2.2).map mkE := by
  unfold leftOf
  rw [List.filter_toArray, List.filter_map]
  rfl
theorem filter_born : ∀ (L : List Tri) (t : Tri), t ∈ L → (L.map (·.2.2)).Nodup → L.Perm (t :: L.filter fun x => x.2.2 ≠ t.2.2)
  | [], _, h, _ => by cases h
  | x :: L, t, h, hn => by
    rw [List.map_cons, List.nodup_cons] at hn
    rcases List.mem_cons.1 h with rfl | h
    · have : (L.filter fun x => x.2.2 ≠ t.2.2) = L := by
        rw [List.filter_eq_self]
        intro a ha
        simp only [ne_eq, decide_not, Bool.not_eq_true', decide_eq_false_iff_not]
        exact fun e => hn.1 (List.mem_map.2 ⟨a, ha, e⟩)
      rw [List.filter_cons]
      simp only [ne_eq, not_true_eq_false, decide_false, Bool.false_eq_true, if_false]
      rw [show (L.filter fun x => decide ¬x.2.2 = t.2.2) = L from this]
    · have hne : x.2.2 ≠ t.2.2 := fun e => hn.1 (List.mem_map.2 ⟨t, h, e.symm⟩)
      rw [List.filter_cons]
      simp only [hne, ne_eq, not_false_eq_true, decide_true, if_true]
      exact ((filter_born L t h hn.2).cons x).trans (List.Perm.swap _ _ _)
/-- One step: nothing is left, or some entry comes. -/
theorem RngN.next {w : World} {r it : Nat} {l left : List (List UInt8 × Value)} (h : RngN w r it l left) (ty : TypeId) :
    (left = [] ∧ (Instr.next (.pointer (some ⟨it, 0, none⟩)) false ty).run Tryz.prog w = .ok (.tuple #[.bool false]) w) ∨
    ∃ (p : List UInt8 × Value) (left' : List (List UInt8 × Value)) (w' : World), left.Perm (p :: left') ∧ (Instr.next (.pointer (some ⟨it, 0, none⟩)) false ty).run Tryz.prog w = .ok (.tuple #[.bool true, nameV p.1, p.2]) w' ∧ RngN w' r it l left' ∧ Upd (fun k => k = it) w w' ∧ w'.heap.size = w.heap.size ∧ (Instr.entry (.pointer (some ⟨it, 0, none⟩))).run Tryz.prog w' = .ok (.tuple #[nameV p.1, p.2]) w' := by
  obtain ⟨h1, h2, h3⟩ := h.lt
  obtain ⟨T, clock, since, c0, seen, a1, a2, a3, a4, a5, a5', a6, a7⟩ := h.ex
  have hold : ∀ x ∈ ((T.map mkE).toArray).toList, x.born < since := by
    intro x hx
    obtain ⟨t, ht, rfl⟩ := List.mem_map.1 (show x ∈ T.map mkE from by simpa using hx)
    exact a4 t ht
  have hbn : (((T.map mkE).toArray).toList.map (·.born)).Nodup := by
    have : ((T.map mkE).toArray).toList.map (·.born) = T.map (·.2.2) := by simp [mkE]
    rw [this]; exact a3
  rcases run_next_at w ty it r since c0 seen _ clock a6 a1 hold a5 with ⟨h0, hr⟩ | ⟨e, he, w1, hw1, hr⟩
  · refine .inl ⟨?_, hr⟩
    have : (T.filter fun t => !seen.contains t.2.2) = [] := by
      have h0' : ((T.filter fun t => !seen.contains t.2.2).map mkE).length = 0 := by rw [← leftOf_map, Array.length_toList]; exact h0
      simpa using h0'
    rw [← a7, this]; rfl
  · refine .inr ?_
    rw [leftOf_map] at he
    obtain ⟨t, ht, rfl⟩ := List.mem_map.1 he
    have htT := (List.mem_filter.1 ht).1
    have hnL : ((T.filter fun t => !seen.contains t.2.2).map (·.2.2)).Nodup := List.Nodup.sublist (List.Sublist.map _ List.filter_sublist) a3
    have hp := (filter_born _ t ht hnL).map (fun t => (t.1, t.2.1))
    rw [a7] at hp
    have hne : r ≠ it := h3
    have hw1h : w1.heap = w.heap := by rcases hw1 with rfl | rfl <;> rfl
    have b1 : (setBlock w1 it (.mapIter (some r) since (seen.push t.2.2) clock)).heap[r]? = some (.map (T.map mkE).toArray clock) := by
      show (w1.heap.setIfInBounds it _)[r]? = _
      rw [hw1h, Array.getElem?_setIfInBounds_ne (fun e => hne e.symm), a1]
    have b2 : (setBlock w1 it (.mapIter (some r) since (seen.push t.2.2) clock)).heap[it]? = some (.mapIter (some r) since (seen.push t.2.2) clock) := by
      show (w1.heap.setIfInBounds it _)[it]? = _
      rw [hw1h, Array.getElem?_setIfInBounds_self_of_lt h2]
    refine ⟨(t.1, t.2.1), (T.filter fun x => !(seen.push t.2.2).contains x.2.2).map (fun t => (t.1, t.2.1)), setBlock w1 it (.mapIter (some r) since (seen.push t.2.2) clock), ?_, hr, ⟨⟨T, clock, since, clock, seen.push t.2.2, b1, a2, a3, a4, a5', a5', b2, rfl⟩⟩, ?_, ?_, ?_⟩
    · have e : (T.filter fun x => !(seen.push t.2.2).contains x.2.2) = (T.filter fun t => !seen.contains t.2.2).filter fun x => x.2.2 ≠ t.2.2 := by
        rw [List.filter_filter]
        congr 1
        funext x
        by_cases hx : x.2.2 = t.2.2 <;> simp [hx]
      rw [e]
      exact hp
    · refine ⟨?_, ?_, ?_, by show w.heap.size ≤ (w1.heap.setIfInBounds it _).size; rw [hw1h]; simp, fun k hk hne => ?_⟩
      · rcases hw1 with rfl | rfl <;> rfl
      · rcases hw1 with rfl | rfl <;> rfl
      · rcases hw1 with rfl | rfl <;> rfl
      · show (w1.heap.setIfInBounds it _)[k]? = _
        rw [hw1h, Array.getElem?_setIfInBounds_ne (fun e => hne e.symm)]
    · show (w1.heap.setIfInBounds it _).size = _
      rw [hw1h]; simp
    · exact run_entry_at _ it r since seen _ clock (mkE t) b2 b1 (List.mem_map.2 ⟨t, htT, rfl⟩) hbn
end

section
open Go.RowKit

theorem NewR.fresh (w : World) (e : TypeId) (size : Nat) : NewR w e size 0 [] (.slice (some ⟨w.heap.size, 0, none⟩) 0 0) (w.alloc (.cells #[] e)) :=
  ⟨Own.fresh w e size, fun k hk => by simp [OwnB, Value.ownBlock] at hk; omega, (Upd.refl NoF w).alloc _⟩
theorem NewR.keep {W w w' : World} {e : TypeId} {size n : Nat} {xs : List Value} {v : Value} (h : NewR W e size n xs v w) (hu : Upd NoF w w') : NewR W e size n xs v w' := ⟨h.1.upd hu (fun _ _ f => f), h.2.1, h.2.2.trans hu (fun _ _ f => f)⟩
theorem NewR.from_ {W0 W w : World} {e : TypeId} {size n : Nat} {xs : List Value} {v : Value} (h : NewR W e size n xs v w) (hu : Upd NoF W0 W) : NewR W0 e size n xs v w := ⟨h.1, fun k hk => by have := h.2.1 k hk; have := hu.size; omega, hu.trans h.2.2 (fun _ _ f => f)⟩
theorem NewR.app0 {W wr w6 : World} {e : TypeId} {size m : Nat} {ys : List Value} {A A' : Option Addr} {c c' : Nat} (h : NewR W e size 0 [] (.slice A 0 c) wr) (ho : Own w6 e size (.slice A' m c') m ys) (hu : Upd (OwnB (.slice A 0 c)) wr w6) (hn : ∀ k, OwnB (.slice A' m c') k → OwnB (.slice A 0 c) k ∨ wr.heap.size ≤ k) : NewR W e size m ys (.slice A' m c') w6 := by
  have := NewR.app (n := 0) (m := m) (xs := []) (ys := ys) (A' := A') (c' := c') h (by simpa using ho) hu (by simpa using hn)
  simpa using this
theorem rd_lit (w : World) (e : TypeId) (u : Value) : Rd (w.alloc (.cells #[u] e)) 1 (.slice (some ⟨w.heap.size, 0, none⟩) 1 1) 1 [u] :=
  Rd.of_blk (Blk.new w e #[u]) (Nat.le_refl _) (by unfold maxLen; omega) rfl (fun j v hj => by simpa using hj)
theorem one_bytes (bs : List UInt8) : ∀ u ∈ bs.map byteV, u.oneCell' = true := fun u hu => by
  obtain ⟨x, _, rfl⟩ := List.mem_map.1 hu
  rfl
end

section
open Go.RowKit Go.Shelf Go.Lib

section
variable {P : Program} {ops : Array Oper} {rest : List Oper} {o : Oper} {a : Act} {w : World} {Q : Exit → Act → World → Prop} {post : Value → World → Prop}
theorem wl_od (hw : Region.wanted o (yielded ops a.tmps) = true) (h : OpDone P o a.eval w post) (hk : ∀ v w', post v w' → wpList P ops Q rest (a.put o.dst v) w') : wpList P ops Q (o :: rest) a w :=
  BigFrame.wpList_want hw fun _ hK => h.wp (fun v w' hp => hK _ _ (hk v w' hp))
theorem wl_run (hw : Region.wanted o (yielded ops a.tmps) = true) {v : Value} {w' : World} (h : (execOp a.eval o).run P w = .ok (.value v) w') (hk : wpList P ops Q rest (a.put o.dst v) w') : wpList P ops Q (o :: rest) a w :=
  wl_od (post := fun u x => u = v ∧ x = w') hw (od_of_run h ⟨rfl, rfl⟩) (by rintro u x ⟨rfl, rfl⟩; exact hk)
theorem wl_skip (hw : Region.wanted o (yielded ops a.tmps) = true) {w' : World} (h : (execOp a.eval o).run P w = .ok .skip w') (hk : wpList P ops Q rest (a.put o.dst undef) w') : wpList P ops Q (o :: rest) a w :=
  wl_od (post := fun u x => u = undef ∧ x = w') hw (by unfold OpDone; rw [h]; exact ⟨rfl, rfl⟩) (by rintro u x ⟨rfl, rfl⟩; exact hk)
/-- A row loaded, at an operation with or without a guard. -/
theorem wl_load (hw : Region.wanted o (yielded ops a.tmps) = true) (ty : TypeId) (x : Operand) (ho : o.op = .load ty x) (b off : Nat) (hx : a.eval x = .pointer (some ⟨b, off, none⟩)) (cs : List Value) (d : TypeDesc) (hc : w.rangeAt b off cs) (hu : P.underlying ty = some d) (hd : d.isRow = true) (hi : (P.info? ty).map (·.size) = some cs.length) (ar : Array Value) (har : cs.toArray = ar)
    (hk : wpList P ops Q rest (a.put o.dst (.agg ar)) w) : wpList P ops Q (o :: rest) a w :=
  wl_od (post := fun u x => u = .agg ar ∧ x = w) hw (od_load_row ty x ho b off hx cs d hc hu hd hi ⟨by rw [har], rfl⟩) (by rintro u x ⟨rfl, rfl⟩; exact hk)
/-- A cut x[:k] of a slice that owns its block. -/
theorem wl_cutOwn (hw : Region.wanted o (yielded ops a.tmps) = true) (t e : TypeId) {size n k c : Nat} {A : Option Addr} {xs : List Value} (x y : Operand) (ho : o.op = .slice t x none (some y) none) (hx : a.eval x = .slice A n c) (hy : a.eval y = .int .i64 (k : Int)) (h : Own w e size (.slice A n c) n xs) (hu : P.underlying t = some (.slice e)) (hs : ∀ w, (sizeOf e).run P w = .ok size w) (hkn : k ≤ n)
    (hk : Own w e size (.slice A k c) k (xs.take (k * size)) → wpList P ops Q rest (a.put o.dst (.slice A k c)) w) : wpList P ops Q (o :: rest) a w := by
  have hO : Own w e size (.slice A k c) k (xs.take (k * size)) := by
    refine ⟨by rw [List.length_take, h.1]; exact Nat.min_eq_left (Nat.mul_le_mul_right _ hkn), ?_⟩
    rcases h.2 with ⟨e1, rfl⟩ | ⟨g, cap, cur, e1, hb, h1, h2, h3, h4⟩
    · injection e1 with e2 e3 e4
      subst e2 e4
      have : k = 0 := by omega
      subst this
      exact .inl ⟨rfl, rfl⟩
    · injection e1 with e2 e3 e4
      subst e2 e4
      refine .inr ⟨g, c, cur, rfl, hb, by omega, h2, h3, ?_⟩
      rw [← h4, List.take_take, Nat.min_eq_left (Nat.mul_le_mul_right _ hkn)]
  have hkc : (0 : Int) ≤ (k : Int) ∧ (k : Int) ≤ (c : Int) := by
    rcases h.2 with ⟨e1, rfl⟩ | ⟨g, cap, cur, e1, hb, h1, -⟩
    · exact ⟨by omega, by omega⟩
    · injection e1 with e2 e3 e4
      subst e4
      exact ⟨by omega, by omega⟩
  refine wl_run hw (v := .slice A k c) (w' := w) ?_ (hk hO)
  have hr : (Instr.sliceAt t (.slice A n c) none (some (.int .i64 (k : Int))) none).run P w = .ok (.slice A k c) w := by
    rcases Nat.eq_zero_or_pos c with hc | hc
    · have hk0 : k = 0 := by omega
      subst hc hk0
      simp [Instr.sliceAt, Instr.slice, run_underlying hu, Instr.sliceBounds, Instr.sliceBound, asIntOf, hs]
    · have hc' : ¬ c = 0 := by omega
      have hk' : k ≤ c := by omega
      cases A <;> simp [Instr.sliceAt, Instr.slice, run_underlying hu, Instr.sliceBounds, Instr.sliceBound, asIntOf, hs, hk', Addr.add]
  simp [execOp, ho, hx, hy, hr]
end
section
variable {ops : Array Oper} {rest : List Oper} {o : Oper} {a : Act} {w : World} {Q : Exit → Act → World → Prop} {r : Nat} {l : List (List UInt8 × Value)} {n : List UInt8}
theorem wl_lookup (hw : Region.wanted o (yielded ops a.tmps) = true) (mty et : TypeId) (x y : Operand) (ok : Bool) (ho : o.op = .lookup mty x y ok) (hx : a.eval x = .map (some r)) {za : Array Value} (hy : a.eval y = .agg za) (hv : (n.map byteV).toArray = za) (hn : n.length = 8) (h : MapN w r l) (hm : Tryz.prog.underlying mty = some (.map 28 et)) (z : Value) (hz : ∀ w, (zeroValue et).run Tryz.prog w = .ok z w) (res : Value) (hres : (if ok then .tuple #[(getT l n).getD z, .bool (getT l n).isSome] else (getT l n).getD z) = res)
    (hk : wpList Tryz.prog ops Q rest (a.put o.dst res) w) : wpList Tryz.prog ops Q (o :: rest) a w := by
  refine wl_run hw (v := res) (w' := w) ?_ hk
  rw [← hres]
  subst hv
  simp [execOp, ho, hx, hy, h.lookup hm hn (hz w) ok]
theorem wl_insert (hw : Region.wanted o (yielded ops a.tmps) = true) (mty et : TypeId) (x y u : Operand) (ho : o.op = .mapUpdate mty x y u) (hx : a.eval x = .map (some r)) {za : Array Value} {z : Value} (hy : a.eval y = .agg za) (hv : (n.map byteV).toArray = za) (hz : a.eval u = z) (hn : n.length = 8) (h : MapN w r l) (hm : Tryz.prog.underlying mty = some (.map 28 et)) (hg : getT l n = none)
    (hk : ∀ w', MapN w' r (l ++ [(n, z)]) → Upd (fun k => k = r) w w' → w'.heap.size = w.heap.size → wpList Tryz.prog ops Q rest (a.put o.dst undef) w') : wpList Tryz.prog ops Q (o :: rest) a w := by
  obtain ⟨w', hr, h1, h2, h3⟩ := h.insert hm hn hg z
  refine wl_skip hw (w' := w') ?_ (hk w' h1 h2 h3)
  subst hv
  simp [execOp, ho, hx, hy, hz, hr]
theorem wl_delete (hw : Region.wanted o (yielded ops a.tmps) = true) (mty et kt : TypeId) (x y : Operand) (ho : o.op = .call { callee := .builtin .delete, args := #[x, y], argTypes := #[mty, kt] }) (hx : a.eval x = .map (some r)) {za : Array Value} (hy : a.eval y = .agg za) (hv : (n.map byteV).toArray = za) (hn : n.length = 8) (h : MapN w r l) (hm : Tryz.prog.underlying mty = some (.map 28 et))
    (hk : ∀ w', MapN w' r (l.filter fun p => p.1 ≠ n) → Upd (fun k => k = r) w w' → w'.heap.size = w.heap.size → wpList Tryz.prog ops Q rest (a.put o.dst (.tuple #[])) w') : wpList Tryz.prog ops Q (o :: rest) a w := by
  obtain ⟨w', hr, h1, h2, h3⟩ := h.delete (kt := kt) (ty := o.type) hm hn
  refine wl_run hw (v := .tuple #[]) (w' := w') ?_ (hk w' h1 h2 h3)
  unfold execOp
  subst hv
  simp only [ho, resolve, invoke, builtin, Sem.run_bind, Sem.run_pure, Result.andThen_ok, List.map_toArray, List.map_cons, List.map_nil, hx, hy, hr]
theorem wl_range (hw : Region.wanted o (yielded ops a.tmps) = true) (mty et : TypeId) (x : Operand) (ho : o.op = .range mty x) (hx : a.eval x = .map (some r)) (h : MapN w r l) (hm : Tryz.prog.underlying mty = some (.map 28 et))
    (hk : ∀ w', RngN w' r w.heap.size l l → Upd NoF w w' → w'.heap.size = w.heap.size + 1 → wpList Tryz.prog ops Q rest (a.put o.dst (.pointer (some ⟨w.heap.size, 0, none⟩))) w') : wpList Tryz.prog ops Q (o :: rest) a w := by
  obtain ⟨w', hr, h1, h2, h3⟩ := h.range hm
  refine wl_run hw (v := .pointer (some ⟨w.heap.size, 0, none⟩)) (w' := w') ?_ (hk w' h1 h2 h3)
  simp [execOp, ho, hx, hr]
theorem wl_range_nil (hw : Region.wanted o (yielded ops a.tmps) = true) (mty kt et : TypeId) (x : Operand) (ho : o.op = .range mty x) (hx : a.eval x = .map none) (hm : Tryz.prog.underlying mty = some (.map kt et))
    (hk : wpList Tryz.prog ops Q rest (a.put o.dst (.pointer (some ⟨w.heap.size, 0, none⟩))) (w.alloc (.mapIter none 0 #[] 0))) : wpList Tryz.prog ops Q (o :: rest) a w := by
  refine wl_run hw (v := .pointer (some ⟨w.heap.size, 0, none⟩)) (w' := w.alloc (.mapIter none 0 #[] 0)) ?_ hk
  simp [execOp, ho, hx, run_range_nilMap w mty kt et hm]
theorem wl_next_nil (hw : Region.wanted o (yielded ops a.tmps) = true) (x : Operand) (ho : o.op = .next x false) (it : Nat) (hx : a.eval x = .pointer (some ⟨it, 0, none⟩)) (hb : w.heap[it]? = some (.mapIter none 0 #[] 0))
    (hk : wpList Tryz.prog ops Q rest (a.put o.dst (.tuple #[.bool false])) w) : wpList Tryz.prog ops Q (o :: rest) a w := by
  refine wl_run hw (v := .tuple #[.bool false]) (w' := w) ?_ hk
  have : (Instr.next (.pointer (some ⟨it, 0, none⟩)) false o.type).run Tryz.prog w = .ok (.tuple #[.bool false]) w := by
    simp only [Instr.next, getObj, Sem.run_bind, Sem.run, hb, Result.andThen]
    rfl
  simp [execOp, ho, hx, this]
theorem wl_next (hw : Region.wanted o (yielded ops a.tmps) = true) (x : Operand) (ho : o.op = .next x false) {it : Nat} (hx : a.eval x = .pointer (some ⟨it, 0, none⟩)) {left : List (List UInt8 × Value)} (h : RngN w r it l left)
    (hDone : left = [] → wpList Tryz.prog ops Q rest (a.put o.dst (.tuple #[.bool false])) w)
    (hMore : ∀ (p : List UInt8 × Value) (left' : List (List UInt8 × Value)) (w' : World), left.Perm (p :: left') → RngN w' r it l left' → Upd (fun k => k = it) w w' → w'.heap.size = w.heap.size → (Instr.entry (.pointer (some ⟨it, 0, none⟩))).run Tryz.prog w' = .ok (.tuple #[nameV p.1, p.2]) w' → wpList Tryz.prog ops Q rest (a.put o.dst (.tuple #[.bool true, nameV p.1, p.2])) w') : wpList Tryz.prog ops Q (o :: rest) a w := by
  rcases h.next o.type with ⟨h0, hr⟩ | ⟨p, left', w', hp, hr, h1, h2, h3, h4⟩
  · refine wl_run hw (v := .tuple #[.bool false]) (w' := w) ?_ (hDone h0)
    simp [execOp, ho, hx, hr]
  · refine wl_run hw (v := .tuple #[.bool true, nameV p.1, p.2]) (w' := w') ?_ (hMore p left' w' hp h1 h2 h3 h4)
    simp [execOp, ho, hx, hr]
theorem wl_entry (hw : Region.wanted o (yielded ops a.tmps) = true) (x : Operand) (ho : o.op = .entry x) {it : Nat} (hx : a.eval x = .pointer (some ⟨it, 0, none⟩)) {v : Value} (h : (Instr.entry (.pointer (some ⟨it, 0, none⟩))).run Tryz.prog w = .ok v w)
    (hk : wpList Tryz.prog ops Q rest (a.put o.dst v) w) : wpList Tryz.prog ops Q (o :: rest) a w := by
  refine wl_run hw (v := v) (w' := w) ?_ hk
  simp [execOp, ho, hx, h]
end
end

section
open Go.RowKit Go.Shelf Go.Lib Go.Sort

set_option maxRecDepth 100000 in
set_option maxHeartbeats 8000000 in
theorem Outcomes_nil (m : Int) {p : List UInt8} (hp : p.length = 8) (sl : Int) (w : World) : Calls Tryz.prog 133 #[.int .i64 m, nameV p, .slice none 0 0, .int .i64 sl] w fun e w' => e = .returned (.slice none 0 0) ∧ Upd NoF w w' := by
  obtain ⟨pb, hpb⟩ : ∃ x, (p.map byteV).toArray = x := ⟨_, rfl⟩
  have hnp : nameV p = .agg pb := by rw [← hpb]
  have HP := Lib.hid (show pb.size = 8 from by rw [← hpb]; simp [hp])
  have BV := Lib.hid (Blk.new w 28 pb)
  have UV := Lib.hid ((Upd.refl NoF w).alloc (.cells pb 28))
  have CA := Lib.hid (fun W => Accepted_nil m hp W)
  rw [hnp] at CA ⊢
  have hmm := @run_makeMap Tryz.prog
  clear hpb hnp
  go_enter Tryz.func133, Tryz.ntmps133
  go_wp2
  go_loopg [20, 9] 0 (fun kx s s9 wr => s = .int .i64 0 ∧ s9 = .slice none 0 0 ∧ Hid (Upd NoF w wr) ∧ Hid (Blk wr w.heap.size 28 pb))
  case atStart => exact ⟨rfl, rfl, UV, BV⟩
  case round =>
    obtain ⟨rfl, rfl, U3, B3⟩ := hrel
    go_wp2_with (first
      | (refine wpList_load_row rfl 28 (.tmp 5) rfl w.heap.size 0 rfl pb.toList _ (range_blk (by rw [Array.toArray_toList]; exact B3.out.alloc _)) Tryz.underlying28 rfl (by rw [show (Tryz.prog.info? 28).map (·.size) = some 8 from by kernel_rfl]; simp [HP.out]) pb (by simp) ?_)
      | (refine (CA.out _).mono ?_; rintro e w2 ⟨rfl, hu2⟩))
    have HM := Lib.hid (show w2.heap[wr.heap.size]? = some (.map #[] 0) from (hu2.block wr.heap.size (by simp) (fun f => f)).trans (World.alloc_heap_new wr _))
    have U4 := Lib.hid ((U3.out.alloc (.map #[] 0)).trans hu2 (fun _ _ f => f))
    obtain ⟨bm, hbm⟩ : ∃ b, wr.heap.size = b := ⟨_, rfl⟩
    rw [hbm] at HM ⊢
    clear hbm hu2 B3 U3 UV BV
    go_loopg [44] 0 (fun kx s wr => s = .int .i64 0 ∧ Hid (Upd NoF w wr) ∧ Hid (wr.heap[bm]? = some (.map #[] 0)))
    case atStart => exact ⟨rfl, U4, HM⟩
    case round =>
      rename_i wq _
      obtain ⟨rfl, U5, H5⟩ := hrel
      clear U4 HM
      have hlt : bm < wr.heap.size := (Array.getElem?_eq_some_iff.1 H5.out).1
      have h6 : (wr.alloc (.cells #[.slice none 0 0] 196)).heap[bm]? = some (.map #[] 0) := (Below.heap_alloc wr _ bm hlt).trans H5.out
      have hr := run_range_map (P := Tryz.prog) (wr.alloc (.cells #[.slice none 0 0] 196)) 235 _ _ bm #[] 0 Tryz.underlying235 h6
      have hn : ∀ ty, (Instr.next (.pointer (some ⟨(wr.alloc (.cells #[.slice none 0 0] 196)).heap.size, 0, none⟩)) false ty).run Tryz.prog ((wr.alloc (.cells #[.slice none 0 0] 196)).alloc (.mapIter (some bm) 0 #[] 0)) = .ok (.tuple #[.bool false]) ((wr.alloc (.cells #[.slice none 0 0] 196)).alloc (.mapIter (some bm) 0 #[] 0)) := fun ty => by
        rcases run_next_map (P := Tryz.prog) (wr.alloc (.cells #[.slice none 0 0] 196)) ty bm 0 0 #[] #[] 0 h6 (by simp) (by omega) with ⟨_, h⟩ | ⟨e, he, _⟩
        · exact h
        · simp [leftOf] at he
      rw [World.size_alloc] at hr hn
      clear hlt h6
      obtain ⟨W6, hW6⟩ : ∃ x, x = (wr.alloc (.cells #[.slice none 0 0] 196)).alloc (.mapIter (some bm) 0 #[] 0) := ⟨_, rfl⟩
      have B6 := Lib.hid (show Blk W6 wr.heap.size 196 #[.slice none 0 0] from by rw [hW6]; exact (Blk.new wr _ _).alloc _)
      have U6 := Lib.hid (show Upd NoF w W6 from by rw [hW6]; exact (U5.out.alloc _).alloc _)
      go_wp2
      rw [← hW6] at hn ⊢
      clear hW6 hr
      obtain ⟨hz, hhz⟩ : ∃ n, wr.heap.size = n := ⟨_, rfl⟩
      rw [hhz] at hn B6 ⊢
      clear hhz
      go_loopg [75] 0 (fun kx s75 w7 => Hid (w7 = W6))
      case atStart => exact Lib.hid rfl
      case round =>
        have HW := hrel
        clear hrel
        obtain rfl := HW.out
        have c0 : wr.cell? ⟨hz, 0, none⟩ = some (.slice none 0 0) := B6.out.cell 0
        go_wp2_with fail
        refine (sort_nil_outs _ _ _ wr).mono ?_
        rintro e w8 ⟨rfl, hu8⟩
        have U8 := Lib.hid (U6.out.trans hu8 (fun _ _ f => f))
        have c1 : w8.cell? ⟨hz, 0, none⟩ = some (.slice none 0 0) := (hu8.blk B6.out (fun f => f)).cell 0
        clear hu8
        go_wp2
        go_ret
        exact ⟨rfl, U8.out⟩
end
end Go.Proofs.YtengcmfdfmnacaaGreat
