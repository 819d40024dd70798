/- Items in memory with what they refer to; their graph. No condition. state.Genesis of a valid genesis. No condition. Text on plain data: the least text with a name; it does not depend on the order. No condition. Small functions of the reference: within, num, name. Conditions: sizes. items.CompareNames: what it returns; only new blocks, and draws. No condition. slices.SortFunc of names. Conditions: sizes. -/
import Derived.Test.YtengcmfdfmnacaaGreatJn11
import Derived.Test.YtengcmfdfmnacaaGreatJn12
import Derived.Test.YtengcmfdfmnacaaGreatJn8
import Derived.Deep.LoopGhost
import Derived.Test.YtengcmfdfmnacaaGreatJn1
import Derived.Test.YtengcmfdfmnacaaGreatJn3
import Derived.Test.YtengcmfdfmnacaaGreatJn5
import Derived.Test.YtengcmfdfmnacaaGreatJn6
import Derived.Sort.Grow
import Derived.Test.YtengcmfdfmnacaaGreatLay5
namespace Go.Proofs.YtengcmfdfmnacaaGreat
section
open Go.RowKit Go.Shelf Go.Lib

/-- What the rest of an item's row says about its references. -/
structure ItOk (w : World) (i : ItP) (rest : List Value) : Prop where
  len : rest.length = 20
  one : ∀ u ∈ rest, u.oneCell' = true
  kind : rest[0]? = some (.int .i64 i.kind)
  par : ∀ j v, (i.parent.map byteV)[j]? = some v → rest[2 + j]? = some v
  heads : ∃ H c, rest[10]? = some (.slice H i.heads.length c) ∧ ChR w (.slice H i.heads.length c) i.heads
  tips : ∃ T c, rest[11]? = some (.slice T i.tips.length c) ∧ NmR w (.slice T i.tips.length c) i.tips
  fit : i.Fit
theorem ItOk.keep {w w' : World} {i : ItP} {rest : List Value} (h : ItOk w i rest) (hu : Upd NoF w w') : ItOk w' i rest := by
  obtain ⟨H, c, h1, h2⟩ := h.heads
  obtain ⟨T, d, h3, h4⟩ := h.tips
  exact ⟨h.len, h.one, h.kind, h.par, ⟨H, c, h1, h2.keep hu⟩, ⟨T, d, h3, h4.keep hu⟩, h.fit⟩
/-- Items in memory. -/
structure GrR (w : World) (v : Value) (its : List (ItP × List Value)) : Prop where
  row : ItR w v (its.map fun x => (x.1.name, x.2))
  ok : ∀ x ∈ its, ItOk w x.1 x.2
theorem GrR.keep {w w' : World} {v : Value} {its : List (ItP × List Value)} (h : GrR w v its) (hu : Upd NoF w w') : GrR w' v its := ⟨h.row.keep hu, fun x hx => (h.ok x hx).keep hu⟩
theorem GrR.at_ {w : World} {A : Option Addr} {n c k : Nat} {its : List (ItP × List Value)} {x : ItP × List Value} (h : GrR w (.slice A n c) its) (hn : its.length = n) (hk : its[k]? = some x) : ∃ g o, A = some ⟨g, o, none⟩ ∧ w.rangeAt g (o + k * 28) (itemC x.1.name x.2) := by
  have hlt : k < n := by rw [← hn]; exact (List.getElem?_eq_some_iff.1 hk).1
  have hrd := h.row.rd
  rw [List.length_map, hn] at hrd
  refine rows_at (rows := (its.map fun x => (x.1.name, x.2)).map fun x => itemC x.1 x.2) (fun r hr => ?_) hrd ?_ hlt
  · obtain ⟨y, hy, rfl⟩ := List.mem_map.1 hr
    have := h.row.nm y hy
    simp [itemC, this.1, this.2]
  · rw [List.getElem?_map, List.getElem?_map, hk]; rfl
theorem itemC_len {i : ItP} {rest : List Value} {w : World} (h : ItOk w i rest) : (itemC i.name rest).length = 28 := by simp [itemC, h.fit.name, h.len]
theorem itemC_one {i : ItP} {rest : List Value} {w : World} (h : ItOk w i rest) : (itemC i.name rest).toArray.all (·.oneCell') = true := by
  rw [List.all_toArray, List.all_eq_true]
  intro u hu
  rcases List.mem_append.1 hu with h1 | h1
  · obtain ⟨b, -, rfl⟩ := List.mem_map.1 h1
    rfl
  · exact h.one u h1
theorem item_name {i : ItP} {rest : List Value} {w W : World} {V : Nat} {T : TypeId} {ra : Array Value} (hra : (itemC i.name rest).toArray = ra) (hb : Blk W V T ra) (_h : ItOk w i rest) : W.rangeAt V 0 (i.name.map byteV) := fun j v hj => by
  rw [hb.cell, ← hra, List.getElem?_toArray, Nat.zero_add]
  unfold itemC
  rw [List.getElem?_append_left (List.getElem?_eq_some_iff.1 hj).1]
  exact hj
theorem item_par {i : ItP} {rest : List Value} {w W : World} {V : Nat} {T : TypeId} {ra : Array Value} (hra : (itemC i.name rest).toArray = ra) (hb : Blk W V T ra) (h : ItOk w i rest) : W.rangeAt V 10 (i.parent.map byteV) := fun j v hj => by
  rw [hb.cell, ← hra, List.getElem?_toArray]
  unfold itemC
  rw [List.getElem?_append_right (by simp [h.fit.name]; omega)]
  have := h.par j v hj
  rw [show 10 + j - (i.name.map byteV).length = 2 + j from by simp [h.fit.name]; omega]
  exact this
theorem item_cell {i : ItP} {rest : List Value} {w : World} {ra : Array Value} (hra : (itemC i.name rest).toArray = ra) (h : ItOk w i rest) {k : Nat} {v : Value} (hk : rest[k]? = some v) : ra[8 + k]? = some v := by
  rw [← hra, List.getElem?_toArray]
  unfold itemC
  rw [List.getElem?_append_right (by simp [h.fit.name])]
  rw [show 8 + k - (i.name.map byteV).length = k from by simp [h.fit.name]]
  exact hk
theorem name_cells {n : List UInt8} {W : World} {V : Nat} {T : TypeId} {ra : Array Value} (hra : (n.map byteV).toArray = ra) (hb : Blk W V T ra) : W.rangeAt V 0 (n.map byteV) := by
  rw [← hra] at hb
  exact range_blk hb
/-- Where the items stand by their names. -/
def NmI (w : World) (r : Nat) (names : List (List UInt8)) : Prop := ∃ es, MapN w r es ∧ ∀ n, getT es n = (names.findIdx? (fun x => x = n)).map fun i => .int .i64 (i : Int)
theorem NmI.upd {F : Nat → Prop} {w w' : World} {r : Nat} {l : List (List UInt8)} (h : NmI w r l) (hu : Upd F w w') (hF : ¬ F r) : NmI w' r l := by
  obtain ⟨es, h1, h2⟩ := h
  exact ⟨es, h1.upd hu hF, h2⟩
theorem NmI.keep {w w' : World} {r : Nat} {l : List (List UInt8)} (h : NmI w r l) (hu : Upd NoF w w') : NmI w' r l := h.upd hu (fun f => f)
theorem getT_snoc {es : List (List UInt8 × Value)} {n m : List UInt8} {v : Value} : getT (es ++ [(n, v)]) m = (getT es m).or (if n = m then some v else none) := by
  unfold getT
  rw [List.find?_append]
  cases h : es.find? (fun p => p.1 = m) with
  | some p => simp
  | none => by_cases hc : n = m <;> simp [hc]
theorem findIdx_snoc {l : List (List UInt8)} {n m : List UInt8} : (l ++ [n]).findIdx? (fun x => x = m) = (l.findIdx? (fun x => x = m)).or (if n = m then some l.length else none) := by
  rw [List.findIdx?_append]
  by_cases hc : n = m <;> simp [hc]
theorem graph_alloc (w : World) : (Instr.alloc 89 true (.tuple #[])).run Tryz.prog w = .ok (.pointer (some ⟨w.heap.size, 0, none⟩)) (w.alloc (.cells #[.slice none 0 0, .map none] 89)) := by kernel_rfl
theorem graph_size : (Tryz.prog.info? 89).map (·.size) = some 2 := by kernel_rfl
def zN : Array Value := ((List.replicate 8 (0 : UInt8)).map byteV).toArray
theorem name_alloc (w : World) : (Instr.alloc 28 true (.tuple #[])).run Tryz.prog w = .ok (.pointer (some ⟨w.heap.size, 0, none⟩)) (w.alloc (.cells zN 28)) := by kernel_rfl
theorem zN_size : zN.size = 8 := rfl
theorem name_arr {n : List UInt8} (hn : n.length = 8) {za : Array Value} (hz : (n.map byteV).toArray = za) : za.size = 8 ∧ za.all (·.oneCell') = true := by
  subst hz
  refine ⟨by simp [hn], ?_⟩
  rw [List.all_toArray, List.all_eq_true]
  intro u hu
  obtain ⟨b, -, rfl⟩ := List.mem_map.1 hu
  rfl
theorem bs_name8 (b0 b1 b2 b3 b4 b5 b6 b7 : Value) (w : World) : (Instr.buildSlice 22 1 #[(0, .agg #[b0, b1, b2, b3, b4, b5, b6, b7])]).run Tryz.prog w = .ok (.slice (some ⟨w.heap.size, 0, none⟩) 1 1) (w.alloc (.cells #[b0, b1, b2, b3, b4, b5, b6, b7] 28)) := by kernel_rfl
theorem bs_name {n : List UInt8} (hn : n.length = 8) {za : Array Value} (hz : (n.map byteV).toArray = za) (w : World) : (Instr.buildSlice 22 1 #[(0, .agg za)]).run Tryz.prog w = .ok (.slice (some ⟨w.heap.size, 0, none⟩) 1 1) (w.alloc (.cells za 28)) := by
  subst hz
  match n, hn with
  | [b0, b1, b2, b3, b4, b5, b6, b7], _ => exact bs_name8 _ _ _ _ _ _ _ _ w
theorem rd_name {w : World} {g : Nat} {T : TypeId} {n : List UInt8} (hn : n.length = 8) {za : Array Value} (hz : (n.map byteV).toArray = za) (hb : Blk w g T za) : Rd w 8 (.slice (some ⟨g, 0, none⟩) 1 1) 1 (n.map byteV) :=
  Rd.of_blk hb (Nat.le_refl _) (by unfold maxLen; omega) (by simp [hn]) (fun j u hu => by rw [← hz, List.getElem?_toArray, Nat.zero_add]; exact hu)
theorem name_info : (Tryz.prog.info? 28).map (fun i => (i.zero, i.size, i.bytes)) = some (some (.agg zN), 8, 8) := by kernel_rfl
theorem name_ones (n : List UInt8) : ∀ u ∈ n.map byteV, u.oneCell' = true := one_bytes n
section
variable {P : Program} {ops : Array Oper} {rest : List Oper} {o : Oper} {a : Act} {w : World} {Q : Exit → Act → World → Prop}
theorem wl_makeMap (hw : Region.wanted o (yielded ops a.tmps) = true) (t k e : TypeId) (x : Operand) (n : Int) (ho : o.op = .makeMap t (some x)) (hx : a.eval x = .int .i64 n) (hu : P.underlying t = some (.map k e)) (hk : wpList P ops Q rest (a.put o.dst (.map (some w.heap.size))) (w.alloc (.map #[] 0))) : wpList P ops Q (o :: rest) a w := by
  refine wl_run hw (v := .map (some w.heap.size)) (w' := w.alloc (.map #[] 0)) ?_ hk
  have : (Instr.makeMap t (some (.int .i64 n))).run P w = .ok (.map (some w.heap.size)) (w.alloc (.map #[] 0)) := by
    simp [Instr.makeMap, run_underlying hu, asInt]
    rfl
  simp [execOp, ho, hx, this]
/-- A variable that begins with a row. -/
theorem wl_box (hw : Region.wanted o (yielded ops a.tmps) = true) (ty : TypeId) (x : Operand) (ho : o.op = .box ty x) (za : Array Value) (hx : a.eval x = .agg za)
    (hk : ∀ w', Blk w' w.heap.size ty za → Upd NoF w w' → w'.heap.size = w.heap.size + 1 → wpList P ops Q rest (a.put o.dst (.pointer (some ⟨w.heap.size, 0, none⟩))) w') : wpList P ops Q (o :: rest) a w := by
  refine wl_run hw (v := .pointer (some ⟨w.heap.size, 0, none⟩)) (w' := w.alloc (.cells za ty)) ?_ (hk _ (Blk.new w ty za) ((Upd.refl NoF w).alloc _) (by simp))
  have : (Instr.box ty (.agg za)).run P w = .ok (.pointer (some ⟨w.heap.size, 0, none⟩)) (w.alloc (.cells za ty)) := by rfl
  simp [execOp, ho, hx, this]
end
section
variable {ops : Array Oper} {rest : List Oper} {o : Oper} {a : Act} {w : World} {Q : Exit → Act → World → Prop}
theorem wl_makeMap0 (hw : Region.wanted o (yielded ops a.tmps) = true) (t : TypeId) (ho : o.op = .makeMap t none) (hk : ∀ w', MapN w' w.heap.size [] → Upd NoF w w' → w'.heap.size = w.heap.size + 1 → wpList Tryz.prog ops Q rest (a.put o.dst (.map (some w.heap.size))) w') : wpList Tryz.prog ops Q (o :: rest) a w := by
  refine wl_run hw (v := .map (some w.heap.size)) (w' := w.alloc (.map #[] 0)) ?_ (hk _ (MapN.fresh w) ((Upd.refl NoF w).alloc _) (by simp))
  have : (Instr.makeMap t none).run Tryz.prog w = .ok (.map (some w.heap.size)) (w.alloc (.map #[] 0)) := rfl
  simp [execOp, ho, this]
theorem bs_names0 (w : World) : (Instr.buildSlice 22 0 #[]).run Tryz.prog w = .ok (.slice (some ⟨w.heap.size, 0, none⟩) 0 0) (w.alloc (.cells #[] 28)) := by kernel_rfl
theorem wl_names0 (hw : Region.wanted o (yielded ops a.tmps) = true) (ho : o.op = .buildSlice 22 0 #[]) (hk : ∀ w', Own w' 28 8 (.slice (some ⟨w.heap.size, 0, none⟩) 0 0) 0 [] → Upd NoF w w' → w'.heap.size = w.heap.size + 1 → wpList Tryz.prog ops Q rest (a.put o.dst (.slice (some ⟨w.heap.size, 0, none⟩) 0 0)) w') : wpList Tryz.prog ops Q (o :: rest) a w := by
  refine wl_run hw (v := .slice (some ⟨w.heap.size, 0, none⟩) 0 0) (w' := w.alloc (.cells #[] 28)) ?_ (hk _ (NewR.fresh w 28 8).1 ((Upd.refl NoF w).alloc _) (by simp))
  have := bs_names0 w
  simp [execOp, ho, this]
end
/-- A set of names as a map's entries. -/
def setE (l : List (List UInt8)) : List (List UInt8 × Value) := l.map fun n => (n, Value.bool true)
theorem setE_keys (l : List (List UInt8)) : (setE l).map (·.1) = l := by simp [setE, Function.comp_def]
theorem setE_in {n : List UInt8} : ∀ {l : List (List UInt8)}, n ∈ l → getT (setE l) n = some (.bool true)
  | x :: l, h => by
    unfold getT setE
    rw [List.map_cons, List.find?_cons]
    by_cases hc : x = n
    · simp [hc]
    · have := setE_in (l := l) (by rcases List.mem_cons.1 h with e | e; (· exact absurd e.symm hc); exact e)
      unfold getT setE at this
      simp only [hc, decide_false]
      exact this
theorem setE_out {l : List (List UInt8)} {n : List UInt8} (h : n ∉ l) : getT (setE l) n = none := getT_none.2 (by rw [setE_keys]; exact h)
theorem setE_snoc (l : List (List UInt8)) (n : List UInt8) : setE (l ++ [n]) = setE l ++ [(n, .bool true)] := by simp [setE]
theorem insN_len (n : List UInt8) : ∀ l : List (List UInt8), (insN n l).length ≤ l.length + 1
  | [] => by simp [insN]
  | x :: l => by
    unfold insN
    have := insN_len n l
    split
    · simp; omega
    · split <;> simp
theorem ascSet_len (l : List (List UInt8)) : (ascSet l).length ≤ l.length := by
  have go : ∀ (l o : List (List UInt8)), (l.foldl (fun o n => insN n o) o).length ≤ o.length + l.length := by
    intro l
    induction l with
    | nil => intro o; simp
    | cons x l ih => intro o; rw [List.foldl_cons]; have := ih (insN x o); have := insN_len x o; simp; omega
  have := go l []
  simpa [ascSet] using this
theorem parents_len (i : ItP) : (parents i).length ≤ 1 + i.heads.length + i.tips.length := by
  unfold parents
  refine Nat.le_trans (ascSet_len _) ?_
  unfold rawPar
  split
  · simp; omega
  · split
    · simp; omega
    · simp
theorem itemOf_hit {its : List (ItP × List Value)} {n : List UInt8} {k : Nat} (h : (its.map (·.1.name)).findIdx? (fun y => y = n) = some k) : ∃ x, its[k]? = some x ∧ x.1.name = n ∧ itemOf (its.map (·.1)) n = some x.1 := by
  induction its generalizing k with
  | nil => simp at h
  | cons y its ih =>
    rw [List.map_cons, List.findIdx?_cons] at h
    unfold itemOf
    rw [List.map_cons, List.find?_cons]
    by_cases hc : y.1.name = n
    · simp only [hc, decide_true, if_true] at h
      cases h
      exact ⟨y, rfl, hc, by simp [hc]⟩
    · simp only [hc, decide_false, Bool.false_eq_true, if_false] at h
      obtain ⟨j, hj, rfl⟩ := Option.map_eq_some_iff.1 h
      obtain ⟨x, h1, h2, h3⟩ := ih hj
      exact ⟨x, h1, h2, by simp only [hc, decide_false]; exact h3⟩
theorem itemOf_miss {its : List (ItP × List Value)} {n : List UInt8} (h : (its.map (·.1.name)).findIdx? (fun y => y = n) = none) : itemOf (its.map (·.1)) n = none := by
  unfold itemOf
  rw [List.find?_eq_none]
  intro i hi
  obtain ⟨x, hx, rfl⟩ := List.mem_map.1 hi
  rw [List.findIdx?_eq_none_iff] at h
  simpa using h x.1.name (List.mem_map.2 ⟨x, hx, rfl⟩)
end

section
open Go.RowKit Go.Lib

theorem run_make_ints (w : World) (n : Nat) (hn : n ≤ 1000000) : (Instr.makeSlice 23 (.int .i64 (n : Int)) (.int .i64 (n : Int))).run Tryz.prog w = .ok (.slice (some ⟨w.heap.size, 0, none⟩) n n) (w.alloc (.cells (List.replicate n (Value.int .i64 0)).toArray 3)) := by
  obtain ⟨i0, hi0, hz0, hz1, hz2⟩ := info_parts int_info
  have h := run_make (P := Tryz.prog) w 23 3 i0 _ Tryz.underlying23 hi0 hz0 .i64 .i64 n n (by omega) (by omega) (by rw [hz2]; omega) (by omega)
  rw [h, hz1]
  have : madeCells (Value.int .i64 0).cells ((n : Int).toNat * 1) = (List.replicate n (Value.int .i64 0)).toArray := by
    apply Array.ext
    · simp [size_madeCells]
    · intro i h1 h2
      simp [madeCells, Value.cells, Nat.mod_one]
  rw [this, Int.toNat_natCast]
theorem rd_row (w : World) {k z v : Int} (h : (⟨k, z, nm0, v⟩ : DelS).Fit) : Rd (w.alloc (.cells #[.int .i64 k, .int .i64 z, .int .u8 0, .int .u8 0, .int .u8 0, .int .u8 0, .int .u8 0, .int .u8 0, .int .u8 0, .int .u8 0, .int .i64 v] 109)) 11 (.slice (some ⟨w.heap.size, 0, none⟩) 1 1) 1 (rowD ⟨k, z, nm0, v⟩) :=
  Rd.of_blk (Blk.new w _ _) (by omega) (by unfold maxLen; omega) (by rw [rowD_len h]) (fun j y hy => by
    rw [Nat.zero_add]
    show (rowD ⟨k, z, nm0, v⟩).toArray[j]? = some y
    rw [List.getElem?_toArray]
    exact hy)
theorem valid_parts {g : GenS} (h : validG g = true) : 1 ≤ g.n ∧ g.n ≤ 7 ∧ 1 ≤ g.vals.length ∧ g.vals.length ≤ 10 ∧ g.n ≤ g.vals.length ∧ 1 ≤ g.accs.length ∧ g.accs.length ≤ 16 ∧ g.bals.length = g.accs.length ∧ amtB g.stake = true ∧ g.bals.all amtB = true := by
  unfold validG at h
  simpa only [Bool.and_eq_true, decide_eq_true_eq, and_assoc] using h
theorem st_alloc (w : World) : (Instr.alloc 34 true (.tuple #[])).run Tryz.prog w = .ok (.pointer (some ⟨w.heap.size, 0, none⟩)) (w.alloc (.cells zSt 34)) := by kernel_rfl
theorem gen_size : (Tryz.prog.info? 25).map (·.size) = some 5 := by kernel_rfl
theorem st_size : (Tryz.prog.info? 34).map (·.size) = some 5 := by kernel_rfl
theorem st_one (A1 A2 A3 A4 : Option Addr) (n1 c1 n2 c2 n3 c3 n4 c4 : Nat) (z : Int) : (#[.slice A1 n1 c1, .slice A2 n2 c2, .slice A3 n3 c3, .slice A4 n4 c4, .int .i64 z] : Array Value).all (·.oneCell') = true := by simp [Value.oneCell']
section
variable {ops : Array Oper} {rest : List Oper} {o : Oper} {a : Act} {w : World} {Q : Exit → Act → World → Prop}
theorem wl_makeInts (hw : Region.wanted o (yielded ops a.tmps) = true) (x : Operand) (n : Nat) (ho : o.op = .makeSlice 23 x x) (hx : a.eval x = .int .i64 (n : Int)) (hn : n ≤ 1000000)
    (hk : ∀ w', Own w' 3 1 (.slice (some ⟨w.heap.size, 0, none⟩) n n) n (List.replicate n (Value.int .i64 0)) → Upd NoF w w' → w'.heap.size = w.heap.size + 1 → wpList Tryz.prog ops Q rest (a.put o.dst (.slice (some ⟨w.heap.size, 0, none⟩) n n)) w') : wpList Tryz.prog ops Q (o :: rest) a w := by
  refine wl_run hw (v := .slice (some ⟨w.heap.size, 0, none⟩) n n) (w' := w.alloc (.cells (List.replicate n (Value.int .i64 0)).toArray 3)) ?_ (hk _ ⟨by simp, .inr ⟨_, n, _, rfl, Blk.new w _ _, Nat.le_refl _, by unfold maxLen; omega, by simp, by simp⟩⟩ ((Upd.refl NoF w).alloc _) (by simp))
  have := run_make_ints w n hn
  simp [execOp, ho, hx, this]
end
set_option maxRecDepth 100000 in
set_option maxHeartbeats 16000000 in
theorem stGenesis_ok {w : World} {A B C : Option Addr} {a b c : Nat} {g : GenS} (h : GenR w A B C a b c g) (hv : validG g = true) : Calls Tryz.prog 28 #[genV A B C a b c g] w fun e w' => ∃ A1 c1 A2 c2, e = .returned (.tuple #[.agg #[.slice A1 (genCells g).length c1, .slice A2 g.accs.length c2, .slice none 0 0, .slice none 0 0, .int .i64 0], .int .i64 0]) ∧ NwA w.heap.size 109 11 (genCells g).length (((genCells g).map rowD).flatten) A1 c1 w' ∧ NwA w.heap.size 3 1 g.accs.length (List.replicate g.accs.length (Value.int .i64 0)) A2 c2 w' ∧ Upd NoF w w' := by
  obtain ⟨i0, hi0, hz0, hz1, hz2⟩ := info_parts delta_info
  obtain ⟨p1, p2, p3, p4, p5, p6, p7, p8, p9, p10⟩ := valid_parts hv
  have CV := Lib.hid (fun W (hu : Upd NoF w W) => show Calls Tryz.prog 58 #[genV A B C a b c g] W (fun e w' => e = .returned (.int .i64 0) ∧ Upd NoF W w') from by have := stValidateGenesis_any (w := W) (h.keep hu); rw [hv] at this; exact this)
  have HFT := Lib.hid (genD_fit h.stake h.bals.1 (by omega) (by omega))
  have HBL := Lib.hid h.bals
  have HGL := Lib.hid (genD_len g)
  have HASC := Lib.hid (asc_gen g)
  obtain ⟨v, hvl⟩ : ∃ n, g.vals.length = n := ⟨_, rfl⟩
  obtain ⟨m, hml⟩ : ∃ n, g.accs.length = n := ⟨_, rfl⟩
  obtain ⟨q, hql⟩ : ∃ n, g.bals.length = n := ⟨_, rfl⟩
  rw [hvl] at p3 p4 p5
  rw [hml] at p6 p7 p8
  rw [hql] at p8
  have HV := Lib.hid hvl
  have HM := Lib.hid hml
  have HQ := Lib.hid hql
  have HB := Lib.hid (show v ≤ 10 ∧ m ≤ 16 ∧ q ≤ 16 ∧ 1 ≤ m from by omega)
  have hv10 := p4
  have hm16 := p7
  have hq16 : q ≤ 16 := by omega
  show Calls Tryz.prog 28 #[.agg #[.int .i64 g.n, .int .i64 g.stake, .slice A g.vals.length a, .slice B g.accs.length b, .slice C g.bals.length c]] w _
  rw [hvl, hml, hql]
  obtain ⟨LF, hLF⟩ : ∃ x, x = genCells g := ⟨_, rfl⟩
  have HLF := Lib.hid (show (genD g).filter nzD = LF from by rw [hLF]; rfl)
  rw [← hLF]
  clear hLF
  have CV := Lib.hid (show ∀ W, Upd NoF w W → Calls Tryz.prog 58 #[.agg #[.int .i64 g.n, .int .i64 g.stake, .slice A v a, .slice B m b, .slice C q c]] W (fun e w' => e = .returned (.int .i64 0) ∧ Upd NoF W w') from fun W hu => by have := CV.out W hu; unfold genV at this; rw [hvl, hml, hql] at this; exact this)
  clear h hv p1 p2 p3 p4 p5 p6 p7 p8 p9 p10 hvl hml hql
  go_enter Tryz.func28, Tryz.ntmps28
  go_wp2_with (first
    | (refine wl_box rfl 25 (.tmp 0) rfl #[.int .i64 g.n, .int .i64 g.stake, .slice A v a, .slice B m b, .slice C q c] (by rfl) ?_; intro v0 hb0 hu0 hs0; have BX := Lib.hid hb0; have V0 := Lib.hid hu0; have S0 := Lib.hid hs0; clear hb0 hu0 hs0)
    | (refine wpList_alloc_row rfl 34 rfl zSt st_alloc ?_; intro v1 hb1 hu1 hs1; have BR := Lib.hid hb1; have S1 := Lib.hid hs1; replace BX := Lib.hid (hu1.blk BX.out (fun f => f)); have V1 := Lib.hid (V0.out.trans hu1 (fun _ _ f => f)); clear hb1 hu1 hs1)
    | (refine wl_load rfl 25 (.tmp 1) rfl w.heap.size 0 (by rfl) (#[.int .i64 g.n, .int .i64 g.stake, .slice A v a, .slice B m b, .slice C q c] : Array Value).toList _ (range_blk BX.out) Tryz.underlying25 rfl gen_size _ rfl ?_)
    | (refine (CV.out _ V1.out).mono ?_; rintro e w1 ⟨rfl, hu1⟩; have U1 := Lib.hid hu1; have c1 : w1.cell? ⟨w.heap.size, 4, none⟩ = some (.slice C q c) := (hu1.blk BX.out (fun f => f)).cell 4; clear hu1))
  have HX1 := Lib.hid (U1.out.blk BX.out (fun f => f))
  have HZ1 := Lib.hid (U1.out.blk BR.out (fun f => f))
  have UA := Lib.hid (V1.out.trans U1.out (fun _ _ f => f))
  obtain ⟨X, hX⟩ : ∃ x, w.heap.size = x := ⟨_, rfl⟩
  have HSZ := Lib.hid (show X + 2 ≤ w1.heap.size from by have := U1.out.size; have := S1.out; have := S0.out; omega)
  obtain ⟨Y, hY⟩ : ∃ x, v0.heap.size = x := ⟨_, rfl⟩
  have HYX := Lib.hid (show Y = X + 1 from by have := S0.out; omega)
  rw [hX] at HX1 ⊢
  rw [hY] at HZ1 ⊢
  have HX := Lib.hid hX
  obtain ⟨S, hS⟩ : ∃ s, w1.heap.size = s := ⟨_, rfl⟩
  have HS1 := Lib.hid hS
  clear V0 V1 S0 S1 BX BR U1 CV c1 hX hY hS
  have N0 := Lib.hid (show NwA S 109 11 0 (genRows g 0) none 0 w1 from NwA.nil _ _ _ _)
  go_loopg [4, 15] q (fun kx s4 s15 wr => ∃ (k : Nat) (D : Option Addr) (cd : Nat), s15 = .int .i64 (k : Int) ∧ k ≤ q ∧ q - k ≤ kx ∧ s4 = .slice D k cd ∧ Hid (NwA S 109 11 k (genRows g k) D cd wr) ∧ Hid (Upd NoF w1 wr))
  case atStart => exact ⟨0, none, 0, rfl, by omega, by omega, rfl, N0, Lib.hid (Upd.refl _ _)⟩
  case round =>
    clear N0
    obtain ⟨k, D, cd, rfl, hkn, hkx, rfl, HN, HU⟩ := hrel
    by_cases hlt : k < q
    · have hltz : (k : Int) < (q : Int) := by omega
      obtain ⟨z, hz⟩ : ∃ z, g.bals[k]? = some z := ⟨_, List.getElem?_eq_getElem (by have := HQ.out; omega)⟩
      obtain ⟨gb, ob, hA, c0⟩ := (HBL.out.keep (UA.out.trans HU.out (fun _ _ f => f))) |> fun h => by rw [HQ.out] at h; exact h.at_ hz
      subst hA
      have HZZ := Lib.hid hz
      clear hz
      have HD := Lib.hid (genD_bal HZZ.out)
      have HFD := Lib.hid (HFT.out _ (List.mem_of_getElem? HD.out))
      have e1 : ((k : Int)).toNat = k := by omega
      have HB1 := Lib.hid (show k + 1 ≤ maxLen ∧ (k + 1) * 32 ≤ 140737488355328 from by unfold maxLen; omega)
      go_wp2_with (at_builtin; refine wpList_append_to _ rfl (.tmp 20) (.tmp 25) 31 rfl 109 i0 _ 11 32 Tryz.underlying31 hi0 hz0 hz1 hz2 (by kernel_rfl) (.slice D (k) cd) (k) (genRows g (k)) (by rfl) (HN.out.keep ((Upd.refl NoF wr).alloc _)).1 (.slice (some ⟨wr.heap.size, 0, none⟩) 1 1) 1 (rowD ⟨1, (k : Int), nm0, z⟩) (by rfl) (rd_row wr HFD.out) (rowD_one _) HB1.out.1 HB1.out.2 ?_; intro A6 c6 w6 hown hupd hnew; have N6 := Lib.hid (NwA.app HN.out ((Upd.refl NoF wr).alloc _) (by have := HU.out.size; have := HS1.out; omega) hown hupd hnew); clear hown hupd hnew)
      have NX := Lib.hid (show NwA S 109 11 ((k + 1)) (genRows g ((k + 1))) A6 c6 w6 from by rw [show (k + 1) = k + 1 by omega, genRows_next HD.out]; exact N6.out.1)
      have UX := Lib.hid (N6.out.2 (w := w1) (by have := HS1.out; omega) HU.out)
      go_roundg (q - (k + 1))
      case measure => omega
      case rel => exact ⟨k + 1, A6, c6, by first | rfl | go_num, by omega, by omega, by first | rfl | (congr 1; done), NX, UX⟩
    · have hltz : ¬ (k : Int) < (q : Int) := by omega
      obtain rfl : k = q := by omega
      have c2 : wr.cell? ⟨X, 2, none⟩ = some (.slice A v a) := (HU.out.blk HX1.out (fun f => f)).cell 2
      go_wp2
      go_loopg [4, 31] v (fun kx s4 s31 wr => ∃ (j : Nat) (D : Option Addr) (cd : Nat), s31 = .int .i64 (j : Int) ∧ j ≤ v ∧ v - j ≤ kx ∧ s4 = .slice D (k + j) cd ∧ Hid (NwA S 109 11 (k + j) (genRows g (k + j)) D cd wr) ∧ Hid (Upd NoF w1 wr))
      case atStart => exact ⟨0, D, cd, rfl, by omega, by omega, rfl, HN, HU⟩
      case round =>
        clear HN HU c2
        obtain ⟨j, D, cd, rfl, hjn, hjx, rfl, HN, HU⟩ := hrel
        by_cases hjt : j < v
        · have hltz : (j : Int) < (v : Int) := by omega
          have cs : wr.cell? ⟨X, 1, none⟩ = some (.int .i64 g.stake) := (HU.out.blk HX1.out (fun f => f)).cell 1
          have cs' : (wr.alloc (.cells (rowD ⟨3, (j : Int), nm0, g.stake⟩).toArray 109)).heap.size = wr.heap.size + 1 := by simp
          have HD := Lib.hid (show (genD g)[k + j]? = some ⟨3, (j : Int), nm0, g.stake⟩ from by have := genD_stk (g := g) (j := j) (by have := HV.out; omega); rw [HQ.out] at this; exact this)
          have HFD := Lib.hid (HFT.out _ (List.mem_of_getElem? HD.out))
          have e1 : ((j : Int)).toNat = j := by omega
          have HB1 := Lib.hid (show k + j + 1 ≤ maxLen ∧ (k + j + 1) * 32 ≤ 140737488355328 from by unfold maxLen; omega)
          obtain ⟨stk, hstk⟩ : ∃ z, g.stake = z := ⟨_, rfl⟩
          rw [hstk] at cs HD HFD
          clear cs' hstk
          go_wp2_with (at_builtin; refine wpList_append_to _ rfl (.tmp 34) (.tmp 40) 31 rfl 109 i0 _ 11 32 Tryz.underlying31 hi0 hz0 hz1 hz2 (by kernel_rfl) (.slice D (k + j) cd) (k + j) (genRows g (k + j)) (by rfl) (HN.out.keep ((Upd.refl NoF wr).alloc _)).1 (.slice (some ⟨wr.heap.size, 0, none⟩) 1 1) 1 (rowD ⟨3, (j : Int), nm0, stk⟩) (by rfl) (rd_row wr HFD.out) (rowD_one _) HB1.out.1 HB1.out.2 ?_; intro A6 c6 w6 hown hupd hnew; have N6 := Lib.hid (NwA.app HN.out ((Upd.refl NoF wr).alloc _) (by have := HU.out.size; have := HS1.out; omega) hown hupd hnew); clear hown hupd hnew)
          have NX := Lib.hid (show NwA S 109 11 (k + (j + 1)) (genRows g (k + (j + 1))) A6 c6 w6 from by rw [show k + (j + 1) = k + j + 1 by omega, genRows_next HD.out]; exact N6.out.1)
          have UX := Lib.hid (N6.out.2 (w := w1) (by have := HS1.out; omega) HU.out)
          go_roundg (v - (j + 1))
          case measure => omega
          case rel => exact ⟨j + 1, A6, c6, by first | rfl | go_num, by omega, by omega, by first | rfl | (congr 1; done), NX, UX⟩
        · have hltz : ¬ (j : Int) < (v : Int) := by omega
          obtain rfl : j = v := by omega
          have c3 : wr.cell? ⟨X, 3, none⟩ = some (.slice B m b) := (HU.out.blk HX1.out (fun f => f)).cell 3
          have HALL := Lib.hid (show genRows g (k + j) = ((genD g).map rowD).flatten from by unfold genRows; rw [List.take_of_length_le (by rw [HGL.out, HQ.out, HV.out]; exact Nat.le_refl _)])
          have HDL := Lib.hid (show (genD g).length = k + j from by rw [HGL.out, HQ.out, HV.out])
          have CA := Lib.hid (fun (W : World) (pa : Addr) (hz : InR W (.slice (some pa) m m) (List.replicate m 0)) (hd : DeR W (.slice D (k + j) cd) (genD g)) => stAdd_rising (w := W) (by simp) hz (by have := HB.out; omega) HDL.out hd (by have := HB.out; omega) HASC.out)
          go_wp2_with (first
            | (refine wl_makeInts rfl (.tmp 45) m rfl (by rfl) (by have := HB.out; omega) ?_; intro w3 ho3 hu3 hs3; have O3 := Lib.hid ho3; have U3 := Lib.hid hu3; clear ho3 hu3 hs3)
            | (refine (CA.out w3 _ ⟨fun z hz => by rw [(List.mem_replicate.1 hz).2]; omega, by have := O3.out.rd; simpa using this⟩ ⟨HFT.out, by have := (HN.out.keep U3.out).1.rd; rw [HALL.out] at this; rw [HDL.out]; exact this⟩).mono ?_; rintro e w4 ⟨A1, c1, A2, c2, he, hn1, hn2, hu4⟩; rw [HLF.out] at he hn1; obtain ⟨sa, hsa⟩ : ∃ x, (#[.slice A1 LF.length c1, .slice A2 m c2, .slice none 0 0, .slice none 0 0, .int .i64 0] : Array Value) = x := ⟨_, rfl⟩; rw [hsa] at he; subst he; have HSA := Lib.hid hsa; have N4 := Lib.hid hn1; have M4 := Lib.hid hn2; have U4 := Lib.hid (U3.out.trans hu4 (fun _ _ f => f)); have S4 := Lib.hid U3.out.size; clear hn1 hn2 hu4 hsa)
            | (refine wpList_store_row rfl 34 (.tmp 2) (.tmp 49) rfl Y (by rfl) sa (by rfl) 34 _ (U4.out.blk (HU.out.blk HZ1.out (fun f => f)) (fun f => f)) (by rw [← HSA.out]; rfl) (by rw [← HSA.out]; exact st_size) (by rw [← HSA.out]; exact st_one _ _ _ _ _ _ _ _ _ _ _ _ _) ?_; intro w5 hb5 hu5 hs5; have B5 := Lib.hid hb5; have U5 := Lib.hid hu5; clear hb5 hu5 hs5))
          have hwr := HU.out.size
          refine bodyPost_ret (results_cell_tmp Tryz.results28 _ _ Y sa.toList _ rfl (range_blk (by rw [Array.toArray_toList]; exact B5.out)) Tryz.underlying34 rfl (by rw [Array.length_toList, ← HSA.out]; exact st_size)) rfl ?_
          have nw : ∀ {e : TypeId} {s n : Nat} {xs : List Value} {A : Option Addr} {c : Nat}, NwA w3.heap.size e s n xs A c w4 → NwA w.heap.size e s n xs A c w5 := fun hN => ⟨hN.1.upd U5.out (fun j hj f => by have := hN.2 j hj; have f : j = Y := f; have := HYX.out; have := HSZ.out; have := S4.out; omega), fun j hj => by have := hN.2 j hj; have := HX.out; have := HSZ.out; have := S4.out; omega⟩
          refine ⟨A1, c1, A2, c2, by rw [HSA.out]; simp, nw N4.out, nw (by have := M4.out; rw [List.map_replicate] at this; exact this), ((UA.out.trans HU.out (fun _ _ f => f)).trans U4.out (fun _ _ f => f)).trans U5.out (fun j hj f => by have f : j = Y := f; have := HYX.out; have := HX.out; omega)⟩
end

section
open Go

/-- One round: the text t is taken if it has the name and is less than what was taken so far. -/
def pickStep (n : List UInt8) (o : Option (List UInt8)) (t : List UInt8) : Option (List UInt8) :=
  if hsum t = n then (match o with | none => some t | some u => if lessT t u = true then some t else some u) else o
def pickT (n : List UInt8) (l : List (List UInt8)) : Option (List UInt8) := l.foldl (pickStep n) none
/-- What 'o' is the least of. -/
def Least (n : List UInt8) (l : List (List UInt8)) (o : Option (List UInt8)) : Prop :=
  match o with
  | none => ∀ t ∈ l, hsum t ≠ n
  | some u => u ∈ l ∧ hsum u = n ∧ ∀ t ∈ l, hsum t = n → lessT t u = false
theorem Least.step {n : List UInt8} {l : List (List UInt8)} {o : Option (List UInt8)} (h : Least n l o) (t : List UInt8) : Least n (l ++ [t]) (pickStep n o t) := by
  unfold pickStep
  by_cases ht : hsum t = n
  · rw [if_pos ht]
    cases o with
    | none =>
      refine ⟨by simp, ht, fun u hu hn => ?_⟩
      rcases List.mem_append.1 hu with hu | hu
      · exact absurd hn (h u hu)
      · simp at hu
        subst hu
        exact lessT_irrefl _
    | some v =>
      obtain ⟨h1, h2, h3⟩ := h
      by_cases hl : lessT t v = true
      · simp only [if_pos hl]
        refine ⟨by simp, ht, fun u hu hn => ?_⟩
        rcases List.mem_append.1 hu with hu | hu
        · exact lessT_ntrans u v t (h3 u hu hn) (lessT_asymm hl)
        · simp at hu
          subst hu
          exact lessT_irrefl _
      · simp only [if_neg hl]
        refine ⟨by simp [h1], h2, fun u hu hn => ?_⟩
        rcases List.mem_append.1 hu with hu | hu
        · exact h3 u hu hn
        · simp at hu
          subst hu
          simpa using hl
  · rw [if_neg ht]
    cases o with
    | none =>
      intro u hu
      rcases List.mem_append.1 hu with hu | hu
      · exact h u hu
      · simp at hu
        subst hu
        exact ht
    | some v =>
      obtain ⟨h1, h2, h3⟩ := h
      refine ⟨by simp [h1], h2, fun u hu hn => ?_⟩
      rcases List.mem_append.1 hu with hu | hu
      · exact h3 u hu hn
      · simp at hu
        subst hu
        exact absurd hn ht
end

section
open Go.RowKit

theorem r20within_any (v lo hi : Int) (w : World) : Calls Tryz.prog 95 #[.int .i64 v, .int .i64 lo, .int .i64 hi] w fun e w' => e = .returned (.bool (decide (lo ≤ v) && decide (v ≤ hi))) ∧ w' = w := by
  by_cases h1 : lo ≤ v
  · by_cases h2 : v ≤ hi
    · have t1 : decide (lo ≤ v) = true := by simpa using h1
      have t2 : decide (v ≤ hi) = true := by simpa using h2
      have E := Lib.hid (show (decide (lo ≤ v) && decide (v ≤ hi)) = true by rw [t1, t2]; rfl)
      generalize (decide (lo ≤ v) && decide (v ≤ hi)) = z at E ⊢
      go_enter Tryz.func95, Tryz.ntmps95
      go_wp2
      go_ret
      exact ⟨congrArg (fun z => Ending.returned (.bool z)) E.out.symm, rfl⟩
    · have t1 : decide (lo ≤ v) = true := by simpa using h1
      have t2 : decide (v ≤ hi) = false := by simpa using h2
      have E := Lib.hid (show (decide (lo ≤ v) && decide (v ≤ hi)) = false by rw [t1, t2]; rfl)
      generalize (decide (lo ≤ v) && decide (v ≤ hi)) = z at E ⊢
      go_enter Tryz.func95, Tryz.ntmps95
      go_wp2
      go_ret
      exact ⟨congrArg (fun z => Ending.returned (.bool z)) E.out.symm, rfl⟩
  · have t1 : decide (lo ≤ v) = false := by simpa using h1
    have E := Lib.hid (show (decide (lo ≤ v) && decide (v ≤ hi)) = false by rw [t1]; rfl)
    generalize (decide (lo ≤ v) && decide (v ≤ hi)) = z at E ⊢
    go_enter Tryz.func95, Tryz.ntmps95
    go_wp2
    go_ret
    exact ⟨congrArg (fun z => Ending.returned (.bool z)) E.out.symm, rfl⟩

set_option maxRecDepth 100000 in
set_option maxHeartbeats 2000000 in
theorem r20num_any {w : World} {b : Value} {bs : List UInt8} (h : Rd w 1 b bs.length (bs.map byteV)) (v : Int) (hv : 0 ≤ v) (hv2 : v ≤ 9223372036854775807) (n : Nat) (hn : n ≤ 8) (hm : bs.length + 8 ≤ 1099511627776) : Calls Tryz.prog 56 #[b, .int .i64 v, .int .i64 (n : Int)] w (BytesPost w (bs ++ beB v n)) := by
  have C := Lib.hid (r1AppendUint_any h v hv n hn hm)
  have hw : IntKind.u64.wrap v = v := by
    obtain ⟨k, rfl⟩ : ∃ k : Nat, v = (k : Int) := ⟨v.toNat, by omega⟩
    exact wrap_u64_nat _ (by omega)
  obtain ⟨R, hR⟩ : ∃ x, x = bs ++ beB v n := ⟨_, rfl⟩
  rw [← hR] at C ⊢
  clear h hm hR
  go_enter Tryz.func56, Tryz.ntmps56
  go_wp2_with fail
  refine C.out.mono ?_
  rintro e w' ⟨A, c, rfl, hN⟩
  have HN := Lib.hid hN
  clear hN
  go_wp2
  go_ret
  exact ⟨A, c, rfl, HN.out⟩

theorem eight0 {bs : List UInt8} (h : bs.length = 8) : ∃ b0 b1 b2 b3 b4 b5 b6 b7, bs = [b0, b1, b2, b3, b4, b5, b6, b7] := by
  match bs, h with
  | [b0, b1, b2, b3, b4, b5, b6, b7], _ => exact ⟨_, _, _, _, _, _, _, _, rfl⟩
set_option maxRecDepth 100000 in
set_option maxHeartbeats 4000000 in
theorem r20name_any {w : World} {b : Value} {bs n : List UInt8} (h : Rd w 1 b bs.length (bs.map byteV)) (hn : n.length = 8) (hm : bs.length + 8 ≤ 1099511627776) : Calls Tryz.prog 57 #[b, nameV n] w (BytesPost w (bs ++ n)) := by
  obtain ⟨b0, b1, b2, b3, b4, b5, b6, b7, rfl⟩ := eight0 hn
  obtain ⟨A, c, rfl, hlc, hcm, _⟩ := id h
  obtain ⟨i1, hi1, hy0, hy1, hy2⟩ := info_parts byte_info
  obtain ⟨W0, hW0⟩ : ∃ x, x = w.alloc (.cells #[byteV b0, byteV b1, byteV b2, byteV b3, byteV b4, byteV b5, byteV b6, byteV b7] 28) := ⟨_, rfl⟩
  have BN := Lib.hid (show Blk W0 w.heap.size 28 #[byteV b0, byteV b1, byteV b2, byteV b3, byteV b4, byteV b5, byteV b6, byteV b7] from by rw [hW0]; exact Blk.new _ _ _)
  have UW := Lib.hid (show Upd NoF w W0 from by rw [hW0]; exact (Upd.refl _ _).alloc _)
  have HR := Lib.hid (h.keep UW.out)
  have SZ := Lib.hid (show W0.heap.size = w.heap.size + 1 from by rw [hW0]; simp)
  have LB := Lib.hid (show bs.length ≤ maxLen ∧ bs.length * 1 ≤ 140737488355328 from by unfold maxLen; omega)
  have LC := Lib.hid (show bs.length + 8 ≤ maxLen ∧ (bs.length + 8) * 1 ≤ 140737488355328 from by unfold maxLen; omega)
  clear h hm hlc hcm
  go_enter Tryz.func57, Tryz.ntmps57
  go_wp2_with fail
  rw [← hW0]
  have N0 := Lib.hid ((NewR.fresh W0 5 1).keep ((Upd.refl NoF _).drew))
  have UD := Lib.hid (show Upd NoF W0 ((W0.alloc (.cells #[] 5)).drew) from ((Upd.refl NoF W0).alloc _).drew)
  clear hW0
  have OB := Lib.hid (bytes_oneCell bs)
  have KF := Lib.hid (fun w1 (hu : Upd NoF W0 w1) => Rd.of_blk (n := 8) (c := 8) (o := 0) (size := 1) (xs := [byteV b0, byteV b1, byteV b2, byteV b3, byteV b4, byteV b5, byteV b6, byteV b7]) (hu.blk BN.out (fun f => f)) (by omega) (by unfold maxLen; omega) rfl (fun j u hu => by rw [Nat.zero_add, List.getElem?_toArray]; exact hu))
  go_region_law
    (first
      | (refine step_append_new _ (by rfl) (.tmp 5) (.tmp 6) _ (by rfl) 5 i1 _ 1 1 Tryz.underlying52 hi1 hy0 hy1 hy2 rfl (.slice (some ⟨W0.heap.size, 0, none⟩) 0 0) (by rfl) (by exact N0.out.1) (.slice A bs.length c) bs.length (bs.map byteV) (by rfl) (by exact HR.out.keep UD.out) OB.out LB.out.1 LB.out.2 ?_; intro A5 c5 w5 hown hupd hnew; have N5 := Lib.hid (NewR.app0 N0.out hown hupd hnew); clear hown hupd hnew)
      | (refine step_append_to _ (by rfl) (.tmp 7) (.tmp 8) _ (by rfl) 5 i1 _ 1 1 Tryz.underlying52 hi1 hy0 hy1 hy2 rfl (.slice A5 bs.length c5) bs.length (bs.map byteV) (by rfl) N5.out.1 (.slice (some ⟨w.heap.size, 0, none⟩) 8 8) 8 [byteV b0, byteV b1, byteV b2, byteV b3, byteV b4, byteV b5, byteV b6, byteV b7] (by rfl) (KF.out _ N5.out.2.2) (by simp [byteV, Value.oneCell']) LC.out.1 LC.out.2 ?_; intro A6 c6 w6 hown hupd hnew; have N6 := Lib.hid (NewR.app N5.out hown hupd hnew); clear hown hupd hnew))
  all_goals
    go_wp2
    go_ret
    have hN := N6.out.from_ UW.out
    refine ⟨A6, c6, by rw [List.length_append]; rfl, ?_⟩
    unfold NewO
    rw [List.length_append, List.map_append]
    exact hN
end

section
open Go.RowKit Go.Sort

/-- Nothing that was there has turned, and the tape went on. -/
def Gr (w w' : World) : Prop := Upd NoF w w' ∧ w.drawn ≤ w'.drawn
theorem Gr.refl (w : World) : Gr w w := ⟨Upd.refl _ _, Nat.le_refl _⟩
theorem Gr.trans {w w' w'' : World} (h : Gr w w') (k : Gr w' w'') : Gr w w'' := ⟨h.1.trans k.1 (fun _ _ f => f), Nat.le_trans h.2 k.2⟩
theorem Gr.alloc {w w' : World} (h : Gr w w') (o : Obj) : Gr w (w'.alloc o) := ⟨h.1.alloc o, h.2⟩
theorem Gr.drew {w w' : World} (h : Gr w w') : Gr w w'.drew := ⟨h.1.drew, Nat.le_succ_of_le h.2⟩
theorem Gr.toGrow {w w' : World} (h : Gr w w') : ∃ q os, w' = grow (w.drewN q) os := by
  obtain ⟨⟨h1, h2, h3, h4, h5⟩, h6⟩ := h
  refine ⟨w'.drawn - w.drawn, w'.heap.extract w.heap.size w'.heap.size, ?_⟩
  have hh : w'.heap = w.heap ++ w'.heap.extract w.heap.size w'.heap.size := by
    apply Array.ext'
    rw [Array.toList_append, Array.toList_extract]
    apply List.ext_getElem?
    intro k
    rcases Nat.lt_or_ge k w.heap.size with hk | hk
    · rw [List.getElem?_append_left (by simpa using hk)]
      have := h5 k hk (fun f => f)
      simpa using this
    · rw [List.getElem?_append_right (by simpa using hk)]
      simp only [Array.length_toList, List.extract_eq_take_drop, List.getElem?_take, List.getElem?_drop, Array.getElem?_toList]
      rw [show w.heap.size + (k - w.heap.size) = k by omega]
      split
      · rfl
      · rw [Array.getElem?_eq_none (by omega)]
  cases w with
  | mk heap tape drawn os output =>
    cases w' with
    | mk heap' tape' drawn' os' output' =>
      dsimp only at h1 h2 h3 h4 h6 hh ⊢
      subst h1 h2 h3
      unfold grow World.drewN
      dsimp only
      rw [← hh, show drawn + (drawn' - drawn) = drawn' by omega]
set_option maxRecDepth 100000 in
set_option maxHeartbeats 2000000 in
theorem hNumber_gr (l : List UInt8) (hl : l.length = 8) (w : World) : Calls Tryz.prog 77 #[nameV l] w fun e w' => e = .returned (u64V (be l)) ∧ Gr w w' := by
  have IX := Lib.hid (index_name l hl)
  obtain ⟨b0, b1, b2, b3, b4, b5, b6, b7, l', rfl⟩ := eight l (by omega)
  obtain rfl : l' = [] := by simpa using hl
  have HL := Lib.hid hl
  clear hl
  go_enter Tryz.func77, Tryz.ntmps77
  go_wp2
  go_loop [3, 7] (fun x i => NumRel [b0, b1, b2, b3, b4, b5, b6, b7] x i) (fun _ i => 8 - (intOf i).toNat)
  case atStart => exact ⟨0, by omega, rfl, rfl⟩
  case round =>
    obtain ⟨k, hk, rfl, rfl⟩ := hrel
    by_cases hlt : k < 8
    · obtain ⟨b, hb⟩ : ∃ b, [b0, b1, b2, b3, b4, b5, b6, b7][k]? = some b := ⟨_, List.getElem?_eq_getElem hlt⟩
      have IXk : ∀ w, (Instr.index 28 (.agg #[byteV b0, byteV b1, byteV b2, byteV b3, byteV b4, byteV b5, byteV b6, byteV b7]) (.int .i64 (k : Int))).run Tryz.prog w = .ok (byteV b) w := IX.out k b hb
      have HE := Lib.hid (be_take_succ _ k b hb)
      have HO := Lib.hid (or_byte (be (List.take k [b0, b1, b2, b3, b4, b5, b6, b7])) b (by
        have h1 := be_take_lt [b0, b1, b2, b3, b4, b5, b6, b7] k
        have h2 : (256 : Nat) ^ k ≤ 256 ^ 7 := Nat.pow_le_pow_right (by omega) (by omega)
        omega))
      have t1 : decide ((k : Int) < 8) = true := by simp; omega
      have t1' : decide (k < 8) = true := by simp; omega
      generalize be (List.take k [b0, b1, b2, b3, b4, b5, b6, b7]) = u at HE HO ⊢
      clear hb
      go_wp2
      go_round
      case rel =>
        refine ⟨k + 1, by omega, by go_num, ?_⟩
        rw [HE.out, wrap_u64_byte, HO.out]
      case measure => simp [intOf]; omega
    · have t1 : decide ((k : Int) < 8) = false := by simp; omega
      have t1' : decide (k < 8) = false := by simp; omega
      obtain rfl : k = 8 := by omega
      go_wp2
      go_ret
      exact ⟨rfl, (Gr.refl w).alloc _⟩

set_option maxRecDepth 100000 in
set_option maxHeartbeats 8000000 in
theorem CompareNames_gr {a b : List UInt8} (ha : a.length = 8) (hb : b.length = 8) (w : World) : Calls Tryz.prog 39 #[nameV a, nameV b] w fun e w' => e = .returned (.int .i64 (cmp3 (be a) (be b))) ∧ Gr w w' := by
  have HLN := Lib.hid (And.intro ha hb)
  obtain ⟨za, hza⟩ : ∃ x, (a.map byteV).toArray = x := ⟨_, rfl⟩
  obtain ⟨zb, hzb⟩ : ∃ x, (b.map byteV).toArray = x := ⟨_, rfl⟩
  have HZa := Lib.hid hza
  have HZb := Lib.hid hzb
  rw [show nameV a = .agg za from congrArg Value.agg hza, show nameV b = .agg zb from congrArg Value.agg hzb]
  obtain ⟨W1, hW1⟩ : ∃ x, x = (w.alloc (.cells za 28)).alloc (.cells zb 28) := ⟨_, rfl⟩
  have UW := Lib.hid (show Gr w W1 from by rw [hW1]; exact ((Gr.refl w).alloc _).alloc _)
  have BA := Lib.hid (show Blk W1 w.heap.size 28 za from by rw [hW1]; exact (Blk.new w _ _).alloc _)
  have BB := Lib.hid (show Blk W1 (w.heap.size + 1) 28 zb from by rw [hW1]; have := Blk.new (w.alloc (.cells za 28)) 28 zb; rw [World.size_alloc] at this; exact this)
  have RA := Lib.hid (fun w' (hu : Upd NoF W1.drew w') => show w'.rangeAt w.heap.size 0 (a.map byteV) from by have hb2 := ((Upd.refl NoF W1).drew.trans hu (fun _ _ f => f)).blk BA.out (fun f => f); rw [← HZa.out] at hb2; exact range_blk hb2)
  have RB := Lib.hid (fun w' (hu : Upd NoF W1.drew w') => show w'.rangeAt (w.heap.size + 1) 0 (b.map byteV) from by have hb2 := ((Upd.refl NoF W1).drew.trans hu (fun _ _ f => f)).blk BB.out (fun f => f); rw [← HZb.out] at hb2; exact range_blk hb2)
  clear ha hb hza hzb
  go_enter Tryz.func39, Tryz.ntmps39
  go_wp2_with fail
  rw [← hW1]
  obtain ⟨X, hX⟩ : ∃ x, w.heap.size = x := ⟨_, rfl⟩
  rw [hX] at RA RB ⊢
  clear hW1 hX
  refine wp_region_rgw (rgR [isV (.agg za), isV (u64V (be a : Int)), isV (.agg zb), isV (u64V (be b : Int)), isV (.int .i64 (cmp3 (be a) (be b))), isV (.int .i64 (cmp3 (be a) (be b)))]) (fun w w' => Gr w w') (fun _ wq => Gr W1.drew wq) (by kernel_rfl) (by kernel_rfl) (by kernel_rfl) (by rfl) (fun w => Gr.refl _) (rgR_keep (by
    intro p hp; simp only [List.mem_cons, List.not_mem_nil, or_false] at hp; rcases hp with rfl | rfl | rfl | rfl | rfl | rfl <;> first | exact stb_isV _ | exact stb_any)) (Gr.refl _) ?_ ?_
  · refine ⟨?_, ?_, ?_, ?_, ?_, ?_, trivial⟩
    · refine fun ρ w' L hW hLi hcl hd hdep hext hc hg hf => ?_
      rw [if_pos (show wantedR _ _ _ = true from rfl)]
      have e2 : ρ (.tmp 2) = .pointer (some ⟨X, 0, none⟩) := hext 2 (by kernel_rfl)
      clear hdep hext
      refine od_load_row 28 (.tmp 2) rfl (X) 0 e2 (a.map byteV) _ (RA.out w' hW.1) Tryz.underlying28 rfl (by rw [show (Tryz.prog.info? 28).map (·.size) = some 8 from by kernel_rfl]; simp [HLN.out.1]) ?_
      rw [HZa.out]
      exact ⟨rfl, Gr.refl _, hW⟩
    · refine fun ρ w' L hW hLi hcl hd hdep hext hc hg hf => ?_
      rw [if_pos (show wantedR _ _ _ = true from rfl)]
      have e5 : ρ (.tmp 5) = .agg za := hdep 0 _ rfl (by kernel_rfl)
      clear hdep hext
      have CL := Lib.hid (show Calls Tryz.prog 77 #[.agg za] w' _ from by rw [← HZa.out]; exact hNumber_gr a HLN.out.1 w')
      have HW := Lib.hid hW
      clear hW hcl hd hLi
      unfold OpDone
      go_simp
      refine CL.out.mono ?_
      rintro e w2 ⟨rfl, hu⟩
      exact ⟨_, rfl, rfl, hu, HW.out.trans hu⟩
    · refine fun ρ w' L hW hLi hcl hd hdep hext hc hg hf => ?_
      rw [if_pos (show wantedR _ _ _ = true from rfl)]
      have e3 : ρ (.tmp 3) = .pointer (some ⟨X + 1, 0, none⟩) := hext 3 (by kernel_rfl)
      clear hdep hext
      refine od_load_row 28 (.tmp 3) rfl (X + 1) 0 e3 (b.map byteV) _ (RB.out w' hW.1) Tryz.underlying28 rfl (by rw [show (Tryz.prog.info? 28).map (·.size) = some 8 from by kernel_rfl]; simp [HLN.out.2]) ?_
      rw [HZb.out]
      exact ⟨rfl, Gr.refl _, hW⟩
    · refine fun ρ w' L hW hLi hcl hd hdep hext hc hg hf => ?_
      rw [if_pos (show wantedR _ _ _ = true from rfl)]
      have e7 : ρ (.tmp 7) = .agg zb := hdep 2 _ rfl (by kernel_rfl)
      clear hdep hext
      have CL := Lib.hid (show Calls Tryz.prog 77 #[.agg zb] w' _ from by rw [← HZb.out]; exact hNumber_gr b HLN.out.2 w')
      have HW := Lib.hid hW
      clear hW hcl hd hLi
      unfold OpDone
      go_simp
      refine CL.out.mono ?_
      rintro e w2 ⟨rfl, hu⟩
      exact ⟨_, rfl, rfl, hu, HW.out.trans hu⟩
    · refine fun ρ w' L hW hLi hcl hd hdep hext hc hg hf => ?_
      rw [if_pos (show wantedR _ _ _ = true from rfl)]
      have e6 : ρ (.tmp 6) = u64V (be a : Int) := hdep 1 _ rfl (by kernel_rfl)
      have e8 : ρ (.tmp 8) = u64V (be b : Int) := hdep 3 _ rfl (by kernel_rfl)
      clear hdep hext
      have CL := Lib.hid (cmpU64_any (be a : Int) (be b : Int) w')
      have HW := Lib.hid hW
      clear hW hcl hd hLi
      unfold OpDone
      go_simp
      refine CL.out.mono ?_
      rintro e w2 ⟨rfl, hu⟩
      exact ⟨_, rfl, rfl, by rw [hu]; exact Gr.refl _, by rw [hu]; exact HW.out⟩
    · refine fun ρ w' L hW hLi hcl hd hdep hext hc hg hf => ?_
      rw [if_pos (show wantedR _ _ _ = true from rfl)]
      have e9 : ρ (.tmp 9) = .int .i64 (cmp3 (be a) (be b)) := hdep 4 _ rfl (by kernel_rfl)
      clear hdep hext hcl
      have HW := Lib.hid hW
      clear hW
      unfold OpDone
      go_simp
      exact ⟨rfl, Gr.refl _, HW.out⟩
  intro vs W3 L3 hL3 hW3 hR
  have hv0 : vs 0 = .agg za := hR 0 _ rfl
  have hv1 : vs 1 = u64V (be a : Int) := hR 1 _ rfl
  have hv2 : vs 2 = .agg zb := hR 2 _ rfl
  have hv3 : vs 3 = u64V (be b : Int) := hR 3 _ rfl
  have hv4 : vs 4 = .int .i64 (cmp3 (be a) (be b)) := hR 4 _ rfl
  have hv5 : vs 5 = .int .i64 (cmp3 (be a) (be b)) := hR 5 _ rfl
  simp only [putAll, Act.put, List.setIfInBounds_toArray, List.set_cons_zero, List.set_cons_succ, hv0, hv1, hv2, hv3, hv4, hv5]
  clear hR hv0 hv1 hv2 hv3 hv4 hv5
  go_wp2_with fail
  go_ret
  exact ⟨rfl, UW.out.trans ((Gr.refl W1).drew.trans hW3)⟩
end

section
open Go.RowKit Go.Shelf Go.Sort Go.Lib

/-- A name: eight bytes. -/
abbrev N8 : Type := { l : List UInt8 // l.length = 8 }
instance : Inhabited N8 := ⟨⟨List.replicate 8 0, rfl⟩⟩
def encN (x : N8) : List Value := x.1.map byteV
def cmpN (x y : N8) : Int := cmp3 (be x.1) (be y.1)
theorem ltN (x y : N8) : ltOf cmpN x y = decide (be x.1 < be y.1) := by
  unfold ltOf cmpN cmp3
  by_cases h : be x.1 < be y.1
  · rw [if_pos (by omega)]; simp [h]
  · rw [if_neg (by omega)]
    by_cases h2 : be y.1 < be x.1
    · rw [if_pos (by omega)]; simp [h]
    · rw [if_neg (by omega)]; simp [h]
theorem swoN : SWO (ltOf cmpN) where
  irrefl x := by rw [ltN]; simp
  trans x y z h1 h2 := by rw [ltN] at *; simp at *; omega
  ntrans x y z h1 h2 := by rw [ltN] at *; simp at *; omega
theorem cmpLaysN (blk off size : Nat) (w : World) : CmpLays Tryz.prog 39 #[] encN 8 cmpN blk off size w := fun _ _ _ _ x y =>
  (CompareNames_gr x.2 y.2 _).mono fun _ _ ⟨he, hg⟩ => ⟨he, hg.toGrow⟩
theorem flatK_list {α : Type} [Inhabited α] (enc : α → List Value) (k : Nat) (hk : ∀ x, (enc x).length = k) (d : Array α) : (flatK enc k d).toList = (d.toList.map enc).flatten := by
  have hlen : ((d.toList.map enc).flatten).length = d.size * k := by
    rw [List.length_flatten, List.map_map]
    have : (d.toList.map (List.length ∘ enc)) = List.replicate d.size k := by
      rw [List.eq_replicate_iff]
      refine ⟨by simp, fun b hb => ?_⟩
      obtain ⟨x, -, rfl⟩ := List.mem_map.1 hb
      exact hk x
    rw [this, List.sum_replicate_nat]
  apply List.ext_getElem?
  intro t
  by_cases ht : t < d.size * k
  · have k0 : 0 < k := by
      rcases Nat.eq_zero_or_pos k with h | h
      · subst h; simp at ht
      · exact h
    have hi : t / k < d.size := Nat.div_lt_of_lt_mul (by rw [Nat.mul_comm]; exact ht)
    have hj : t % k < k := Nat.mod_lt _ k0
    have hr : (d.toList.map enc)[t / k]? = some (enc d[t / k]) := by
      rw [List.getElem?_map, Array.getElem?_toList, Array.getElem?_eq_getElem hi]; rfl
    have h1 := flatten_at (k := k) (rows := d.toList.map enc) (fun r hr => by obtain ⟨x, -, rfl⟩ := List.mem_map.1 hr; exact hk x) hr hj
    rw [show t / k * k + t % k = t from by rw [Nat.mul_comm]; exact Nat.div_add_mod t k] at h1
    rw [h1, Array.getElem?_toList, Array.getElem?_eq_getElem (by rw [size_flatK]; exact ht)]
    have h2 := get_flatK enc k d t ht
    rw [getElem!_pos _ t (by rw [size_flatK]; exact ht), getElem!_pos d (t / k) hi, getElem!_pos _ (t % k) (by rw [hk]; exact hj)] at h2
    rw [h2, List.getElem?_eq_getElem (by rw [hk]; exact hj)]
  · rw [List.getElem?_eq_none (by rw [Array.length_toList, size_flatK]; omega), List.getElem?_eq_none (by omega)]
theorem upd_sortK {α : Type} [Inhabited α] (enc : α → List Value) (k : Nat) (w : World) (blk off m : Nat) (dk : Array α) (os : Array Obj) : Upd (fun k => k = blk) w (sortWorldK enc k w blk off m dk os) := by
  refine ⟨rfl, rfl, rfl, ?_, fun k hk hn => ?_⟩
  · show w.heap.size ≤ (w.heap.modify blk _ ++ os).size
    rw [Array.size_append, Array.size_modify]
    omega
  · show (w.heap.modify blk _ ++ os)[k]? = w.heap[k]?
    rw [Array.getElem?_append_left (by rw [Array.size_modify]; exact hk), Array.getElem?_modify, if_neg (fun e => hn e.symm)]
theorem blk_sortK {α : Type} [Inhabited α] (enc : α → List Value) (k : Nat) {w : World} {blk : Nat} {t : TypeId} {cur : Array Value} (h : Blk w blk t cur) (off m : Nat) (dk : Array α) (os : Array Obj) : Blk (sortWorldK enc k w blk off m dk os) blk t (putCells id off (flatK enc k dk) cur) := by
  show (w.heap.modify blk _ ++ os)[blk]? = _
  rw [Array.getElem?_append_left (by rw [Array.size_modify]; exact h.lt), Array.getElem?_modify, if_pos rfl]
  have h' : w.heap[blk]? = some (.cells cur t (0, 0)) := h
  rw [h']
  rfl
/-- The names of a list, each with its length. -/
def toN8 (l : List (List UInt8)) (h8 : All8 l) : List N8 := l.attach.map fun x => ⟨x.1, h8 x.1 x.2⟩
theorem toN8_val {l : List (List UInt8)} (h8 : All8 l) : (toN8 l h8).map (·.1) = l := by
  unfold toN8
  rw [List.map_map]
  show l.attach.map (fun x => x.1) = l
  exact List.attach_map_subtype_val l
theorem encN_flat (l : List N8) : (l.map encN).flatten = ((l.map (·.1)).map (·.map byteV)).flatten := by rw [List.map_map]; rfl
set_option maxRecDepth 100000 in
theorem SortNames_any {w : World} {A : Option Addr} {c n : Nat} {l : List (List UInt8)} (h8 : All8 l) (hl : l.length = n) (h : Own w 28 8 (.slice A n c) n ((l.map (·.map byteV)).flatten)) (hs : n ≤ 100000000) :
    Calls Tryz.prog 38 #[.slice A n c, (.func (.func 39) #[] #[])] w fun e w' => e = .returned (.tuple #[]) ∧ ∃ m : List (List UInt8), m.Perm l ∧ m.Pairwise (fun a b => be a ≤ be b) ∧ Own w' 28 8 (.slice A n c) n ((m.map (·.map byteV)).flatten) ∧ Upd (OwnB (.slice A n c)) w w' := by
  rcases Nat.eq_zero_or_pos n with h0 | h0
  · subst h0
    have hl : l = [] := List.eq_nil_of_length_eq_zero hl
    subst hl
    have hc := AnyF.slices_SortFunc_none (P := Tryz.prog) (ρ := Tryz.sortNames_ren) { Tryz.sortNames with } A c ((.func (.func 39) #[] #[])) w
    refine Calls.mono (show Calls Tryz.prog 38 _ _ _ from hc) ?_
    rintro e w' ⟨rfl, rfl⟩
    exact ⟨rfl, [], List.Perm.refl _, List.Pairwise.nil, h, Upd.refl _ _⟩
  · rcases h.2 with ⟨_, hz⟩ | ⟨g, cap, cur, hv, hb, hn, hcm, hcs, hx⟩
    · omega
    injection hv with hA _ hc
    subst hA
    subst hc
    obtain ⟨d, hd⟩ : ∃ d, d = (toN8 l h8).toArray := ⟨_, rfl⟩
    have hdl : d.toList = toN8 l h8 := by rw [hd]
    have hds : d.size = n := by rw [hd, ← hl, ← congrArg List.length (toN8_val h8)]; simp
    have hf : (flatK encN 8 d).toList = (l.map (·.map byteV)).flatten := by
      rw [flatK_list encN 8 (fun x => by simp [encN, x.2]), hdl, encN_flat, toN8_val]
    have hfs : (flatK encN 8 d).size = n * 8 := by rw [size_flatK, hds]
    have hH : HoldsK encN 8 w g 0 d := by
      intro j hj
      refine ⟨?_, hb.frozen _⟩
      rw [Nat.zero_add, hb.cell]
      have h1 : (flatK encN 8 d).toList[j]? = some (flatK encN 8 d)[j]! := by
        rw [Array.getElem?_toList, Array.getElem?_eq_getElem hj, getElem!_pos _ j hj]
      rw [hf, ← hx, List.getElem?_take] at h1
      rw [hfs] at hj
      rw [if_pos hj] at h1
      rw [← Array.getElem?_toList]
      exact h1
    have hcon := AnyQ.slices_SortFunc (P := Tryz.prog) (ρ := Tryz.sortNames_ren) Tryz.sortNames 8 (fun w => by kernel_rfl) (fun w => by kernel_rfl) encN (fun x => by simp [encN, x.2]) (fun x v hv => by obtain ⟨b, -, rfl⟩ := List.mem_map.1 hv; rfl) cmpN swoN 39 #[] g 0 c d w (enters_of Tryz.func39 (by kernel_rfl) rfl) (cmpLaysN _ _ _ _) hH hb.lt (by rw [hds]; omega)
    rw [hds] at hcon
    refine Calls.mono (show Calls Tryz.prog 38 #[.slice (some ⟨g, 0, none⟩) n c, (.func (.func 39) #[] #[])] w _ from hcon) ?_
    rintro e w' ⟨rfl, d', q, os, ⟨p1, _, p3⟩, hsrt, rfl⟩
    have hd' : d'.size = n := by rw [p1, hds]
    have hperm : d'.toList.Perm d.toList := by
      have q1 : d'.extract 0 n = d' := by rw [← hd']; simp
      have q2 : d.extract 0 n = d := by rw [← hds]; simp
      rw [q1, q2] at p3
      exact p3
    refine ⟨rfl, d'.toList.map (·.1), ?_, ?_, ?_, ?_⟩
    · have := hperm.map (·.1)
      rw [hdl, toN8_val] at this
      exact this
    · rw [List.pairwise_map, List.pairwise_iff_getElem]
      intro i j hi hj hij
      have := hsrt i j (Nat.zero_le _) hij (by rw [← hd']; simpa using hj)
      rw [ltN] at this
      have f1 : d'[i]! = d'.toList[i] := by rw [getElem!_pos _ i (by simpa using hi)]; simp
      have f2 : d'[j]! = d'.toList[j] := by rw [getElem!_pos _ j (by simpa using hj)]; simp
      rw [f1, f2] at this
      have := of_decide_eq_false this
      omega
    · have hf' : (flatK encN 8 d').toList = ((d'.toList.map (·.1)).map (·.map byteV)).flatten := by
        rw [flatK_list encN 8 (fun x => by simp [encN, x.2]), encN_flat]
      have hfs' : (flatK encN 8 d').size = n * 8 := by rw [size_flatK, hd']
      rw [← hf']
      refine ⟨by simp [hd'], .inr ⟨g, c, _, rfl, blk_sortK encN 8 hb 0 q d' os, hn, hcm, ?_, ?_⟩⟩
      · simp only [putCells, Array.size_mapIdx]
        exact hcs
      · apply List.ext_getElem?
        intro i
        rw [List.getElem?_take]
        have hnc : n * 8 ≤ cur.size := Nat.le_trans (Nat.mul_le_mul_right _ hn) hcs
        by_cases hi : i < n * 8
        · rw [if_pos hi]
          simp only [putCells, Array.getElem?_toList, Array.getElem?_mapIdx]
          rw [Array.getElem?_eq_getElem (show i < cur.size by omega)]
          simp only [Option.map_some]
          rw [if_pos (by omega), Nat.sub_zero, Array.getElem?_eq_getElem (by omega), getElem!_pos _ i (by omega)]
          rfl
        · rw [if_neg hi, Array.getElem?_toList, Array.getElem?_eq_none (by omega)]
    · exact (upd_sortK encN 8 w g 0 q d' os).mono (fun k _ e => by rw [show k = g from e]; simp [OwnB, Value.ownBlock])
end
end Go.Proofs.YtengcmfdfmnacaaGreat
