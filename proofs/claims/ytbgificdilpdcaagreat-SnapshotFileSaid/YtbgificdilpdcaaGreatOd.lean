/- Single operations over rows of cells: loads, stores, new variables, calls, append, copy. No condition. -/
import Derived.Test.YtbgificdilpdcaaGreatJn10
import Derived.Test.YtbgificdilpdcaaGreatJn1
import Derived.Deep.MidRow
namespace Go.Proofs.YtbgificdilpdcaaGreat
open Go.RowKit

section
variable {g : Nat}
theorem Upd.setCells {F : Nat → Prop} {w0 : World} : ∀ (vs : List Value) (o : Nat) {w : World}, Upd F w0 w → (F g ∨ w0.heap.size ≤ g) → Upd F w0 (w.setCells g o vs)
  | [], _, _, h, _ => h
  | v :: r, o, _, h, hg => Upd.setCells r (o + 1) (h.setCell (p := ⟨g, o, none⟩) hg v) hg
theorem Blk.setCells {t : TypeId} : ∀ (vs : List Value) (o : Nat) {w : World} {cur : Array Value}, Blk w g t cur → ∃ cs', Blk (w.setCells g o vs) g t cs' ∧ cs'.size = cur.size
  | [], _, _, cur, h => ⟨cur, h, rfl⟩
  | v :: r, o, w, cur, h => by
    obtain ⟨cs', h1, h2⟩ := Blk.setCells r (o + 1) (h.put o v)
    exact ⟨cs', h1, by rw [h2]; simp⟩
end
section
variable {w : World} {g : Nat} {t : TypeId}
theorem Blk.there {cur : Array Value} (h : Blk w g t cur) {o n : Nat} (hn : o + n ≤ cur.size) : w.there g o n := fun j hj => by
  refine ⟨?_, h.frozen _⟩
  rw [h.cell, Array.getElem?_eq_getElem (by omega)]
  rfl
theorem Blk.setAll {cur cells : Array Value} (h : Blk w g t cur) (hs : cur.size = cells.size) : Blk (w.setCells g 0 cells.toList) g t cells := by
  obtain ⟨cs', h1, h2⟩ := h.setCells (vs := cells.toList) (o := 0)
  have : cs' = cells := by
    apply Array.ext (by omega)
    intro i hi hj
    have e1 := h1.cell i
    have e2 := World.cell?_setCells_in g cells.toList 0 w (fun j hj => (h.there (o := 0) (n := cells.toList.length) (by simp; omega) j hj).1) i (by simpa using hj)
    rw [Nat.zero_add] at e2
    rw [e2, Array.getElem?_eq_getElem hi] at e1
    have e1 := Option.some.inj e1
    rw [← e1]
    simp
  rw [this] at h1
  exact h1
theorem heap_setCells : ∀ (vs : List Value) (o : Nat) (w : World), (w.setCells g o vs).heap.size = w.heap.size
  | [], _, _ => rfl
  | v :: r, o, w => by rw [World.setCells, heap_setCells r]; simp [World.setCell]
end

section
variable {P : Program} {o : Oper} {ρ : Operand → Value} {w : World} {post : Value → World → Prop}
theorem od_load_row (ty : TypeId) (x : Operand) (ho : o.op = .load ty x) (b off : Nat) (hx : ρ x = .pointer (some ⟨b, off, none⟩)) (cs : List Value) (d : TypeDesc) (hc : w.rangeAt b off cs) (hu : P.underlying ty = some d) (hd : d.isRow = true) (hi : (P.info? ty).map (·.size) = some cs.length) (hp : post (.agg cs.toArray) w) : OpDone P o ρ w post := by
  unfold OpDone execOp
  simp only [ho, hx, Sem.run_bind, Sem.run_pure, run_loadAt_mid w b off ty cs d hc hu hd hi, Result.andThen_ok]
  exact hp
theorem od_store_row (ty : TypeId) (x y : Operand) (ho : o.op = .store ty x y) (g : Nat) (hx : ρ x = .pointer (some ⟨g, 0, none⟩)) (cells : Array Value) (hy : ρ y = .agg cells) (t : TypeId) (cur : Array Value) (hb : Blk w g t cur) (hs : cur.size = cells.size) (hi : (P.info? ty).map (·.size) = some cells.size) (h1 : cells.all (·.oneCell') = true)
    (hp : ∀ w', Blk w' g t cells → Upd (fun k => k = g) w w' → w'.heap.size = w.heap.size → post undef w') : OpDone P o ρ w post := by
  unfold OpDone execOp
  simp only [ho, hx, hy, Instr.storeAt, Instr.sureAddr, Sem.run_bind, Sem.run_pure, Result.andThen_ok, run_storeVar_mid w g 0 ty cells (hb.there (by omega)) hi h1]
  exact hp _ (hb.setAll hs) ((Upd.refl (fun k => k = g) w).setCells (g := g) _ _ (.inl rfl)) (heap_setCells _ _ _)
theorem od_alloc_row (ty : TypeId) (ho : o.op = .alloc ty) (zs : Array Value) (hz : ∀ w, (Instr.alloc ty true (.tuple #[])).run P w = .ok (.pointer (some ⟨w.heap.size, 0, none⟩)) (w.alloc (.cells zs ty)))
    (hp : ∀ w', Blk w' w.heap.size ty zs → Upd NoF w w' → w'.heap.size = w.heap.size + 1 → post (.pointer (some ⟨w.heap.size, 0, none⟩)) w') : OpDone P o ρ w post := by
  unfold OpDone execOp
  simp only [ho, Sem.run_bind, Sem.run_pure, hz, Result.andThen_ok]
  exact hp _ (Blk.new w ty zs) ((Upd.refl NoF w).alloc _) (by simp)
theorem od_append (s x : Operand) (t : TypeId) (ho : o.op = .call { callee := .builtin .append, args := #[s, x], argTypes := #[t, t] })
    (e : TypeId) (i : TypeInfo) (z : Value) (size bytes : Nat) (ht : P.underlying t = some (.slice e)) (hi : P.info? e = some i) (hz : i.zero = some z) (hsize : i.size = size) (hby : i.bytes = bytes) (hzs : z.cells.size = size)
    (v : Value) (n : Nat) (xs : List Value) (hs : ρ s = v) (hown : Own w e size v n xs) (u : Value) (m : Nat) (ys : List Value) (hx : ρ x = u) (hr : Rd w size u m ys) (h1 : ∀ u ∈ ys, u.oneCell' = true)
    (h63 : n + m ≤ maxLen) (hbytes : (n + m) * bytes ≤ 140737488355328)
    (hp : ∀ A c w', Own w' e size (.slice A (n + m) c) (n + m) (xs ++ ys) → Upd (OwnB v) w w' → (∀ k, OwnB (.slice A (n + m) c) k → OwnB v k ∨ w.heap.size ≤ k) → post (.slice A (n + m) c) w') : OpDone P o ρ w post := by
  obtain ⟨v', w', hrun, h2, h3, h4⟩ := run_append (P := P) w t o.type e i z size bytes ht hi hz hsize hby hzs v n xs hown u m ys hr h1 h63 hbytes
  unfold OpDone execOp
  simp only [ho, resolve, invoke, builtin, Sem.run_bind, Sem.run_pure, Result.andThen_ok, List.map_toArray, List.map_cons, List.map_nil, hs, hx, hrun]
  obtain ⟨A, c, rfl⟩ := h2.form
  exact hp A c w' h2 h3 h4
theorem od_build (ty : TypeId) (ps : Array (Nat × Operand)) (ho : o.op = .build ty ps) (vs : Array (Nat × Value)) (hv : ps.map (fun p => (p.1, ρ p.2)) = vs) {v : Value} {w' : World} (hr : (Instr.build ty vs).run P w = .ok v w') (hp : post v w') : OpDone P o ρ w post := by
  unfold OpDone execOp
  simp only [ho, hv, Sem.run_bind, Sem.run_pure, hr, Result.andThen_ok]
  exact hp
/-- One operation of a region that keeps its order. -/
theorem wpList_od {ops : Array Oper} {rest : List Oper} {a : Act} {Q : Exit → Act → World → Prop} (hgd : o.guard = none) (h : OpDone P o a.eval w post) (hk : ∀ v w', post v w' → wpList P ops Q rest (a.put o.dst v) w') : wpList P ops Q (o :: rest) a w :=
  wpList_plain hgd fun _ hK => h.wp (fun v w' hp => hK _ _ (hk v w' hp))
end

/-- A new variable of a row. -/
theorem wpList_alloc_row {P : Program} {o : Oper} {w : World} {ops : Array Oper} {rest : List Oper} {a : Act} {Q : Exit → Act → World → Prop} (hgd : o.guard = none) (ty : TypeId) (ho : o.op = .alloc ty) (zs : Array Value) (hz : ∀ w, (Instr.alloc ty true (.tuple #[])).run P w = .ok (.pointer (some ⟨w.heap.size, 0, none⟩)) (w.alloc (.cells zs ty)))
    (hk : ∀ w', Blk w' w.heap.size ty zs → Upd NoF w w' → w'.heap.size = w.heap.size + 1 → wpList P ops Q rest (a.put o.dst (.pointer (some ⟨w.heap.size, 0, none⟩))) w') : wpList P ops Q (o :: rest) a w :=
  wpList_od (post := fun v w' => wpList P ops Q rest (a.put o.dst v) w') hgd (od_alloc_row ty ho zs hz hk) (fun _ _ h => h)
/-- A whole row stored into a variable. -/
theorem wpList_store_row {P : Program} {o : Oper} {w : World} {ops : Array Oper} {rest : List Oper} {a : Act} {Q : Exit → Act → World → Prop} (hgd : o.guard = none) (ty : TypeId) (x y : Operand) (ho : o.op = .store ty x y) (g : Nat) (hx : a.eval x = .pointer (some ⟨g, 0, none⟩)) (cells : Array Value) (hy : a.eval y = .agg cells) (t : TypeId) (cur : Array Value) (hb : Blk w g t cur) (hs : cur.size = cells.size) (hi : (P.info? ty).map (·.size) = some cells.size) (h1 : cells.all (·.oneCell') = true)
    (hk : ∀ w', Blk w' g t cells → Upd (fun k => k = g) w w' → w'.heap.size = w.heap.size → wpList P ops Q rest (a.put o.dst undef) w') : wpList P ops Q (o :: rest) a w :=
  wpList_od (post := fun v w' => wpList P ops Q rest (a.put o.dst v) w') hgd (od_store_row ty x y ho g hx cells hy t cur hb hs hi h1 hk) (fun _ _ h => h)

def rgR (ps : List (Value → World → Prop)) (i : Nat) (v : Value) (w : World) : Prop := ps.getD i (fun _ _ => True) v w
def isV (x : Value) : Value → World → Prop := fun v _ => v = x
def anyV : Value → World → Prop := fun _ _ => True
def Stb (St : World → World → Prop) (p : Value → World → Prop) : Prop := ∀ v w w', p v w → St w w' → p v w'
theorem stb_isV {St : World → World → Prop} (x : Value) : Stb St (isV x) := fun _ _ _ h _ => h
theorem stb_any {St : World → World → Prop} : Stb St anyV := fun _ _ _ _ _ => trivial
theorem rgR_keep {St : World → World → Prop} {ps : List (Value → World → Prop)} (h : ∀ p ∈ ps, Stb St p) : ∀ i v w w', rgR ps i v w → St w w' → rgR ps i v w' := by
  intro i v w w' h1 h2
  unfold rgR at *
  rw [List.getD_eq_getElem?_getD] at *
  cases hi : ps[i]? with
  | none => trivial
  | some p =>
    rw [hi] at h1
    exact h p (List.mem_of_getElem? hi) v w w' h1 h2

/-! ### phases of a region -/
/-- Op a makes a variable, op b stores a row into it. -/
structure NewVar (w0 : World) (G : Nat) (t : TypeId) (row : Array Value) (a b : Nat) (L : Nat → Bool) (w : World) : Prop where
  upd : Upd NoF w0 w
  size : w0.heap.size = G
  before : L a = false → w.heap.size = G
  made : L a = true → ∃ cs, Blk w G t cs ∧ cs.size = row.size
  stored : L b = true → Blk w G t row
theorem NewVar.start {w0 : World} {G : Nat} (t : TypeId) (row : Array Value) (a b : Nat) (h : w0.heap.size = G) : NewVar w0 G t row a b (fun _ => false) w0 := ⟨Upd.refl _ _, h, fun _ => h, (fun e => by cases e), (fun e => by cases e)⟩
section
variable {w0 w w' : World} {G : Nat} {t : TypeId} {row : Array Value} {a b i : Nat} {L : Nat → Bool}
theorem NewVar.other (h : NewVar w0 G t row a b L w) (ha : a ≠ i) (hb : b ≠ i) : NewVar w0 G t row a b (fun j => j == i || L j) w := by
  refine ⟨h.upd, h.size, fun e => h.before ?_, fun e => h.made ?_, fun e => h.stored ?_⟩
  · simpa [ha] using e
  · simpa [ha] using e
  · simpa [hb] using e
theorem NewVar.alloc (h : NewVar w0 G t row a b L w) (hb : L b = false) (hab : b ≠ a) {zs : Array Value} (hz : zs.size = row.size) (hn : Blk w' G t zs) (hu : Upd NoF w w') : NewVar w0 G t row a b (fun j => j == a || L j) w' := by
  refine ⟨h.upd.trans hu (fun _ _ f => f), h.size, (fun e => by simp at e), fun _ => ⟨zs, hn, hz⟩, fun e => ?_⟩
  simp [hab, hb] at e
theorem NewVar.store (h : NewVar w0 G t row a b L w) (ha : L a = true) (hn : Blk w' G t row) (hu : Upd (fun k => k = G) w w') : NewVar w0 G t row a b (fun j => j == b || L j) w' := by
  refine ⟨h.upd.trans hu (fun k hk e => ?_), h.size, (fun e => by simp [ha] at e), fun _ => ⟨row, hn, rfl⟩, fun _ => hn⟩
  have e : k = G := e
  have := h.size
  omega
end
/-- Op b turns a block that is known whole. -/
structure ChgVar (w0 : World) (G : Nat) (t : TypeId) (cs0 cs1 : Array Value) (b : Nat) (L : Nat → Bool) (w : World) : Prop where
  upd : Upd (fun k => k = G) w0 w
  before : L b = false → Blk w G t cs0
  after : L b = true → Blk w G t cs1
theorem ChgVar.start {w0 : World} {G : Nat} {t : TypeId} {cs0 : Array Value} (cs1 : Array Value) (b : Nat) (h : Blk w0 G t cs0) : ChgVar w0 G t cs0 cs1 b (fun _ => false) w0 := ⟨Upd.refl _ _, fun _ => h, (fun e => by cases e)⟩
section
variable {w0 w w' : World} {G : Nat} {t : TypeId} {cs0 cs1 : Array Value} {b i : Nat} {L : Nat → Bool}
theorem ChgVar.other (h : ChgVar w0 G t cs0 cs1 b L w) (hb : b ≠ i) : ChgVar w0 G t cs0 cs1 b (fun j => j == i || L j) w := by
  refine ⟨h.upd, fun e => h.before ?_, fun e => h.after ?_⟩
  · simpa [hb] using e
  · simpa [hb] using e
theorem ChgVar.turn (h : ChgVar w0 G t cs0 cs1 b L w) (hn : Blk w' G t cs1) (hu : Upd (fun k => k = G) w w') : ChgVar w0 G t cs0 cs1 b (fun j => j == b || L j) w' :=
  ⟨h.upd.trans hu (fun _ _ f => f), (fun e => by simp at e), fun _ => hn⟩
end
end Go.Proofs.YtbgificdilpdcaaGreat
