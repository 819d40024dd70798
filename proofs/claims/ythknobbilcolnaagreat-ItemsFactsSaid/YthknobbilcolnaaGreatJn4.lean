/- Operations on abstract values: rows built, make, strings out of bytes, calls of builtins; all operations in one function. No condition. Types of whole numbers alone: their cells, the comparison of two rows of them. No condition. -/
import Derived.Test.YthknobbilcolnaaGreatJn3
import Derived.Laws.StructEq
namespace Go.Proofs.YthknobbilcolnaaGreat
section
open Go.RowKit

section
variable {P : Program} {F : Nat → Prop} {β β' : Loc} {H H' : List AObj} {w w' : World}

/-! ### rows built -/
theorem put_cells (off : Nat) : ∀ (l : List Value) (j : Nat) (cs : Array Value), off + j + l.length ≤ cs.size → (List.foldl (fun (cs : Array Value) (p : Value × Nat) => cs.setIfInBounds (off + p.2) p.1) cs (l.zipIdx j)).toList = cs.toList.take (off + j) ++ l ++ cs.toList.drop (off + j + l.length)
  | [], j, cs, h => by simp
  | v :: l, j, cs, h => by
    simp only [List.length_cons] at h
    simp only [List.zipIdx_cons, List.foldl_cons]
    rw [put_cells off l (j + 1) _ (by simp; omega)]
    have e1 : (cs.setIfInBounds (off + j) v).toList = cs.toList.set (off + j) v := by simp
    have hlt : off + j < cs.toList.length := by simp; omega
    rw [e1, ← Nat.add_assoc, List.take_set, List.drop_set_of_lt (by omega), List.take_succ_eq_append_getElem hlt, List.set_append_right _ _ (by simp; omega)]
    simp only [List.length_take, Array.length_toList, Nat.min_eq_left (show off + j ≤ cs.size by omega), Nat.sub_self, List.set_cons_zero, List.length_cons, List.append_assoc, List.cons_append, List.nil_append]
    rw [show off + j + 1 + l.length = off + j + (l.length + 1) by omega]

/-- Parts put into a row of cells. -/
def fillA (place : Nat → Option (Nat × Nat)) (cells : List AV) : List (Nat × AV) → Option (List AV)
  | [] => some cells
  | (i, a) :: rest => match place i with
    | none => none
    | some (off, size) => if a.cells.length = size ∧ off + size ≤ cells.length ∧ a.stA = true then fillA place (splice cells off a.cells) rest else none

theorem splice_both {cs az : List AV} {vs us : List Value} {off : Nat} (hoff : off + az.length ≤ cs.length) (h1 : vs.length = cs.length) (h2 : us.length = az.length) {R : AV → Value → Prop} (hv : ∀ (i : Nat) (a : AV) (v : Value), cs[i]? = some a → vs[i]? = some v → R a v) (hu : ∀ (i : Nat) (a : AV) (v : Value), az[i]? = some a → us[i]? = some v → R a v) :
    ∀ (i : Nat) (a : AV) (v : Value), (splice cs off az)[i]? = some a → (vs.take off ++ us ++ vs.drop (off + us.length))[i]? = some v → R a v := by
  intro i a v ha hv'
  rw [splice_get hoff] at ha
  have hv2 : (vs.take off ++ us ++ vs.drop (off + us.length))[i]? = if i < off then vs[i]? else if i < off + us.length then us[i - off]? else vs[i]? := by
    rw [List.append_assoc, List.getElem?_append, List.getElem?_append, List.length_take, Nat.min_eq_left (by omega)]
    split
    · rw [List.getElem?_take, if_pos (by assumption)]
    · split
      · rw [if_pos (by omega)]
      · rw [if_neg (by omega), List.getElem?_drop]; congr 1; omega
  rw [hv2, h2] at hv'
  split at ha
  · rw [if_pos (by assumption)] at hv'; exact hv i a v ha hv'
  · rw [if_neg (by assumption)] at hv'
    split at ha
    · rw [if_pos (by assumption)] at hv'; exact hu _ a v ha hv'
    · rw [if_neg (by assumption)] at hv'; exact hv i a v ha hv'

theorem fill_ok (place : Nat → Option (Nat × Nat)) : ∀ (parts : List (Nat × AV)) (vparts : List (Nat × Value)) (cs r : List AV) (C : Array Value), parts.length = vparts.length → (∀ (i : Nat) p q, parts[i]? = some p → vparts[i]? = some q → p.1 = q.1 ∧ V F β H w p.2 q.2) →
    C.toList.length = cs.length → Ones C.toList → (∀ (i : Nat) (a : AV) (v : Value), cs[i]? = some a → C.toList[i]? = some v → V F β H w a v) → fillA place cs parts = some r →
    ∃ C' : Array Value, Instr.fill place C vparts = some C' ∧ C'.toList.length = r.length ∧ Ones C'.toList ∧ ∀ (i : Nat) (a : AV) (v : Value), r[i]? = some a → C'.toList[i]? = some v → V F β H w a v
  | [], vparts, cs, r, C, hl, hp, h1, h2, h3, h => by
    cases vparts with
    | cons q l => simp at hl
    | nil =>
      simp only [fillA] at h
      cases h
      exact ⟨C, rfl, h1, h2, h3⟩
  | (i, a) :: parts, vparts, cs, r, C, hl, hp, h1, h2, h3, h => by
    cases vparts with
    | nil => simp at hl
    | cons q l =>
      obtain ⟨e1, e2⟩ := hp 0 _ _ rfl rfl
      obtain ⟨qi, qv⟩ := q
      simp only at e1 e2
      subst e1
      simp only [fillA] at h
      split at h
      · cases h
      · rename_i off size hpl
        split at h
        · rename_i hc
          obtain ⟨c1, c2, c3⟩ := hc
          obtain ⟨us, u1, u2, u3, u4⟩ := e2.st c3
          have hsz : qv.cells.size = us.length := by rw [u1]; simp
          have hput := put_cells off us 0 C (by simp at h1; omega)
          have hfold : Array.foldl (fun (cs : Array Value) (p : Value × Nat) => cs.setIfInBounds (off + p.2) p.1) C qv.cells.zipIdx = (C.toList.take off ++ us ++ C.toList.drop (off + us.length)).toArray := by
            apply Array.ext'
            rw [u1, ← Array.foldl_toList]
            simpa using hput
          have ih := fill_ok place parts l (splice cs off a.cells) r (C.toList.take off ++ us ++ C.toList.drop (off + us.length)).toArray (by simpa using hl) (fun j p q hp' hq' => hp (j + 1) p q hp' hq')
            (by rw [splice_len (by omega)]; simp at h1 ⊢; omega) (fun u hu => by
              simp only [List.mem_append] at hu
              rcases hu with (hu | hu) | hu
              · exact h2 u (List.mem_of_mem_take hu)
              · exact u3 u hu
              · exact h2 u (List.mem_of_mem_drop hu)) (by
              have := splice_both (R := V F β H w) (cs := cs) (az := a.cells) (vs := C.toList) (us := us) (off := off) (by omega) h1 u2 h3 u4
              simpa using this) h
          obtain ⟨C', k1, k2⟩ := ih
          refine ⟨C', ?_, k2⟩
          simp only [Instr.fill, hpl]
          have hnot : ¬ ((qv.cells.size ≠ size || decide (off + qv.cells.size > C.size)) = true) := by
            simp at h1 ⊢
            omega
          rw [if_neg hnot]
          have : (qv.cells.zipIdx.foldl (fun cs (c, j) => cs.setIfInBounds (off + j) c) C) = (C.toList.take off ++ us ++ C.toList.drop (off + us.length)).toArray := hfold
          rw [this]
          exact k1
        · cases h

def partsV (F : Nat → Prop) (β : Loc) (H : List AObj) (w : World) (ps : List (Nat × AV)) (vs : List (Nat × Value)) : Prop := ps.length = vs.length ∧ ∀ (i : Nat) p q, ps[i]? = some p → vs[i]? = some q → p.1 = q.1 ∧ V F β H w p.2 q.2

/-- The places of a struct's or an array's parts. -/
def placesA (P : Program) (t : TypeId) : Option (Nat → Option (Nat × Nat)) :=
  match P.underlying t with
  | some (.struct fields) => (pv P (fields.mapM fun f => do pure (f.offset, ← sizeOf f.type))).map fun places => (places[·]?)
  | some (.array _ elem) => (P.info? elem).map fun i => fun j => some (j * i.size, i.size)
  | _ => none
def buildA (P : Program) (t : TypeId) (parts : List (Nat × AV)) : Option AV :=
  match zeroA P t, placesA P t with
  | some (.agg zs), some place => (fillA place zs parts).map .agg
  | _, _ => none
theorem build_ok (hr : Rep F β H w) {t : TypeId} {parts : List (Nat × AV)} {vparts : Array (Nat × Value)} {a : AV} (hp : partsV F β H w parts vparts.toList) (h : buildA P t parts = some a) : Gives P F β H w (Instr.build t vparts) a H := by
  unfold buildA at h
  split at h
  · rename_i zs place hz hpl
    obtain ⟨r, hf, rfl⟩ := Option.map_eq_some_iff.1 h
    obtain ⟨v, z1, z2, -⟩ := zero_ok (P := P) (F := F) (β := β) (H := H) (w := w) hz
    cases z2 with
    | leaf h => exact h.elim
    | agg hl ho hv =>
      rename_i vs
      obtain ⟨C', k1, k2, k3, k4⟩ := fill_ok (F := F) (β := β) (H := H) (w := w) place parts vparts.toList zs r vs.toArray hp.1 hp.2 (by simpa using hl) (by simpa using ho) (by simpa using hv) hf
      have hV : V F β H w (.agg r) (.agg C') := by
        have := VR.agg (I := Im F β H w) (w := w) (L := LV β H) (cs := r) (vs := C'.toList) k2 k3 k4
        simpa using this
      refine Gives.same hr ?_ hV
      unfold placesA at hpl
      split at hpl
      · rename_i fields ht
        obtain ⟨places, hpv, rfl⟩ := Option.map_eq_some_iff.1 hpl
        have hm := run_pv (w := w) hpv
        simp only [Instr.build, Sem.run_bind, z1, Result.andThen_ok, run_underlying ht, hm, Value.cells, k1]
        rfl
      · rename_i n elem ht
        obtain ⟨i, hi, rfl⟩ := Option.map_eq_some_iff.1 hpl
        have hs : (sizeOf elem).run P w = .ok i.size w := by simp [sizeOf, typeInfo, hi]
        simp only [Instr.build, Sem.run_bind, z1, Result.andThen_ok, run_underlying ht, hs, Value.cells, k1]
        rfl
      · cases hpl
  · cases h

/-- n times a row of cells. -/
def reps {α : Type} (n : Nat) (zs : List α) : List α := (List.replicate n zs).flatten
theorem reps_len {α : Type} (n : Nat) (zs : List α) : (reps n zs).length = n * zs.length := by simp [reps]
theorem reps_get {α : Type} {zs : List α} : ∀ (n i : Nat), i < n * zs.length → (reps n zs)[i]? = zs[i % zs.length]?
  | 0, i, h => by simp at h
  | n + 1, i, h => by
    have : reps (n + 1) zs = zs ++ reps n zs := by simp [reps, List.replicate_succ]
    rw [this, List.getElem?_append]
    split
    · rw [Nat.mod_eq_of_lt (by assumption)]
    · rename_i hge
      rw [reps_get n (i - zs.length) (by rw [Nat.add_mul] at h; omega)]
      congr 1
      rw [← Nat.mod_eq_sub_mod (by omega)]
theorem zero_reps {zs : List Value} {n : Nat} (h : 0 < zs.length ∨ n * zs.length = 0) : (Array.range (n * zs.length)).map (zs.toArray[· % zs.toArray.size]!) = (reps n zs).toArray := by
  apply Array.ext
  · simp [reps_len]
  · intro i h1 h2
    simp at h1
    have hpos : 0 < zs.length := by
      rcases h with h | h
      · exact h
      · omega
    have hm : i % zs.length < zs.length := Nat.mod_lt _ hpos
    have := reps_get (zs := zs) n i h1
    simp only [Array.getElem_map, Array.getElem_range, List.size_toArray, List.getElem_toArray]
    rw [List.getElem?_eq_getElem (by rw [reps_len]; exact h1), List.getElem?_eq_getElem hm] at this
    rw [Option.some.inj this]
    simp [getElem!_pos, hm]

def buildSliceA (P : Program) (H : List AObj) (t : TypeId) (len : Nat) (parts : List (Nat × AV)) : Option (AV × List AObj) :=
  match P.underlying t with
  | some (.slice e) => match P.info? e, zeroA P e with
    | some i, some z => if len = 0 ∧ parts = [] then some (.nil0, H) else if z.cells.length = i.size ∧ 0 < i.size ∧ 0 < len ∧ len * i.size ≤ 16777216 then
        (fillA (fun j => some (j * i.size, i.size)) (reps len z.cells) parts).map fun r => (.own H.length 0 len i.size, H ++ [.row e false r]) else none
    | _, _ => none
  | _ => none
theorem rep_alloc (hr : Rep F β H w) (o : Obj) : Rep F β H (w.alloc o) ∧ Ext β H w β H (w.alloc o) :=
  ⟨hr.upd ((Upd.refl _ w).alloc o), Ext.of_upd ((Upd.refl _ w).alloc o) hr⟩
theorem fill_len (place : Nat → Option (Nat × Nat)) : ∀ (parts : List (Nat × AV)) (cs r : List AV), fillA place cs parts = some r → r.length = cs.length
  | [], cs, r, h => by simp only [fillA] at h; cases h; rfl
  | (i, a) :: parts, cs, r, h => by
    simp only [fillA] at h
    split at h
    · cases h
    · split at h
      · rename_i hc
        rw [fill_len place parts _ r h, splice_len (by omega)]
      · cases h
theorem buildSlice_ok (hr : Rep F β H w) {t : TypeId} {len : Nat} {parts : List (Nat × AV)} {vparts : Array (Nat × Value)} {a : AV} (hp : partsV F β H w parts vparts.toList) (h : buildSliceA P H t len parts = some (a, H')) : Gives P F β H w (Instr.buildSlice t len vparts) a H' := by
  unfold buildSliceA at h
  split at h
  · rename_i e ht
    split at h
    · rename_i i z hi hz
      obtain ⟨v, z1, z2, z3⟩ := zero_ok (P := P) (F := F) (β := β) (H := H) (w := w) hz
      have hs : (sizeOf e).run P w = .ok i.size w := by simp [sizeOf, typeInfo, hi]
      split at h
      · rename_i hc
        obtain ⟨rfl, rfl⟩ := hc
        cases h
        have hvp : vparts = #[] := by
          have := hp.1
          simp at this
          exact Array.eq_empty_of_size_eq_zero this.symm
        subst hvp
        obtain ⟨r1, r2⟩ := rep_alloc hr (.cells #[] e)
        refine ⟨.slice (some ⟨w.heap.size, 0, none⟩) 0 0, w.alloc (.cells #[] e), β, ?_, r1, r2, .nil0 _⟩
        have e0 : ∀ f : Nat → Value, Array.map f (Array.range 0) = #[] := fun f => Array.eq_empty_of_size_eq_zero (by simp)
        simp [Instr.buildSlice, Sem.run_bind, run_underlying ht, hs, Instr.fill, newRow, newObj, Sem.run, e0]
      · split at h
        · rename_i hc
          obtain ⟨c1, c2, c0, c3⟩ := hc
          obtain ⟨r, hf, hq⟩ := Option.map_eq_some_iff.1 h
          cases hq
          obtain ⟨us, u1, u2, u3, u4⟩ := z2.st z3
          have hlr := fill_len _ _ _ _ hf
          rw [reps_len, c1] at hlr
          have hul : us.length = i.size := by omega
          have pos : 0 < us.length := by omega
          obtain ⟨C', k1, k2, k3, k4⟩ := fill_ok (F := F) (β := β) (H := H) (w := w) (fun j => some (j * i.size, i.size)) parts vparts.toList (reps len z.cells) r (reps len us).toArray hp.1 hp.2 (by rw [reps_len]; simp [reps_len, u2]) (fun u hu => by
            simp [reps] at hu
            obtain ⟨l, hl, hu⟩ := hu
            exact u3 u (by rw [← hl.2]; exact hu)) (fun j a v ha hv => by
            have hj : j < len * us.length := by
              have := (List.getElem?_eq_some_iff.1 ha).1
              rw [reps_len] at this
              rw [u2]
              exact this
            simp only [] at hv
            rw [reps_get len j hj] at hv
            rw [reps_get len j (by rw [← u2]; exact hj), ← u2] at ha
            exact u4 _ a v ha hv) hf
          have he := zero_lt hz
          have hx := new_row_ok (P := P) (t := e) (t0 := e) (vs := C'.toList) hr (ty_c he) (Nat.mod_eq_of_lt he) k2 k3 k4
          obtain ⟨w', β', n1, n2, n3, n4⟩ := hx
          have hzr := zero_reps (zs := us) (n := len) (.inl pos)
          rw [hul] at hzr
          refine ⟨.slice (some ⟨w.heap.size, 0, none⟩) len len, w', β', ?_, n2, n3, .leaf ⟨by simp, ⟨sl0.some_ _ _ _, noMap_last (ty_c he)⟩, fun t' fz' cs' hr' => ?_⟩⟩
          · have hnot : ¬ (len * i.size > 2 ^ 24) := by omega
            have hsz : us.toArray.size = i.size := by simpa using hul
            rw [hsz] at hzr
            have hl0 : len * i.size ≠ 0 := Nat.ne_of_gt (Nat.mul_pos c0 c2)
            simp only [Instr.buildSlice, Sem.run_bind, run_underlying ht, hs, Result.andThen_ok, hnot, if_false, hl0, z1, Sem.run_pure, u1]
            rw [hsz, hzr, k1]
            simp only [Sem.run_bind]
            rw [show C' = C'.toList.toArray by simp]
            rw [n1]
            rfl
          · rw [get_last] at hr'
            cases hr'
            refine ⟨by omega, ?_, .inr ⟨_, _, len, n4, rfl, Nat.le_refl _, ?_, by rw [k2]; omega⟩⟩
            all_goals
              have : len * 1 ≤ len * i.size := Nat.mul_le_mul_left _ c2
              simp only [maxLen]
              omega
        · cases h
    · cases h
  · cases h
end
end

section
open Go.RowKit

section
variable {P : Program} {w : World}
/-- How many cells a type of whole numbers alone has. -/
def flatF (g : TypeId → Option Nat) : Nat → List Field → Option Nat
  | o, [] => some o
  | o, f :: fs => if f.offset = o ∧ f.name ≠ "_" then (match g f.type with | some s => flatF g (o + s) fs | none => none) else none
def flatT (P : Program) : Nat → TypeId → Option Nat
  | 0, _ => none
  | d + 1, t => match P.info? t, P.underlying t with
    | some i, some (.int _) => if i.size = 1 then some 1 else none
    | some i, some (.array n e) => match flatT P d e with
      | some k => if i.size = n * k ∧ (P.info? e).map (·.size) = some k then some i.size else none
      | none => none
    | some i, some (.struct fs) => if P.stoodInHeld t = false ∧ flatF (flatT P d) 0 fs.toList = some i.size then some i.size else none
    | _, _ => none
def rowB (P : Program) (t : TypeId) : Bool := match P.underlying t with | some d => d.isRow | none => false
def mkV (b : Bool) (xs : List Value) : Value := if b = true then .agg xs.toArray else xs.getD 0 (.bool false)
/-- Two rows of whole numbers of the same kinds. -/
def Kin (xs ys : List Value) : Prop := ∀ (i : Nat) (u v : Value), xs[i]? = some u → ys[i]? = some v → ∃ k a b, u = .int k a ∧ v = .int k b
theorem Kin.sub {xs ys : List Value} (h : Kin xs ys) (o n : Nat) : Kin ((xs.drop o).take n) ((ys.drop o).take n) := fun i u v h1 h2 => h (o + i) u v (sub_get h1) (sub_get h2)
theorem flatT_info {d s : Nat} {t : TypeId} (h : flatT P d t = some s) : ∃ i q, P.info? t = some i ∧ i.size = s ∧ P.underlying t = some q := by
  cases d with
  | zero => cases h
  | succ d =>
    unfold flatT at h
    split at h
    · split at h
      · cases h; exact ⟨_, _, by assumption, by assumption, by assumption⟩
      · cases h
    · split at h
      · split at h
        · cases h; exact ⟨_, _, by assumption, rfl, by assumption⟩
        · cases h
      · cases h
    · split at h
      · cases h; exact ⟨_, _, by assumption, rfl, by assumption⟩
      · cases h
    · cases h
theorem flatT_one {d s : Nat} {t : TypeId} (h : flatT P d t = some s) (hb : rowB P t = false) : s = 1 := by
  cases d with
  | zero => cases h
  | succ d =>
    unfold flatT at h
    unfold rowB at hb
    split at h
    · split at h
      · cases h; rfl
      · cases h
    · rename_i hu; rw [hu] at hb; cases hb
    · rename_i hu; rw [hu] at hb; cases hb
    · cases h
theorem flat_part {d s o : Nat} {t : TypeId} {xs : List Value} (h : flatT P d t = some s) (ho : o + s ≤ xs.length) (w : World) : (Go.part t xs.toArray o).run P w = .ok (mkV (rowB P t) ((xs.drop o).take s)) w := by
  obtain ⟨i, q, h1, rfl, h2⟩ := flatT_info h
  have hagg : (isAgg t).run P w = .ok q.isRow w := by
    unfold isAgg
    rw [Sem.run_bind, run_underlying h2 w]
    cases q <;> rfl
  have hb : rowB P t = q.isRow := by unfold rowB; rw [h2]
  rw [hb]
  cases hq : q.isRow with
  | true => simp [Go.part, Sem.run_bind, hagg, hq, sizeOf, typeInfo, h1, mkV]
  | false =>
    have hs := flatT_one h (by rw [hb, hq])
    have hlt : o < xs.length := by omega
    have e : xs[o]? = some xs[o] := List.getElem?_eq_getElem hlt
    simp [Go.part, Sem.run_bind, hagg, hq, mkV, hs, e, List.getD_eq_getElem?_getD, List.getElem?_drop]
theorem take_split {α : Type} (l : List α) (o k : Nat) : l.drop o = (l.drop o).take k ++ l.drop (o + k) := by rw [← List.drop_drop, List.take_append_drop]
theorem dec_split {xs ys : List Value} (o k : Nat) (_hx : o + k ≤ xs.length) (_hy : ys.length = xs.length) : (xs.drop o = ys.drop o) ↔ ((xs.drop o).take k = (ys.drop o).take k ∧ xs.drop (o + k) = ys.drop (o + k)) := by
  constructor
  · intro h
    exact ⟨by rw [h], by rw [← List.drop_drop, ← List.drop_drop, h]⟩
  · intro ⟨h1, h2⟩
    rw [take_split xs o k, take_split ys o k, h1, h2]
/-- The loop over the elements of two arrays. -/
theorem run_elems {e : TypeId} {k n D : Nat} {xs ys : List Value} (hp : ∀ (zs : List Value) (o : Nat), zs.length = n * k → o + k ≤ n * k → ∀ w, (Go.part e zs.toArray o).run P w = .ok (mkV (rowB P e) ((zs.drop o).take k)) w) (hx : xs.length = n * k) (hy : ys.length = n * k)
    (hq : ∀ (o : Nat), o + k ≤ n * k → ∀ w, ∃ b, (Op.equalIn D e (mkV (rowB P e) ((xs.drop o).take k)) (mkV (rowB P e) ((ys.drop o).take k))).run P w = .ok b w ∧ (b = true ↔ (xs.drop o).take k = (ys.drop o).take k)) {t : TypeId} (hu : P.underlying t = some (.array n e)) (hsz : ∀ w, (sizeOf e).run P w = .ok k w) (w : World) : ∃ b, (Op.equalIn (D + 1) t (.agg xs.toArray) (.agg ys.toArray)).run P w = .ok b w ∧ (b = true ↔ xs = ys) := by
  simp only [Op.equalIn, Sem.run_bind, run_underlying hu, Result.andThen_ok, hsz]
  simp only [Std.Legacy.Range.forIn_eq_forIn_range', Std.Legacy.Range.size, Nat.sub_zero, Nat.add_sub_cancel, Nat.div_one]
  have hbig : ∀ (m j : Nat), j + m = n → ∀ w, ∃ b : Bool, (b = true ↔ xs.drop (j * k) = ys.drop (j * k)) ∧ (forIn (List.range' j m) ((none, ()) : Option Bool × Unit) (fun i _ => do
              let u ← Go.part e xs.toArray (i * k)
              let v ← Go.part e ys.toArray (i * k)
              let b ← Op.equalIn D e u v
              if (!b) = true then pure (.done (some false, ())) else pure (.yield (none, ())) : Nat → Option Bool × Unit → Sem (ForInStep (Option Bool × Unit)))).run P w = .ok (if b = true then (none, ()) else (some false, ())) w := by
    intro m
    induction m with
    | zero =>
      intro j hj w
      have e1 : xs.drop (j * k) = [] := List.drop_of_length_le (by rw [hx, ← hj]; exact Nat.le_refl _)
      have e2 : ys.drop (j * k) = [] := List.drop_of_length_le (by rw [hy, ← hj]; exact Nat.le_refl _)
      exact ⟨true, by simp [e1, e2], by simp⟩
    | succ m ih =>
      intro j hj w
      have hle : j * k + k ≤ n * k := by rw [← Nat.succ_mul]; exact Nat.mul_le_mul_right k (by omega)
      obtain ⟨b, h1, h2⟩ := hq (j * k) hle w
      have e1 := hp xs (j * k) hx hle
      have e2 := hp ys (j * k) hy hle
      have hs := dec_split (xs := xs) (ys := ys) (j * k) k (by omega) (by omega)
      rw [← Nat.succ_mul] at hs
      cases b with
      | true =>
        obtain ⟨b', h3, h4⟩ := ih (j + 1) (by omega) w
        refine ⟨b', by rw [h3, hs]; simp [h2.1 rfl], ?_⟩
        rw [List.range'_succ, List.forIn_cons]
        simp only [Sem.run_bind, e1, e2, Result.andThen_ok, h1, Bool.not_true, Bool.false_eq_true, if_false, Sem.run_pure]
        exact h4
      | false =>
        refine ⟨false, by rw [hs]; simp; exact fun h => absurd (h2.2 h) (by simp), ?_⟩
        rw [List.range'_succ, List.forIn_cons]
        simp only [Sem.run_bind, e1, e2, Result.andThen_ok, h1, Bool.not_false, if_true, Sem.run_pure]
        rfl
  obtain ⟨b, h1, h2⟩ := hbig n 0 (by omega) w
  rw [Nat.zero_mul, List.drop_zero, List.drop_zero] at h1
  refine ⟨b, ?_, h1⟩
  rw [h2]
  cases b <;> rfl
theorem flat_eq : ∀ (d : Nat) (t : TypeId) (s D : Nat) (xs ys : List Value) (w : World), flatT P d t = some s → d ≤ D → xs.length = s → ys.length = s → Kin xs ys → ∃ b, (Op.equalIn D t (mkV (rowB P t) xs) (mkV (rowB P t) ys)).run P w = .ok b w ∧ (b = true ↔ xs = ys)
  | 0, _, _, _, _, _, _, h, _, _, _, _ => by cases h
  | d + 1, t, s, D, xs, ys, w, h, hD, hx, hy, hk => by
    obtain ⟨D, rfl⟩ : ∃ D', D = D' + 1 := ⟨D - 1, by omega⟩
    unfold flatT at h
    split at h
    · rename_i i q hi hu
      split at h
      · cases h
        match xs, ys, hx, hy with
        | [u], [v], _, _ =>
          obtain ⟨k, a, b, rfl, rfl⟩ := hk 0 u v rfl rfl
          have hb : rowB P t = false := by unfold rowB; rw [hu]; first | done | rfl
          rw [hb]
          show ∃ z, (Op.equalIn (D + 1) t (.int k a) (.int k b)).run P w = .ok z w ∧ _
          exact ⟨_, run_equalIn_int w D t k q a b hu, by simp⟩
      · cases h
    · rename_i i n e hi hu
      split at h
      · rename_i k hk'
        split at h
        · rename_i hc
          cases h
          have hb : rowB P t = true := by unfold rowB; rw [hu]; first | done | rfl
          have hsz : ∀ w, (sizeOf e).run P w = .ok k w := fun w => by
            obtain ⟨ie, h1, h2⟩ := Option.map_eq_some_iff.1 hc.2
            simp [sizeOf, typeInfo, h1, h2]
          rw [hb]
          rw [hc.1] at hx hy
          exact run_elems (fun zs o hz ho w => flat_part hk' (by omega) w) hx hy (fun o ho w => flat_eq d e k D _ _ w hk' (by omega) (by rw [sub_len (by omega)]) (by rw [sub_len (by omega)]) (hk.sub o k)) hu hsz w
        · cases h
      · cases h
    · rename_i i fs hi hu
      split at h
      · rename_i hc
        cases h
        have hb : rowB P t = true := by unfold rowB; rw [hu]; first | done | rfl
        rw [hb]
        show ∃ z, (Op.equalIn (D + 1) t (.agg xs.toArray) (.agg ys.toArray)).run P w = .ok z w ∧ _
        have hf : P.fieldsOf t = fs := by unfold Program.fieldsOf; rw [hu]
        rw [run_equalIn_agg w D t _ _ (by rw [hf]; exact hu) hc.1, hf]
        have key : ∀ (l : List Field) (o : Nat) (w : World), flatF (flatT P d) o l = some i.size → ∃ b, (Op.eqFields D xs.toArray ys.toArray l).run P w = .ok b w ∧ (b = true ↔ xs.drop o = ys.drop o) := by
          intro l
          induction l with
          | nil =>
            intro o w h
            cases h
            rw [List.drop_of_length_le (Nat.le_of_eq hx), List.drop_of_length_le (Nat.le_of_eq hy)]
            exact ⟨true, by simp [Op.eqFields], by simp⟩
          | cons f l ih =>
            intro o w h
            simp only [flatF] at h
            split at h
            · rename_i hof
              split at h
              · rename_i k hk'
                have hle : o + k ≤ i.size := by
                  clear ih
                  have mono : ∀ (l : List Field) (o' : Nat), flatF (flatT P d) o' l = some i.size → o' ≤ i.size := by
                    intro l
                    induction l with
                    | nil => intro o' h; cases h; exact Nat.le_refl _
                    | cons f l ih =>
                      intro o' h
                      simp only [flatF] at h
                      split at h
                      · split at h
                        · have := ih _ h; omega
                        · cases h
                      · cases h
                  exact mono l _ h
                have e1 := flat_part (xs := xs) (o := o) hk' (by omega)
                have e2 := flat_part (xs := ys) (o := o) hk' (by omega)
                obtain ⟨b, e3, e4⟩ := flat_eq d f.type k D ((xs.drop o).take k) ((ys.drop o).take k) w hk' (by omega) (by rw [sub_len (by omega)]) (by rw [sub_len (by omega)]) (hk.sub o k)
                simp only [Op.eqFields, if_pos hof.2, hof.1, Sem.run_bind, e1, e2, Result.andThen_ok, e3]
                have hs := dec_split (xs := xs) (ys := ys) o k (by omega) (by omega)
                cases b with
                | true =>
                  obtain ⟨b', h5, h6⟩ := ih (o + k) w h
                  exact ⟨b', by simpa using h5, by rw [h6, hs]; simp [e4.1 rfl]⟩
                | false => exact ⟨false, by simp, by rw [hs]; simp; exact fun h => absurd (e4.2 h) (by simp)⟩
              · cases h
            · cases h
        exact key fs.toList 0 w hc.2
      · cases h
    · cases h
end
end
end Go.Proofs.YthknobbilcolnaaGreat
