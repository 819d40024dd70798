/- Operations on abstract values, and that the machine's operations do as they say: loads, stores, new objects, addresses, slices of slices. No condition. Operations on abstract values: indices, parts, slices of slices, lengths, rows built, pure operations. No condition. Operations on abstract values: slices of slices, lengths, rows built, pure operations. No condition. -/
import Derived.Test.YthknobbilcolnaaGreatJn1
namespace Go.Proofs.YthknobbilcolnaaGreat
section
open Go.RowKit

/-- The machine's run x ends with a value of which a holds, in a world that holds H'. -/
def Gives (P : Program) (F : Nat → Prop) (β : Loc) (H : List AObj) (w : World) (x : Sem Value) (a : AV) (H' : List AObj) : Prop :=
  ∃ v w' β', x.run P w = .ok v w' ∧ Rep F β' H' w' ∧ Ext β H w β' H' w' ∧ V F β' H' w' a v

def AV.isAgg : AV → Bool
  | .agg _ => true
  | _ => false
/-- It may be stored: a row of cells, or one cell. -/
def AV.stA : AV → Bool
  | .tup _ | .any => false
  | _ => true
def AV.oneA : AV → Bool
  | .tup _ | .any | .agg _ => false
  | _ => true

section
variable {P : Program} {F : Nat → Prop} {β β' : Loc} {H H' : List AObj} {w w' : World}

theorem Gives.same {x : Sem Value} {a : AV} {v : Value} (hr : Rep F β H w) (h : x.run P w = .ok v w) (hv : V F β H w a v) : Gives P F β H w x a H :=
  ⟨v, w, β, h, hr, Ext.refl _ _ _, hv⟩

theorem plain_one {v : Value} (h : plainV v = true) : v.oneCell' = true := by
  cases v <;> first | rfl | (simp [plainV] at h)
theorem LV.one {x : AV} {v : Value} (h : LV β H x v) : v.oneCell' = true := by
  cases x <;> first | exact h.elim | exact h.2.1.1.one | (obtain ⟨-, ⟨⟨a, rfl⟩, -⟩, -⟩ := h; rfl) | (obtain ⟨-, ⟨a, rfl⟩, -⟩ := h; rfl)
theorem V.one {a : AV} {v : Value} (h : V F β H w a v) (ha : a.oneA = true) : v.oneCell' = true := by
  cases h with
  | any v => cases ha
  | c h => exact plain_one h
  | leaf h => exact h.one
  | agg => cases ha
  | tup => cases ha
  | _ => rfl
theorem V.st {a : AV} {v : Value} (h : V F β H w a v) (ha : a.stA = true) : ∃ vs : List Value, v.cells = vs.toArray ∧ vs.length = a.cells.length ∧ Ones vs ∧ ∀ (i : Nat) (a' : AV) (v' : Value), a.cells[i]? = some a' → vs[i]? = some v' → V F β H w a' v' := by
  by_cases hg : a.isAgg = true
  · cases a <;> simp [AV.isAgg] at hg
    cases h with
    | leaf h => exact h.elim
    | agg hl ho h => exact ⟨_, rfl, hl, ho, h⟩
  · have h1 : a.oneA = true := by cases a <;> simp_all [AV.oneA, AV.stA, AV.isAgg]
    have hv := h.one h1
    have ec : a.cells = [a] := by cases a <;> simp_all [AV.cells, AV.isAgg]
    refine ⟨[v], ?_, by rw [ec]; rfl, fun u hu => by rw [List.mem_singleton.1 hu]; exact hv, fun i a' v' ha' hv' => ?_⟩
    · cases v <;> first | rfl | (simp [Value.oneCell'] at hv)
    · rw [ec] at ha'
      cases i with
      | zero => simp at ha' hv'; subst ha'; subst hv'; exact h
      | succ i => simp at ha'

/-! ### loads -/
theorem RowOk.at_ {id : Nat} {t : TypeId} {cs : List AV} (h : RowOk F β H w id t cs) {b s : Nat} (hb : β id = some (b, s)) (ht : t < 2000000) : ∃ (C : Array Value) (vs : List Value), s = C.size ∧ ¬ F b ∧ (Blk w b (t % 1000000) C ∧ (1000000 ≤ t → C.size = vs.length)) ∧ vs.length = cs.length ∧ C.toList.take vs.length = vs ∧ Ones vs ∧ (∀ (i : Nat) (a : AV) (v : Value), cs[i]? = some a → vs[i]? = some v → V F β H w a v) ∧ w.rangeAt b 0 vs := by
  rcases h with ⟨-, h⟩ | ⟨b', C, vs, h1, h2, h3, h4, h5, h6, h7⟩
  · rw [h] at hb; cases hb
  · rw [szR_lt ht] at h1
    rw [h1] at hb; cases hb
    refine ⟨C, vs, rfl, h2, ⟨h3.1.blk ht, h3.2⟩, h4, h5, h6, h7, fun j v hv => ?_⟩
    rw [Nat.zero_add, (h3.1.blk ht).cell]
    rw [← h5, List.getElem?_take] at hv
    split at hv
    · simpa using hv
    · cases hv
theorem rangeAt_sub {b o : Nat} {vs : List Value} (h : w.rangeAt b o vs) (off n : Nat) : w.rangeAt b (o + off) ((vs.drop off).take n) := fun j v hv => by
  rw [List.getElem?_take] at hv
  split at hv
  · rw [List.getElem?_drop] at hv
    have := h _ _ hv
    rwa [← Nat.add_assoc] at this
  · cases hv
theorem Ones.sub {vs : List Value} (h : Ones vs) (off n : Nat) : Ones ((vs.drop off).take n) := fun u hu => h u (List.mem_of_mem_drop (List.mem_of_mem_take hu))
theorem sub_get {α : Type} {l : List α} {off n i : Nat} {x : α} (h : ((l.drop off).take n)[i]? = some x) : l[off + i]? = some x := by
  rw [List.getElem?_take] at h
  split at h
  · rwa [List.getElem?_drop] at h
  · cases h
theorem sub_len {α : Type} {l : List α} {off n : Nat} (h : off + n ≤ l.length) : ((l.drop off).take n).length = n := by simp; omega

/-- The cells from an offset on, as a value of type t. -/
def part (P : Program) (t : TypeId) (cs : List AV) (off : Nat) : Option AV :=
  match P.info? t, P.underlying t with
  | some i, some d => if d.isRow = true then (if off + i.size ≤ cs.length then some (.agg ((cs.drop off).take i.size)) else none) else cs[off]?
  | _, _ => none
def loadA (P : Program) (H : List AObj) (t : TypeId) : AV → Option AV
  | .ptr id off => match H[id]? with
    | some (.row _ _ cs) => part P t cs off
    | _ => none
  | .pe e off => if off = 0 ∧ e.isAgg = true ∧ (P.info? t).map (·.size) = some e.cells.length ∧ (P.underlying t).any (·.isRow) = true then some e else part P t e.cells off
  | _ => none

theorem load_part {t : TypeId} {b o : Nat} {vs : List Value} {cs : List AV} {off : Nat} {a : AV} (hp : part P t cs off = some a) (hl : vs.length = cs.length) (hc : w.rangeAt b o vs) (ho : Ones vs)
    (hv : ∀ (i : Nat) (a : AV) (v : Value), cs[i]? = some a → vs[i]? = some v → V F β H w a v) : ∃ v, (Instr.loadAt t (.pointer (some ⟨b, o + off, none⟩))).run P w = .ok v w ∧ V F β H w a v := by
  unfold part at hp
  split at hp
  · rename_i i d hi hd
    split at hp
    · rename_i hrow
      split at hp
      · rename_i hle
        cases hp
        have hl2 : ((vs.drop off).take i.size).length = i.size := sub_len (by omega)
        refine ⟨.agg ((vs.drop off).take i.size).toArray, run_loadAt_mid w b (o + off) t _ d (rangeAt_sub hc off i.size) hd hrow (by rw [hi, hl2]; rfl), .agg (by rw [hl2, sub_len hle]) (ho.sub _ _) (fun k a v ha hv' => hv _ a v (sub_get ha) (sub_get hv'))⟩
      · cases hp
    · rename_i hrow
      have hlt : off < vs.length := by rw [hl]; exact (List.getElem?_eq_some_iff.1 hp).1
      obtain ⟨v, hv'⟩ : ∃ v, vs[off]? = some v := ⟨_, List.getElem?_eq_getElem hlt⟩
      refine ⟨v, ?_, hv _ a v hp hv'⟩
      have hcell := hc off v hv'
      have hagg : (isAgg t).run P w = .ok false w := by
        unfold isAgg
        rw [Sem.run_bind, run_underlying hd w]
        cases d <;> simp_all
      simp [Instr.loadAt, Instr.sureAddr, loadVar, Sem.run_bind, hagg, load, Sem.run, hcell]
  · cases hp

theorem load_same (hr : Rep F β H w) {t : TypeId} {x a : AV} {v : Value} (hx : V F β H w x v) (h : loadA P H t x = some a) : ∃ v', (Instr.loadAt t v).run P w = .ok v' w ∧ V F β H w a v' := by
  cases x <;> simp only [loadA] at h <;> try cases h
  case ptr id off =>
    split at h
    · rename_i t' fz cs hi
      cases hx with
      | leaf hx =>
        obtain ⟨b, s, hb, rfl⟩ := hx.2.2 _ _ _ hi
        obtain ⟨C, vs, -, -, -, h1, -, h3, h4, h5⟩ := (hr.row id _ _ _ hi).at_ hb (hx.2.1.2 _ _ _ hi)
        obtain ⟨v, e1, e2⟩ := load_part (P := P) (b := b) (o := 0) h h1 h5 h3 h4
        rw [Nat.zero_add] at e1
        exact ⟨_, e1, e2⟩
    · cases h
  case pe e off =>
    cases hx with
    | leaf hx => exact hx.elim
    | pe hb hl ho hc hv =>
      rename_i vs b o
      split at h
      · rename_i hcond
        obtain ⟨h1, h2, h3, h4⟩ := hcond
        cases h
        subst h1
        obtain ⟨d, hd, hrow⟩ : ∃ d, P.underlying t = some d ∧ d.isRow = true := by
          cases hq : P.underlying t with
          | none => rw [hq] at h4; cases h4
          | some d => rw [hq] at h4; exact ⟨d, rfl, by simpa using h4⟩
        cases a <;> simp [AV.isAgg] at h2
        rename_i cs
        exact ⟨_, run_loadAt_mid w b o t vs d hc hd hrow (by rw [h3, hl]), .agg hl ho hv⟩
      · obtain ⟨v, e1, e2⟩ := load_part (P := P) (b := b) (o := o) h hl hc ho hv
        exact ⟨_, e1, e2⟩

theorem load_ok (hr : Rep F β H w) {t : TypeId} {x a : AV} {v : Value} (hx : V F β H w x v) (h : loadA P H t x = some a) : Gives P F β H w (Instr.loadAt t v) a H :=
  let ⟨_, h1, h2⟩ := load_same (P := P) hr hx h
  Gives.same hr h1 h2

/-! ### stores -/
def storeA (P : Program) (H : List AObj) (t : TypeId) (x y : AV) : Option (List AObj) :=
  match x with
  | .ptr id off => match P.info? t, H[id]? with
    | some i, some (.row t' false cs) => if y.cells.length = i.size ∧ off + i.size ≤ cs.length ∧ y.stA = true then some (H.set id (.row t' false (splice cs off y.cells))) else none
    | _, _ => none
  | _ => none

theorem store_ok (hr : Rep F β H w) {t : TypeId} {x y : AV} {v u : Value} (hx : V F β H w x v) (hy : V F β H w y u) (h : storeA P H t x y = some H') : ∃ w', (Instr.storeAt t v u).run P w = .ok () w' ∧ Rep F β H' w' ∧ Ext β H w β H' w' := by
  cases x <;> simp only [storeA] at h <;> try cases h
  rename_i id off
  split at h
  · rename_i i t' cs hi hrow
    split at h
    · rename_i hcond
      obtain ⟨h1, h2, h3⟩ := hcond
      cases h
      cases hx with
      | leaf hx =>
        obtain ⟨b, s, hb, rfl⟩ := hx.2.2 _ _ _ hrow
        obtain ⟨C, vs, -, -, hC, k1, k2, -, -, -⟩ := (hr.row id _ _ _ hrow).at_ hb (hx.2.1.2 _ _ _ hrow)
        obtain ⟨us, e1, e2, e3, e4⟩ := hy.st h3
        have hCl : vs.length ≤ C.size := by
          have := congrArg List.length k2
          rw [List.length_take] at this
          simp at this
          omega
        have hst := run_storeCells_at P b off (t' % 1000000) us 0 C w hC.1 (by simp; omega) e3
        refine ⟨_, ?_, store_row hr hrow hb (az := y.cells) (us := us) (by omega) (hx.2.1.2 _ _ _ hrow) hC.1 e2 e3 e4⟩
        have hsz : us.length = i.size := by omega
        simp [Instr.storeAt, Instr.sureAddr, storeVar, sizeOf, typeInfo, hi, Sem.run_bind, hsz, e1]
        simpa [hsz] using hst
    · cases h
  · cases h

/-! ### new objects -/
theorem new_row_ok (hr : Rep F β H w) {t t0 : TypeId} {cs : List AV} {vs : List Value} (ht : t < 2000000) (ht0 : t % 1000000 = t0) (hl : vs.length = cs.length) (ho : Ones vs) (hv : ∀ (i : Nat) (a : AV) (v : Value), cs[i]? = some a → vs[i]? = some v → V F β H w a v) :
    ∃ w' β', (newRow t0 vs.toArray).run P w = .ok ⟨w.heap.size, 0, none⟩ w' ∧ Rep F β' (H ++ [.row t false cs]) w' ∧ Ext β H w β' (H ++ [.row t false cs]) w' ∧ β' H.length = some (w.heap.size, vs.length) := by
  subst ht0
  have hu : Upd NoF w (w.alloc (.cells vs.toArray (t % 1000000))) := (Upd.refl _ w).alloc _
  obtain ⟨h1, h2⟩ := push_row hr [] hl ho hv hu ht (by simpa using Blk.new w (t % 1000000) vs.toArray) (fun _ => rfl)
  refine ⟨_, _, ?_, h1, h2, by rw [setL_same]; simp⟩
  rfl

theorem noMap_last {t : TypeId} {fz : Bool} {cs : List AV} (ht : t < 2000000) : noMap (H ++ [.row t fz cs]) H.length := fun t' fz' cs' h => by
  rw [get_last] at h; cases h; exact ht
theorem ptr_last {t : TypeId} {fz : Bool} {cs : List AV} {b s : Nat} (ht : t < 2000000) (hb : β' H.length = some (b, s)) : V F β' (H ++ [.row t fz cs]) w' (.ptr H.length 0) (.pointer (some ⟨b, 0, none⟩)) :=
  .leaf ⟨by simp, ⟨⟨_, rfl⟩, noMap_last ht⟩, fun _ _ _ _ => ⟨b, s, hb, rfl⟩⟩

def zeroA (P : Program) (t : TypeId) : Option AV :=
  if t < 1000000 then (match (P.info? t).bind (·.zero) with
  | some (.agg cs) => if cs.all plainV = true then some (.agg (cs.toList.map .c)) else none
  | some v => if plainV v = true then some (.c v) else none
  | none => none) else none
theorem zero_lt {t : TypeId} {a : AV} (h : zeroA P t = some a) : t < 1000000 := by
  unfold zeroA at h
  split at h
  · assumption
  · cases h
theorem zero_ok {t : TypeId} {a : AV} (h : zeroA P t = some a) : ∃ v, (zeroValue t).run P w = .ok v w ∧ V F β H w a v ∧ a.stA = true := by
  unfold zeroA at h
  split at h
  case isFalse => cases h
  cases hi : P.info? t with
  | none => rw [hi] at h; cases h
  | some i =>
    rw [hi] at h
    cases hz : i.zero with
    | none => simp [hz] at h
    | some z =>
      have hrun : (zeroValue t).run P w = .ok z w := by simp [zeroValue, typeInfo, hi, hz]
      simp only [Option.bind_some, hz] at h
      refine ⟨z, hrun, ?_⟩
      split at h
      · rename_i cs hq
        cases hq
        split at h
        · rename_i hp
          cases h
          refine ⟨?_, rfl⟩
          have hp' : ∀ v ∈ cs.toList, plainV v = true := fun v hv => (Array.all_eq_true_iff_forall_mem.1 hp) v (by simpa using hv)
          have : Value.agg cs = .agg cs.toList.toArray := by simp
          rw [this]
          refine .agg (by simp) (fun u hu => plain_one (hp' u hu)) (fun k a v ha hv => ?_)
          rw [List.getElem?_map] at ha
          cases hq : cs.toList[k]? with
          | none => rw [hq] at hv; cases hv
          | some u =>
            rw [hq] at ha hv
            cases hv
            cases ha
            exact .c (hp' _ (List.mem_of_getElem? hq))
        · cases h
      · rename_i hq
        cases hq
        split at h
        · rename_i hp
          cases h
          exact ⟨.c hp, rfl⟩
        · cases h
      · rename_i hq
        cases hq

def allocA (P : Program) (H : List AObj) (t : TypeId) : Option (AV × List AObj) := (zeroA P t).map fun z => (.ptr H.length 0, H ++ [.row (t + 1000000) false z.cells])
def boxA (H : List AObj) (t : TypeId) (x : AV) : Option (AV × List AObj) := if x.stA = true ∧ t < 1000000 then some (.ptr H.length 0, H ++ [.row (t + 1000000) false x.cells]) else none

theorem newVar_ok (hr : Rep F β H w) {t : TypeId} (ht : t < 1000000) {x : AV} {v : Value} (hx : V F β H w x v) (hs : x.stA = true) : ∃ w' β' b, (newVar t v).run P w = .ok ⟨b, 0, none⟩ w' ∧ Rep F β' (H ++ [.row (t + 1000000) false x.cells]) w' ∧ Ext β H w β' (H ++ [.row (t + 1000000) false x.cells]) w' ∧ V F β' (H ++ [.row (t + 1000000) false x.cells]) w' (.ptr H.length 0) (.pointer (some ⟨b, 0, none⟩)) := by
  obtain ⟨vs, e1, e2, e3, e4⟩ := hx.st hs
  obtain ⟨w', β', h1, h2, h3, h4⟩ := new_row_ok (P := P) (t := t + 1000000) (t0 := t) hr (ty_a _ ht) (ty_b _ ht) e2 e3 e4
  exact ⟨w', β', _, by rw [newVar, e1]; exact h1, h2, h3, ptr_last (ty_a _ ht) h4⟩
theorem box_ok (hr : Rep F β H w) {t : TypeId} {x a : AV} {v : Value} (hx : V F β H w x v) (h : boxA H t x = some (a, H')) : Gives P F β H w (Instr.box t v) a H' := by
  unfold boxA at h
  split at h
  · cases h
    obtain ⟨w', β', b, h1, h2, h3, h4⟩ := newVar_ok (P := P) (t := t) hr (And.right ‹_›) hx (And.left ‹_›)
    exact ⟨_, w', β', by simp [Instr.box, h1], h2, h3, h4⟩
  · cases h
theorem alloc_ok (hr : Rep F β H w) {t : TypeId} {a : AV} (h : allocA P H t = some (a, H')) : Gives P F β H w (Instr.alloc t true (.tuple #[])) a H' := by
  unfold allocA at h
  cases hz : zeroA P t with
  | none => rw [hz] at h; cases h
  | some z =>
    rw [hz] at h
    cases h
    obtain ⟨v, e1, e2, e3⟩ := zero_ok (P := P) (F := F) (β := β) (H := H) (w := w) hz
    obtain ⟨w', β', b, h1, h2, h3, h4⟩ := newVar_ok (P := P) (t := t) hr (zero_lt hz) e2 e3
    exact ⟨_, w', β', by simp [Instr.alloc, Sem.run_bind, e1, h1], h2, h3, h4⟩

/-! ### addresses -/
def shift (n : Nat) : AV → Option AV
  | .ptr id off => some (.ptr id (off + n))
  | .pe e off => some (.pe e (off + n))
  | _ => none
def fieldAddrA (P : Program) (s : TypeId) (x : AV) (f : Nat) : Option AV :=
  match P.underlying s with
  | some (.struct fs) => match fs[f]? with
    | some fd => match P.info? fd.type with
      | some i => if i.size = 0 then none else shift fd.offset x
      | none => none
    | none => none
  | _ => none
theorem Addr.add_mid' (b o j : Nat) : (⟨b, o, none⟩ : Addr).add j = ⟨b, o + j, none⟩ := by unfold Addr.add; split <;> simp_all
theorem shift_ok {x a : AV} {v : Value} {n : Nat} (hl : ∀ id off, x = .ptr id off → alive H id) (hx : V F β H w x v) (h : shift n x = some a) : ∃ b o, v = .pointer (some ⟨b, o, none⟩) ∧ V F β H w a (.pointer (some ⟨b, o + n, none⟩)) := by
  cases x <;> simp only [shift] at h <;> cases h
  case ptr id off =>
    cases hx with
    | leaf hx =>
      obtain ⟨t, fz, cs, hi⟩ := hl _ _ rfl
      obtain ⟨b, s, hb, rfl⟩ := hx.2.2 _ _ _ hi
      exact ⟨b, off, rfl, .leaf ⟨hx.1, ⟨⟨_, rfl⟩, hx.2.1.2⟩, fun _ _ _ _ => ⟨b, s, hb, rfl⟩⟩⟩
  case pe e off =>
    cases hx with
    | leaf hx => exact hx.elim
    | pe hb hl ho hc hv => exact ⟨_, _, rfl, by rw [Nat.add_assoc]; exact .pe hb hl ho hc hv⟩
def liveB (H : List AObj) : AV → Bool
  | .ptr id _ | .own id _ _ _ => match H[id]? with | some (.row _ _ _) => true | _ => false
  | _ => true
theorem liveB_ptr {x : AV} (h : liveB H x = true) : ∀ id off, x = .ptr id off → alive H id := by
  rintro id off rfl
  simp only [liveB] at h
  split at h
  · exact ⟨_, _, _, by assumption⟩
  · cases h
theorem fieldAddr_ok (hr : Rep F β H w) {s : TypeId} {x a : AV} {v : Value} {f : Nat} (hl : liveB H x = true) (hx : V F β H w x v) (h : fieldAddrA P s x f = some a) : Gives P F β H w (Instr.fieldAt s v f) a H := by
  unfold fieldAddrA at h
  split at h
  · rename_i fs hs
    split at h
    · rename_i fd hf
      split at h
      · rename_i i hi
        split at h
        · cases h
        · rename_i hsz
          obtain ⟨b, o, rfl, h2⟩ := shift_ok (liveB_ptr hl) hx h
          refine Gives.same hr ?_ h2
          simp [Instr.fieldAt, run_underlying hs, hf, Instr.sureAddr, fieldPlace, sizeOf, typeInfo, hi, hsz, Sem.run_bind, Addr.add_mid']
      · cases h
    · cases h
  · cases h
end
end

section
open Go.RowKit

section
variable {P : Program} {F : Nat → Prop} {β β' : Loc} {H H' : List AObj} {w w' : World}

theorem flat_cons (e : AV) (es : List AV) : flat (e :: es) = e.cells ++ flat es := rfl
theorem flat_len {k : Nat} : ∀ {es : List AV}, (∀ e ∈ es, e.cells.length = k) → (flat es).length = es.length * k
  | [], _ => by simp [flat]
  | e :: es, h => by
    rw [flat_cons, List.length_append, h e (by simp), flat_len (fun x hx => h x (by simp [hx])), List.length_cons, Nat.add_mul, Nat.one_mul, Nat.add_comm]
theorem flat_get {k : Nat} : ∀ {es : List AV}, (∀ e ∈ es, e.cells.length = k) → ∀ {i j : Nat} {e : AV}, es[i]? = some e → j < k → (flat es)[i * k + j]? = e.cells[j]?
  | [], _, i, j, e, h, _ => by simp at h
  | x :: es, h, 0, j, e, he, hj => by
    simp at he
    subst he
    rw [flat_cons, Nat.zero_mul, Nat.zero_add, List.getElem?_append_left (by rw [h x (by simp)]; exact hj)]
  | x :: es, h, i + 1, j, e, he, hj => by
    rw [flat_cons, List.getElem?_append_right (by rw [h x (by simp), Nat.add_mul]; omega), h x (by simp), show (i + 1) * k + j - k = i * k + j by rw [Nat.add_mul]; omega]
    exact flat_get (fun y hy => h y (by simp [hy])) (by simpa using he) hj
theorem flat_sub {k : Nat} : ∀ {es : List AV}, (∀ e ∈ es, e.cells.length = k) → ∀ (lo n : Nat), flat ((es.drop lo).take n) = ((flat es).drop (lo * k)).take (n * k)
  | [], _, lo, n => by simp [flat]
  | e :: es, h, 0, 0 => by simp [flat]
  | e :: es, h, 0, n + 1 => by
    have ih := flat_sub (es := es) (fun y hy => h y (by simp [hy])) 0 n
    simp only [List.drop_zero, Nat.zero_mul, List.take_succ_cons, flat_cons] at ih ⊢
    rw [ih, List.take_append, h e (by simp), show List.take ((n + 1) * k) e.cells = e.cells from List.take_of_length_le (by rw [h e (by simp), Nat.add_mul]; omega), show (n + 1) * k - k = n * k by rw [Nat.add_mul]; omega]
  | e :: es, h, lo + 1, n => by
    rw [List.drop_succ_cons, flat_sub (fun y hy => h y (by simp [hy])), flat_cons, List.drop_append, h e (by simp), show List.drop ((lo + 1) * k) e.cells = [] from List.drop_of_length_le (by rw [h e (by simp), Nat.add_mul]; omega), show (lo + 1) * k - k = lo * k by rw [Nat.add_mul]; omega, List.nil_append]

/-- The parts of an immutable slice. -/
theorem V.ls_at {k : Nat} {es : List AV} {v : Value} (h : V F β H w (.ls k es) v) {i : Nat} {e : AV} (he : es[i]? = some e) : ∃ b o cap, v = .slice (some ⟨b, o, none⟩) es.length cap ∧ e.cells.length = k ∧ V F β H w (.pe e 0) (.pointer (some ⟨b, o + i * k, none⟩)) := by
  cases h with
  | leaf h => exact h.elim
  | ls0 a hm => simp at he
  | ls hb hk hn hm hl ho hc hv =>
    rename_i vs b o cap
    have hek := hk e (List.mem_of_getElem? he)
    have hi := (List.getElem?_eq_some_iff.1 he).1
    have hfl := flat_len hk
    have hle : i * k + k ≤ es.length * k := by
      have := Nat.mul_le_mul_right k (show i + 1 ≤ es.length from hi)
      rw [Nat.add_mul, Nat.one_mul] at this
      exact this
    refine ⟨b, o, cap, rfl, hek, ?_⟩
    have := VR.pe (I := Im F β H w) (w := w) (L := LV β H) (e := e) (off := 0) (vs := (vs.drop (i * k)).take k) (b := b) (o := o + i * k) hb (by rw [sub_len (by omega), hek]) (ho.sub _ _) (rangeAt_sub hc _ _) (fun j a v ha hv' => by
      have hj : j < k := by rw [← hek]; exact (List.getElem?_eq_some_iff.1 ha).1
      refine hv (i * k + j) a v ?_ (sub_get hv')
      rw [flat_get hk he hj]
      exact ha)
    simpa using this

theorem V.ls_form {k : Nat} {es : List AV} {v : Value} (h : V F β H w (.ls k es) v) : ∃ a cap, v = .slice a es.length cap ∧ es.length ≤ cap ∧ cap ≤ maxLen ∧ (0 < es.length → ∃ b o, a = some ⟨b, o, none⟩) := by
  cases h with
  | leaf h => exact h.elim
  | ls0 a hm => exact ⟨a, _, rfl, Nat.zero_le _, hm, fun h => by simp at h⟩
  | ls hb hk hn hm hl ho hc hv => exact ⟨_, _, rfl, hn, hm, fun _ => ⟨_, _, rfl⟩⟩

theorem V.ls_sub {k : Nat} {es : List AV} {a : Option Addr} {n cap : Nat} (h : V F β H w (.ls k es) (.slice a n cap)) (lo hi m : Nat) (h1 : lo ≤ hi) (h2 : hi ≤ es.length) (h3 : hi ≤ m) (h4 : m ≤ cap) : V F β H w (.ls k ((es.drop lo).take (hi - lo))) (.slice (if m = lo then a else a.map (·.add (lo * k))) (hi - lo) (m - lo)) := by
  have hlen : ((es.drop lo).take (hi - lo)).length = hi - lo := by simp; omega
  cases h with
  | leaf h => exact h.elim
  | ls0 a hm =>
    have : lo = 0 := by simp at h2; omega
    have : hi = 0 := by simp at h2; omega
    subst_vars
    simpa using VR.ls0 (I := Im F β H w) (w := w) (L := LV β H) (k := k) _ (show m ≤ maxLen by omega)
  | ls hb hk hn hm hl ho hc hv =>
    rename_i vs b o
    by_cases hz : hi - lo = 0
    · rw [hz, List.take_zero]
      exact .ls0 _ (by omega)
    · rw [if_neg (by omega)]
      have := VR.ls (I := Im F β H w) (w := w) (L := LV β H) (k := k) (es := (es.drop lo).take (hi - lo)) (vs := (vs.drop (lo * k)).take ((hi - lo) * k)) (b := b) (o := o + lo * k) (cap := m - lo) hb (fun e he => hk e (List.mem_of_mem_drop (List.mem_of_mem_take he))) (by rw [hlen]; omega) (by omega) (by
        rw [flat_sub hk, List.length_take, List.length_take, List.length_drop, List.length_drop, hl]) (ho.sub _ _) (rangeAt_sub hc _ _) (fun j a v ha hv' => by
        rw [flat_sub hk] at ha
        exact hv _ a v (sub_get ha) (sub_get hv'))
      rw [hlen] at this
      simpa [Addr.add_mid'] using this

/-! ### indices -/
def indexAddrA (P : Program) (t : TypeId) (x : AV) (i : AV) : Option AV :=
  match P.underlying t, i with
  | some (.slice e), .c (.int _ z) => match P.info? e with
    | some inf => match x with
      | .ls k es => if 0 ≤ z ∧ k = inf.size then (es[z.toNat]?).map fun e => .pe e 0 else none
      | .own id off n k => if 0 ≤ z ∧ z < n ∧ k = inf.size then some (.ptr id (off + z.toNat * k)) else none
      | _ => none
    | none => none
  | some (.array n e), .c (.int _ z) => match P.info? e with
    | some inf => if 0 ≤ z ∧ z < n then shift (z.toNat * inf.size) x else none
    | none => none
  | _, _ => none

theorem indexAddr_ok (hr : Rep F β H w) {t : TypeId} {x y a : AV} {v u : Value} (hl : liveB H x = true) (hx : V F β H w x v) (hy : V F β H w y u) (h : indexAddrA P t x y = some a) : Gives P F β H w (Instr.indexAt t v u) a H := by
  unfold indexAddrA at h
  split at h
  · rename_i e kd z ht
    cases hy with
    | leaf hy => exact hy.elim
    | c hp =>
    cases hi : P.info? e with
    | none => rw [hi] at h; cases h
    | some inf =>
      rw [hi] at h
      simp only at h
      cases x <;> simp only [] at h <;> try cases h
      case ls k es =>
        split at h
        · rename_i hc
          obtain ⟨e', he', rfl⟩ := Option.map_eq_some_iff.1 h
          obtain ⟨b, o, cap, rfl, -, h2⟩ := hx.ls_at he'
          have hlt := (List.getElem?_eq_some_iff.1 he').1
          refine Gives.same hr ?_ h2
          simp [Instr.indexAt, asIntOf, run_underlying ht, Sem.run_bind, sizeOf, typeInfo, hi, ← hc.2, Addr.add_mid', show 0 ≤ z ∧ z < (es.length : Int) from ⟨hc.1, by omega⟩]
        · cases h
      case own id off n k =>
        split at h
        · rename_i hc
          cases h
          cases hx with
          | leaf hx =>
            obtain ⟨tt, fz, cs, hrow⟩ : alive H id := by
              simp only [liveB] at hl
              split at hl
              · exact ⟨_, _, _, by assumption⟩
              · cases hl
            obtain ⟨k1, k2, k3⟩ := hx.2.2 _ _ _ hrow
            rcases k3 with ⟨rfl, -⟩ | ⟨b, s, cap, hb, rfl, k4, k5, k6⟩
            · omega
            · refine Gives.same hr (v := .pointer (some ⟨b, off + z.toNat * k, none⟩)) ?_ (.leaf ⟨hx.1, ⟨⟨_, rfl⟩, hx.2.1.2⟩, fun _ _ _ _ => ⟨b, s, hb, rfl⟩⟩)
              simp [Instr.indexAt, asIntOf, run_underlying ht, Sem.run_bind, sizeOf, typeInfo, hi, ← hc.2.2, Addr.add_mid', show 0 ≤ z ∧ z < (n : Int) from ⟨hc.1, hc.2.1⟩]
        · cases h
  · rename_i n e kd z ht
    cases hy with
    | leaf hy => exact hy.elim
    | c hp =>
    cases hi : P.info? e with
    | none => rw [hi] at h; cases h
    | some inf =>
      rw [hi] at h
      simp only at h
      split at h
      · rename_i hc
        obtain ⟨b, o, rfl, h2⟩ := shift_ok (liveB_ptr hl) hx h
        refine Gives.same hr ?_ h2
        simp [Instr.indexAt, asIntOf, run_underlying ht, Sem.run_bind, sizeOf, typeInfo, hi, Instr.sureAddr, Addr.add_mid', hc]
      · cases h
  · cases h

/-! ### parts of structs and arrays -/
theorem part_ok (hr : Rep F β H w) {t : TypeId} {cs : List AV} {vs : List Value} {off : Nat} {a : AV} (hp : part P t cs off = some a) (hl : vs.length = cs.length) (ho : Ones vs) (hv : ∀ (i : Nat) (a : AV) (v : Value), cs[i]? = some a → vs[i]? = some v → V F β H w a v) : Gives P F β H w (Go.part t vs.toArray off) a H := by
  unfold part at hp
  split at hp
  · rename_i i d hi hd
    have hagg : (isAgg t).run P w = .ok d.isRow w := by
      unfold isAgg
      rw [Sem.run_bind, run_underlying hd w]
      cases d <;> rfl
    split at hp
    · rename_i hrow
      split at hp
      · rename_i hle
        cases hp
        refine Gives.same hr (v := .agg ((vs.drop off).take i.size).toArray) ?_ (.agg (by rw [sub_len hle, sub_len (by omega)]) (ho.sub _ _) (fun k a v ha hv' => hv _ a v (sub_get ha) (sub_get hv')))
        simp [Go.part, Sem.run_bind, hagg, hrow, sizeOf, typeInfo, hi]
      · cases hp
    · rename_i hrow
      have hlt : off < vs.length := by rw [hl]; exact (List.getElem?_eq_some_iff.1 hp).1
      obtain ⟨v, hv'⟩ : ∃ v, vs[off]? = some v := ⟨_, List.getElem?_eq_getElem hlt⟩
      refine Gives.same hr ?_ (hv _ a v hp hv')
      simp [Go.part, Sem.run_bind, hagg, hrow, hv']
  · cases hp
def fieldA (P : Program) (t : TypeId) (x : AV) (f : Nat) : Option AV :=
  match P.underlying t, x with
  | some (.struct fs), .agg cs => match fs[f]? with
    | some fd => part P fd.type cs fd.offset
    | none => none
  | _, _ => none
theorem field_ok (hr : Rep F β H w) {t : TypeId} {x a : AV} {v : Value} {f : Nat} (hx : V F β H w x v) (h : fieldA P t x f = some a) : Gives P F β H w (Instr.field t v f) a H := by
  unfold fieldA at h
  split at h
  · rename_i fs cs hs
    split at h
    · rename_i fd hf
      cases hx with
      | leaf hx => exact hx.elim
      | agg hl ho hv =>
        obtain ⟨v', w', β', h1, h2⟩ := part_ok hr h hl ho hv
        exact ⟨v', w', β', by simpa [Instr.field, run_underlying hs, hf, asAgg, Sem.run_bind] using h1, h2⟩
    · cases h
  · cases h
def indexA (P : Program) (t : TypeId) (x i : AV) : Option AV :=
  match P.underlying t, x, i with
  | some (.array n e), .agg cs, .c (.int _ z) => match P.info? e with
    | some inf => if 0 ≤ z ∧ z < n then part P e cs (z.toNat * inf.size) else none
    | none => none
  | _, _, _ => none
theorem index_ok (hr : Rep F β H w) {t : TypeId} {x y a : AV} {v u : Value} (hx : V F β H w x v) (hy : V F β H w y u) (h : indexA P t x y = some a) : Gives P F β H w (Instr.index t v u) a H := by
  unfold indexA at h
  split at h
  · rename_i n e cs kd z ht
    cases hy with
    | leaf hy => exact hy.elim
    | c hp =>
    split at h
    · rename_i inf hi
      split at h
      · rename_i hc
        cases hx with
        | leaf hx => exact hx.elim
        | agg hl ho hv =>
          obtain ⟨v', w', β', h1, h2⟩ := part_ok hr h hl ho hv
          exact ⟨v', w', β', by simpa [Instr.index, asIntOf, run_underlying ht, Sem.run_bind, sizeOf, typeInfo, hi, hc] using h1, h2⟩
      · cases h
    · cases h
  · cases h

end
end

section
open Go.RowKit

section
variable {P : Program} {F : Nat → Prop} {β β' : Loc} {H H' : List AObj} {w w' : World}

/-! ### slices of slices -/
def bound (d : Nat) : Option AV → Option Nat
  | none => some d
  | some (.c (.int _ z)) => if 0 ≤ z then some z.toNat else none
  | _ => none
/-- Bounds of x[lo:hi:max] at len n: low, high and, of the third, whether it is given. -/
def bounds (n : Nat) (lo hi mx : Option AV) : Option (Nat × Nat × Option Nat) :=
  match mx with
  | none => match bound 0 lo, bound n hi with
    | some l, some h => if l ≤ h ∧ h ≤ n then some (l, h, none) else none
    | _, _ => none
  | some x => match bound 0 (some x), hi with
    | some m, some y => match bound 0 (some y), bound 0 lo with
      | some h, some l => if l ≤ h ∧ h ≤ m ∧ m ≤ n then some (l, h, some m) else none
      | _, _ => none
    | _, _ => none
/-- The values that belong to optional operands. -/
def VO (F : Nat → Prop) (β : Loc) (H : List AObj) (w : World) (a : Option AV) (v : Option Value) : Prop := match a, v with
  | none, none => True
  | some a, some v => V F β H w a v
  | _, _ => False
theorem V.lit {x v : Value} (h : V F β H w (.c x) v) : v = x := by
  cases h with
  | leaf h => exact h.elim
  | c h => rfl
theorem V.int {v : Value} {k : IntKind} {z : Int} (h : V F β H w (.c (.int k z)) v) : v = .int k z := by
  cases h with
  | leaf h => exact h.elim
  | c h => rfl
theorem run_bound {a : AV} {v : Value} {d l y : Nat} {code : BoundsCode} (h : V F β H w a v) (hb : bound d (some a) = some l) (hl : l ≤ y) : (Instr.sliceBound v y code).run P w = .ok l w := by
  cases a <;> simp only [bound] at hb <;> try cases hb
  rename_i u
  cases u <;> simp only [] at hb <;> try cases hb
  rename_i k z
  split at hb
  · cases hb
    obtain rfl := h.int
    simp [Instr.sliceBound, asIntOf, show 0 ≤ z ∧ z ≤ (y : Int) from ⟨by assumption, by omega⟩]
  · cases hb
theorem run_bounds {lo hi mx : Option AV} {lo' hi' mx' : Option Value} {n l h : Nat} {m : Option Nat} {s : Bool} {cap : Nat} (h1 : VO F β H w lo lo') (h2 : VO F β H w hi hi') (h3 : VO F β H w mx mx') (hn : n ≤ cap) (hb : bounds n lo hi mx = some (l, h, m)) :
    (Instr.sliceBounds s n cap lo' hi' mx').run P w = .ok (l, h, m.getD cap) w ∧ l ≤ h ∧ h ≤ n ∧ h ≤ m.getD cap ∧ m.getD cap ≤ cap := by
  unfold bounds at hb
  split at hb
  · cases mx' with
    | some x => exact h3.elim
    | none =>
    split at hb
    · rename_i l' h' e1 e2
      split at hb
      · rename_i hc
        cases hb
        refine ⟨?_, hc.1, hc.2, by simp; omega, by simp⟩
        have r1 : ∀ (y : Nat) code, l ≤ y → (match lo' with | some v => Instr.sliceBound v y code | none => (pure 0 : Sem Nat)).run P w = .ok l w := by
          intro y code hy
          cases lo with
          | none =>
            cases lo' with
            | some x => exact h1.elim
            | none => cases e1; rfl
          | some x =>
            cases lo' with
            | none => exact h1.elim
            | some v => exact run_bound h1 e1 hy
        have r2 : ∀ code, (match hi' with | some v => Instr.sliceBound v cap code | none => (pure n : Sem Nat)).run P w = .ok h w := by
          intro code
          cases hi with
          | none =>
            cases hi' with
            | some x => exact h2.elim
            | none => cases e2; rfl
          | some x =>
            cases hi' with
            | none => exact h2.elim
            | some v => exact run_bound h2 e2 (by omega)
        have q1 := r1 h (if (none : Option Value).isSome = true then .slice3C else .sliceB) hc.1
        have q2 := r2 (if s = true then .sliceAcap else .sliceAlen)
        cases hi' <;> cases lo' <;> simp_all [Instr.sliceBounds, Sem.run_bind]
      · cases hb
    · cases hb
  · rename_i x
    cases mx' with
    | none => exact h3.elim
    | some x' =>
    split at hb
    · rename_i m' y e1
      cases hi' with
      | none => exact h2.elim
      | some y' =>
      split at hb
      · rename_i h' l' e2 e3
        split at hb
        · rename_i hc
          cases hb
          refine ⟨?_, hc.1, by omega, by simp; omega, by simp; omega⟩
          have q0 := fun code => run_bound (P := P) (y := cap) (code := code) h3 e1 (by omega)
          have q2 := fun code => run_bound (P := P) (y := m') (code := code) h2 e2 hc.2.1
          have q1 : ∀ code, (match lo' with | some v => Instr.sliceBound v h code | none => (pure 0 : Sem Nat)).run P w = .ok l w := by
            intro code
            cases lo with
            | none =>
              cases lo' with
              | some x => exact h1.elim
              | none => cases e3; rfl
            | some x =>
              cases lo' with
              | none => exact h1.elim
              | some v => exact run_bound h1 e3 hc.1
          have q1 := q1 .slice3C
          cases lo' <;> simp_all [Instr.sliceBounds, Sem.run_bind]
        · cases hb
      · cases hb
    · cases hb

def sliceA (P : Program) (H : List AObj) (t : TypeId) (x : AV) (lo hi mx : Option AV) : Option AV :=
  match P.underlying t with
  | some (.slice e) => match P.info? e with
    | some inf => match x with
      | .ls k es => match bounds es.length lo hi mx with
        | some (l, h, m) => if k = inf.size then some (if m = some l ∧ h = l then .nil0 else .ls k ((es.drop l).take (h - l))) else none
        | none => none
      | .own id off n k => match bounds n lo hi mx with
        | some (l, h, m) => if k = inf.size then some (if m = some l ∧ h = l then .nil0 else .own id (off + l * k) (h - l) k) else none
        | none => none
      | .nil0 => match bounds 0 lo hi mx with
        | some _ => some .nil0
        | none => none
      | .c (.slice none 0 0) => match bounds 0 lo hi mx with
        | some _ => some (.c (.slice none 0 0))
        | none => none
      | _ => none
    | none => none
  | some (.array n e) => match P.info? e with
    | some inf => match x with
      | .ptr id off => match H[id]? with
        | some (.row _ _ cs) => match bounds n lo hi mx with
          | some (l, h, _) => if off + n * inf.size ≤ cs.length ∧ n ≤ maxLen then some (.own id (off + l * inf.size) (h - l) inf.size) else none
          | none => none
        | _ => none
      | .pe e off => match bounds n lo hi mx with
        | some (l, h, _) => if off + n ≤ e.cells.length ∧ n ≤ maxLen ∧ inf.size = 1 ∧ e.cells.all (fun x => !x.isAgg) = true then some (.ls 1 ((e.cells.drop (off + l)).take (h - l))) else none
        | none => none
      | _ => none
    | none => none
  | _ => none
theorem flat_ones {cs : List AV} (h : cs.all (fun x => !x.isAgg) = true) : flat cs = cs := by
  induction cs with
  | nil => rfl
  | cons a l ih =>
    simp only [List.all_cons, Bool.and_eq_true] at h
    rw [flat_cons, ih h.2]
    cases a <;> simp_all [AV.cells, AV.isAgg]
theorem slice_ok (hr : Rep F β H w) {t : TypeId} {x a : AV} {v : Value} {lo hi mx : Option AV} {lo' hi' mx' : Option Value} (hl : liveB H x = true) (hx : V F β H w x v) (h1 : VO F β H w lo lo') (h2 : VO F β H w hi hi') (h3 : VO F β H w mx mx') (h : sliceA P H t x lo hi mx = some a) : Gives P F β H w (Instr.sliceAt t v lo' hi' mx') a H := by
  unfold sliceA at h
  split at h
  · rename_i e ht
    split at h
    · rename_i inf hi0
      have hsz : (sizeOf e).run P w = .ok inf.size w := by simp [sizeOf, typeInfo, hi0]
      have nl : ∀ (a : Option Addr) (q : Nat × Nat × Option Nat), bounds 0 lo hi mx = some q → (Instr.sliceAt t (.slice a 0 0) lo' hi' mx').run P w = .ok (.slice a 0 0) w := by
        intro a ⟨l, hh, m⟩ hb
        obtain ⟨r1, r2, r3, r4, r5⟩ := run_bounds (P := P) (s := true) h1 h2 h3 (Nat.le_refl _) hb
        have e0 : hh = 0 := by omega
        have e1 : l = 0 := by omega
        have e2 : m.getD 0 = 0 := by omega
        subst e0; subst e1
        cases a <;> simp [Instr.sliceAt, Instr.slice, run_underlying ht, Sem.run_bind, r1, hsz, e2]
      cases x <;> (try dsimp only at h) <;> try (cases h; done)
      case nil0 =>
        split at h
        · rename_i q hb
          cases h
          cases hx with
          | leaf hx => exact hx.elim
          | nil0 a => exact Gives.same hr (nl a q hb) (.nil0 a)
        · cases h
      case c u =>
        split at h <;> first
          | (cases h; done)
          | (rename_i hq; cases hq; done)
          | skip
        all_goals
          rename_i hq
          split at h
          · rename_i q hb
            cases h
            cases hq
            obtain rfl := hx.lit
            exact Gives.same hr (nl none q hb) (.c rfl)
          · cases h
      case ls k es =>
        split at h
        · rename_i l hh m hb
          split at h
          · rename_i hk
            cases h
            obtain ⟨a, cap, rfl, k1, k2, -⟩ := hx.ls_form
            obtain ⟨r1, r2, r3, r4, r5⟩ := run_bounds (P := P) (s := true) h1 h2 h3 k1 hb
            by_cases hm : m = some l ∧ hh = l
            · obtain ⟨rfl, rfl⟩ := hm
              rw [if_pos ⟨rfl, rfl⟩]
              refine Gives.same hr (v := .slice a 0 0) ?_ (.nil0 a)
              simp [Instr.sliceAt, Instr.slice, run_underlying ht, Sem.run_bind, r1, hsz]
            · rw [if_neg hm]
              refine Gives.same hr ?_ (hx.ls_sub l hh _ r2 r3 r4 r5)
              simp [Instr.sliceAt, Instr.slice, run_underlying ht, Sem.run_bind, r1, hsz, hk]
          · cases h
        · cases h
      case own id off n k =>
        split at h
        · rename_i l hh m hb
          split at h
          · rename_i hk
            cases h
            cases hx with
            | leaf hx =>
              obtain ⟨tt, fz, cs, hrow⟩ : alive H id := by
                simp only [liveB] at hl
                split at hl
                · exact ⟨_, _, _, by assumption⟩
                · cases hl
              obtain ⟨k1, k2, k3⟩ := hx.2.2 _ _ _ hrow
              by_cases hm : m = some l ∧ hh = l
              · obtain ⟨rfl, rfl⟩ := hm
                rw [if_pos ⟨rfl, rfl⟩]
                rcases k3 with ⟨rfl, a, rfl⟩ | ⟨b, s, cap, hb', rfl, k4, k5, k6⟩
                · obtain ⟨r1, r2, r3, r4, r5⟩ := run_bounds (P := P) (s := true) h1 h2 h3 (Nat.le_refl _) hb
                  refine Gives.same hr (v := .slice a 0 0) ?_ (.nil0 a)
                  simp [Instr.sliceAt, Instr.slice, run_underlying ht, Sem.run_bind, r1, hsz]
                · obtain ⟨r1, r2, r3, r4, r5⟩ := run_bounds (P := P) (s := true) h1 h2 h3 k4 hb
                  refine Gives.same hr (v := .slice (some ⟨b, off, none⟩) 0 0) ?_ (.nil0 _)
                  simp [Instr.sliceAt, Instr.slice, run_underlying ht, Sem.run_bind, r1, hsz]
              rw [if_neg hm]
              rcases k3 with ⟨rfl, a, rfl⟩ | ⟨b, s, cap, hb', rfl, k4, k5, k6⟩
              · obtain ⟨r1, r2, r3, r4, r5⟩ := run_bounds (P := P) (s := true) h1 h2 h3 (Nat.le_refl _) hb
                have e0 : hh = 0 := by omega
                have e1 : l = 0 := by omega
                have e2 : m.getD 0 = 0 := by omega
                subst e0; subst e1
                refine Gives.same hr (v := .slice a 0 0) ?_ (.leaf ⟨hx.1, ⟨sl0.zero a 0, hx.2.1.2⟩, fun t' fz' cs' hr' => ⟨by simp; have := (hx.2.2 _ _ _ hr').1; omega, by simp, .inl ⟨by simp, a, rfl⟩⟩⟩)
                simp [Instr.sliceAt, Instr.slice, run_underlying ht, Sem.run_bind, r1, hsz, e2]
              · obtain ⟨r1, r2, r3, r4, r5⟩ := run_bounds (P := P) (s := true) h1 h2 h3 k4 hb
                have run : (Instr.sliceAt t (.slice (some ⟨b, off, none⟩) n cap) lo' hi' mx').run P w = .ok (.slice (if m.getD cap = l then some ⟨b, off, none⟩ else some ⟨b, off + l * k, none⟩) (hh - l) (m.getD cap - l)) w := by
                  simp [Instr.sliceAt, Instr.slice, run_underlying ht, Sem.run_bind, r1, hsz, hk, Addr.add_mid']
                have hmul : l * k + (hh - l) * k = hh * k := by rw [← Nat.add_mul]; congr 1; omega
                have hmul2 : hh * k ≤ n * k := Nat.mul_le_mul_right _ r3
                have hmul3 : l * k + (m.getD cap - l) * k = m.getD cap * k := by rw [← Nat.add_mul]; congr 1; omega
                have hmul4 : m.getD cap * k ≤ cap * k := Nat.mul_le_mul_right _ r5
                refine Gives.same hr run (.leaf ⟨hx.1, ⟨by split <;> exact sl0.some_ _ _ _, hx.2.1.2⟩, fun t' fz' cs' hr' => ⟨?_, by omega, ?_⟩⟩)
                · have := (hx.2.2 _ _ _ hr').1; omega
                · by_cases hz : m.getD cap = l
                  · rw [if_pos hz]; exact .inl ⟨by omega, some ⟨b, off, none⟩, by rw [show hh - l = 0 by omega, show m.getD cap - l = 0 by omega]⟩
                  · rw [if_neg hz]; exact .inr ⟨b, s, _, hb', rfl, by omega, by omega, by omega⟩
          · cases h
        · cases h
    · cases h
  · rename_i n e ht
    split at h
    · rename_i inf hi0
      have hsz : (sizeOf e).run P w = .ok inf.size w := by simp [sizeOf, typeInfo, hi0]
      cases x <;> simp only [] at h <;> try cases h
      case ptr id off =>
        split at h
        · rename_i tt fz cs hrow
          split at h
          · rename_i l hh m hb
            split at h
            · rename_i hc
              cases h
              cases hx with
              | leaf hx =>
                obtain ⟨b, s, hb', rfl⟩ := hx.2.2 _ _ _ hrow
                obtain ⟨C, vs, rfl, -, -, q1, q2, -, -, -⟩ := (hr.row id _ _ _ hrow).at_ hb' (hx.2.1.2 _ _ _ hrow)
                have hCl : cs.length ≤ C.size := by
                  have := congrArg List.length q2
                  rw [List.length_take] at this
                  simp at this
                  omega
                obtain ⟨r1, r2, r3, r4, r5⟩ := run_bounds (P := P) (s := false) h1 h2 h3 (Nat.le_refl _) hb
                have run : (Instr.sliceAt t (.pointer (some ⟨b, off, none⟩)) lo' hi' mx').run P w = .ok (.slice (some (if m.getD n = l then ⟨b, off, none⟩ else ⟨b, off + l * inf.size, none⟩)) (hh - l) (m.getD n - l)) w := by
                  simp [Instr.sliceAt, Instr.sureAddr, run_underlying ht, Sem.run_bind, r1, hsz, Addr.add_mid']
                have hmul : l * inf.size + (hh - l) * inf.size = hh * inf.size := by rw [← Nat.add_mul]; congr 1; omega
                have hmul2 : hh * inf.size ≤ n * inf.size := Nat.mul_le_mul_right _ r3
                have hmul3 : l * inf.size + (m.getD n - l) * inf.size = m.getD n * inf.size := by rw [← Nat.add_mul]; congr 1; omega
                have hmul4 : m.getD n * inf.size ≤ n * inf.size := Nat.mul_le_mul_right _ r5
                refine Gives.same hr run (.leaf ⟨hx.1, ⟨sl0.some_ _ _ _, hx.2.1.2⟩, fun t' fz' cs' hr' => ⟨?_, by omega, ?_⟩⟩)
                · rw [hrow] at hr'; cases hr'; omega
                · by_cases hz : m.getD n = l
                  · rw [if_pos hz]; exact .inl ⟨by omega, some ⟨b, off, none⟩, by rw [show hh - l = 0 by omega, show m.getD n - l = 0 by omega]⟩
                  · rw [if_neg hz]; exact .inr ⟨b, C.size, _, hb', rfl, by omega, by omega, by omega⟩
            · cases h
          · cases h
        · cases h
      case pe e' off =>
        split at h
        · rename_i l hh m hb
          split at h
          · rename_i hc
            obtain ⟨c1, c2, c3, c4⟩ := hc
            cases h
            cases hx with
            | leaf hx => exact hx.elim
            | pe hb' hl' ho hcc hv =>
              rename_i vs b o
              obtain ⟨r1, r2, r3, r4, r5⟩ := run_bounds (P := P) (s := false) h1 h2 h3 (Nat.le_refl _) hb
              have run : (Instr.sliceAt t (.pointer (some ⟨b, o + off, none⟩)) lo' hi' mx').run P w = .ok (.slice (some (if m.getD n = l then ⟨b, o + off, none⟩ else ⟨b, o + off + l, none⟩)) (hh - l) (m.getD n - l)) w := by
                simp [Instr.sliceAt, Instr.sureAddr, run_underlying ht, Sem.run_bind, r1, hsz, c3, Addr.add_mid']
              refine Gives.same hr run ?_
              have hlen : ((e'.cells.drop (off + l)).take (hh - l)).length = hh - l := by simp; omega
              by_cases hz : hh - l = 0
              · rw [hz, List.take_zero]
                exact .ls0 _ (by omega)
              · rw [if_neg (by omega), Nat.add_assoc o off l]
                have hag : ((e'.cells.drop (off + l)).take (hh - l)).all (fun x => !x.isAgg) = true := by
                  rw [List.all_eq_true] at c4 ⊢
                  exact fun x hx => c4 x (List.mem_of_mem_drop (List.mem_of_mem_take hx))
                have := VR.ls (I := Im F β H w) (w := w) (L := LV β H) (k := 1) (es := (e'.cells.drop (off + l)).take (hh - l)) (vs := (vs.drop (off + l)).take (hh - l)) (b := b) (o := o + (off + l)) (cap := m.getD n - l) hb' (fun x hx => by
                  have := List.all_eq_true.1 hag x hx
                  cases x <;> simp_all [AV.cells, AV.isAgg]) (by rw [hlen]; omega) (by omega) (by rw [flat_ones hag, hlen, sub_len (by omega)]) (ho.sub _ _) (rangeAt_sub hcc _ _) (fun j a v ha hv' => by
                  rw [flat_ones hag] at ha
                  exact hv _ a v (sub_get ha) (sub_get hv'))
                rw [hlen] at this
                exact this
          · cases h
        · cases h
    · cases h
  · cases h

/-! ### lengths -/
def lenA : AV → Option Nat
  | .ls _ es => some es.length
  | .own _ _ n _ => some n
  | .nil0 => some 0
  | .c (.slice none 0 0) => some 0
  | _ => none
theorem len_form {x : AV} {n : Nat} {v : Value} (hl : liveB H x = true) (hx : V F β H w x v) (h : lenA x = some n) : ∃ a c, v = .slice a n c := by
  unfold lenA at h
  split at h
  · cases h
    obtain ⟨a, c, rfl, -⟩ := hx.ls_form
    exact ⟨a, c, rfl⟩
  · cases h
    cases hx with
    | leaf hx =>
      rename_i id off k
      obtain ⟨tt, fz, cs, hrow⟩ : alive H id := by
        simp only [liveB] at hl
        split at hl
        · exact ⟨_, _, _, by assumption⟩
        · cases hl
      rcases (hx.2.2 _ _ _ hrow).2.2 with ⟨rfl, a, rfl⟩ | ⟨b, s, cap, -, rfl, -⟩
      · exact ⟨_, _, rfl⟩
      · exact ⟨_, _, rfl⟩
  · cases h
    cases hx with
    | leaf hx => exact hx.elim
    | nil0 a => exact ⟨_, _, rfl⟩
  · cases h
    cases hx with
    | leaf hx => exact hx.elim
    | c h => exact ⟨_, _, rfl⟩
  · cases h
theorem len_ok (hr : Rep F β H w) {t : TypeId} {x : AV} {n : Nat} {v : Value} {e ty : TypeId} (ht : P.underlying t = some (.slice e)) (hl : liveB H x = true) (hx : V F β H w x v) (h : lenA x = some n) : Gives P F β H w (Builtin.len_ #[t] ty #[v]) (.c (.int .i64 n)) H := by
  obtain ⟨a, c, rfl⟩ := len_form hl hx h
  refine Gives.same hr ?_ (.c rfl)
  simp [Builtin.len_, run_underlying ht, Sem.run_bind, goInt]
end
end
end Go.Proofs.YthknobbilcolnaaGreat
