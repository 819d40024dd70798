/- What operations ask of types, as closed facts of the program; the operations by these facts. No condition. Views and calls in the shapes that bodies want: objects renumbered, an object frozen at a call, one object lent to a call. No condition. Further operations by facts of types: new variables, literals, parts of arrays, make. No condition. The program draws its orders. No condition. -/
import Derived.Test.YthknobbilcolnaaGreatEv15
import Derived.Test.YthknobbilcolnaaGreatProg
import Derived.KernelRfl
namespace Go.Proofs.YthknobbilcolnaaGreat
section
open Go.RowKit

section
variable {P : Program}
/-- Size of a type; is it a struct or an array. -/
def rowT (P : Program) (t : TypeId) : Option (Bool × Nat) := match P.info? t, P.underlying t with
  | some i, some d => some (d.isRow, i.size)
  | _, _ => none
/-- A slice's element: its type, size, bytes. -/
def elT (P : Program) (t : TypeId) : Option (TypeId × Nat × Nat) := match P.underlying t with
  | some (.slice e) => (P.info? e).map fun i => (e, i.size, i.bytes)
  | _ => none
/-- An array's length and its element's size. -/
def arT (P : Program) (t : TypeId) : Option (Nat × Nat) := match P.underlying t with
  | some (.array n e) => (P.info? e).map fun i => (n, i.size)
  | _ => none
def fldT (P : Program) (s f : Nat) : Option Nat := match P.underlying s with
  | some (.struct fs) => match fs[f]? with
    | some fd => match P.info? fd.type with
      | some i => if i.size = 0 then none else some fd.offset
      | none => none
    | none => none
  | _ => none
def kndT (P : Program) (t : TypeId) : Option IntKind := match P.underlying t with | some (.int k) => some k | _ => none
def plcT (P : Program) (t : TypeId) : Option (List (Nat × Nat)) := match P.underlying t with
  | some (.struct fields) => (pv P (fields.mapM fun f => do pure (f.offset, ← sizeOf f.type))).map (·.toList)
  | some (.array n e) => (P.info? e).map fun i => (List.range n).map fun j => (j * i.size, i.size)
  | _ => none
def zcT (P : Program) (t : TypeId) : Option Nat := ((P.info? t).bind (·.zero)).map (·.cells.size)

variable {t : TypeId} {s n m k off lo : Nat} {kd kd' : IntKind} {z : Int} {H : List AObj} {cs es : List AV} {e : AV} {id : Nat}
@[simp] theorem shift_ptr : shift n (.ptr id off) = some (.ptr id (off + n)) := _root_.id rfl
@[simp] theorem shift_pe : shift n (.pe e off) = some (.pe e (off + n)) := _root_.id rfl
@[simp] theorem liveB_c {v : Value} : liveB H (.c v) = true := _root_.id rfl
@[simp] theorem liveB_ls : liveB H (.ls k es) = true := _root_.id rfl
@[simp] theorem liveB_pe : liveB H (.pe e off) = true := _root_.id rfl
@[simp] theorem liveB_nil0 : liveB H .nil0 = true := _root_.id rfl
def liveO : Option AObj → Bool
  | some (.row _ _ _) => true
  | _ => false
@[simp] theorem liveO_row {b : Bool} : liveO (some (.row t b cs)) = true := _root_.id rfl
@[simp] theorem liveB_own : liveB H (.own id off n k) = liveO H[id]? := by
  simp only [liveB, liveO]
  cases H[id]? with
  | none => rfl
  | some o => cases o <;> rfl
@[simp] theorem liveB_ptr' : liveB H (.ptr id off) = liveO H[id]? := by
  simp only [liveB, liveO]
  cases H[id]? with
  | none => rfl
  | some o => cases o <;> rfl
@[simp] theorem lenA_ls : lenA (.ls k es) = some es.length := _root_.id rfl
@[simp] theorem lenA_own : lenA (.own id off n k) = some n := _root_.id rfl
@[simp] theorem lenA_nil0 : lenA .nil0 = some 0 := _root_.id rfl
@[simp] theorem lenA_nil : lenA (.c (.slice none 0 0)) = some 0 := _root_.id rfl
@[simp] theorem builtin_append {x y : AV} : builtinA P H .append [t, t] [x, y] = appendA P H t x y := by simp [builtinA]
@[simp] theorem builtin_clear {x : AV} : builtinA P H .clear [t] [x] = clearA P H t x := by simp [builtinA]
@[simp] theorem builtin_copy {x y : AV} : builtinA P H .copy [t, t] [x, y] = copyA P H t x y := by simp [builtinA]
theorem elT_info {el : TypeId} {b : Nat} (h : elT P t = some (el, k, b)) : ∃ i, P.underlying t = some (.slice el) ∧ P.info? el = some i ∧ i.size = k ∧ i.bytes = b := by
  unfold elT at h
  split at h
  · rename_i e' ht
    obtain ⟨i, hi, hq⟩ := Option.map_eq_some_iff.1 h
    cases hq
    exact ⟨i, ht, hi, rfl, rfl⟩
  · cases h
@[simp] theorem srcA_nil0 : srcA H k .nil0 = some (0, []) := _root_.id rfl
@[simp] theorem srcA_nil : srcA H k (.c (.slice none 0 0)) = some (0, []) := _root_.id rfl
/-! ### the operations by these facts, without conditions -/
def szT (P : Program) (t : TypeId) : Option Nat := (P.info? t).map (·.size)
/-- A slice's element: its type, size, bytes, and the cells of its zero. -/
def ezT (P : Program) (t : TypeId) : Option (TypeId × Nat × Nat × Nat) := match P.underlying t with
  | some (.slice e) => match P.info? e with
    | some i => match i.zero with
      | some z => if e < 1000000 then some (e, i.size, i.bytes, z.cells.size) else none
      | none => none
    | none => none
  | _ => none
/-- The cells of a type's zero, if it is plain. -/
def zlT (P : Program) (t : TypeId) : Option Nat := (zeroA P t).map (·.cells.length)

def ixLs (x : Option (TypeId × Nat × Nat)) (k : Nat) (es : List AV) (z : Int) : Option AV := match x with
  | some (_, s, _) => if 0 ≤ z ∧ k = s then (es[z.toNat]?).map (AV.pe · 0) else none
  | none => none
@[simp] theorem ixLs_some {el b : Nat} : ixLs (some (el, s, b)) k es z = if 0 ≤ z ∧ k = s then (es[z.toNat]?).map (AV.pe · 0) else none := _root_.id rfl
@[simp] theorem ix_ls : indexAddrA P t (.ls k es) (.c (.int kd z)) = ixLs (elT P t) k es z := by
  unfold indexAddrA elT
  split
  · rename_i e k' z' ht hi
    cases hi
    rw [ht]
    dsimp only
    cases P.info? e <;> rfl
  · rename_i n e k' z' ht hi
    cases hi
    rw [ht]
    dsimp only
    cases P.info? e with
    | none => rfl
    | some i => simp only [shift]; split <;> rfl
  · rename_i h1 h2
    split
    · rename_i e ht; exact absurd rfl (h1 e kd z ht)
    · rfl
def ixOwn (x : Option (TypeId × Nat × Nat)) (id off n k : Nat) (z : Int) : Option AV := match x with
  | some (_, s, _) => if 0 ≤ z ∧ z < n ∧ k = s then some (.ptr id (off + z.toNat * k)) else none
  | none => none
@[simp] theorem ixOwn_some {el b : Nat} : ixOwn (some (el, s, b)) id off n k z = if 0 ≤ z ∧ z < n ∧ k = s then some (.ptr id (off + z.toNat * k)) else none := _root_.id rfl
@[simp] theorem ix_own : indexAddrA P t (.own id off n k) (.c (.int kd z)) = ixOwn (elT P t) id off n k z := by
  unfold indexAddrA elT
  split
  · rename_i e k' z' ht hi
    cases hi
    rw [ht]
    dsimp only
    cases P.info? e <;> rfl
  · rename_i n e k' z' ht hi
    cases hi
    rw [ht]
    dsimp only
    cases P.info? e with
    | none => rfl
    | some i => simp only [shift]; split <;> rfl
  · rename_i h1 h2
    split
    · rename_i e ht; exact absurd rfl (h1 e kd z ht)
    · rfl
def ixArr (x : Option (Nat × Nat)) (z : Int) (a : AV) : Option AV := match x with
  | some (n, s) => if 0 ≤ z ∧ z < n then shift (z.toNat * s) a else none
  | none => none
@[simp] theorem ixArr_some {a : AV} : ixArr (some (n, s)) z a = if 0 ≤ z ∧ z < n then shift (z.toNat * s) a else none := _root_.id rfl
theorem ix_arr (a : AV) (ha : isPtrA a = true) : indexAddrA P t a (.c (.int kd z)) = ixArr (arT P t) z a := by
  unfold indexAddrA arT
  split
  · rename_i e k' z' ht hi
    cases hi
    rw [ht]
    dsimp only
    cases P.info? e with
    | none => rfl
    | some i => cases a <;> simp [isPtrA] at ha <;> rfl
  · rename_i n e k' z' ht hi
    cases hi
    rw [ht]
    dsimp only
    cases P.info? e <;> rfl
  · rename_i h1 h2
    split
    · rename_i m e ht; exact absurd rfl (h2 m e kd z ht)
    · rfl
@[simp] theorem ix_ptr : indexAddrA P t (.ptr id off) (.c (.int kd z)) = ixArr (arT P t) z (.ptr id off) := ix_arr _ rfl
@[simp] theorem ix_pe : indexAddrA P t (.pe e off) (.c (.int kd z)) = ixArr (arT P t) z (.pe e off) := ix_arr _ rfl
def fldA (x : Option Nat) (a : AV) : Option AV := match x with | some o => shift o a | none => none
@[simp] theorem fldA_some {a : AV} : fldA (some off) a = shift off a := _root_.id rfl
@[simp] theorem fieldAddrA_fld {f : Nat} {x : AV} : fieldAddrA P t x f = fldA (fldT P t f) x := by
  unfold fieldAddrA fldT
  cases P.underlying t with
  | none => rfl
  | some d =>
    cases d <;> try rfl
    case struct fs =>
      dsimp only
      cases fs[f]? with
      | none => rfl
      | some fd =>
        dsimp only
        cases P.info? fd.type with
        | none => rfl
        | some i => dsimp only; split <;> rfl
def cvI (a b : Option IntKind) (z : Int) : Option AV := match a, b with
  | some _, some k => some (.c (.int k (k.wrap z)))
  | _, _ => none
@[simp] theorem cvI_some : cvI (some kd) (some kd') z = some (.c (.int kd' (kd'.wrap z))) := _root_.id rfl
@[simp] theorem convA_knd {t' : TypeId} {k0 : IntKind} : convA P H t t' (.c (.int k0 z)) = cvI (kndT P t) (kndT P t') z := by
  have hs : srcA H 1 (.c (.int k0 z)) = none := rfl
  unfold convA kndT
  cases P.underlying t with
  | none => cases P.underlying t' <;> rfl
  | some d =>
    cases P.underlying t' with
    | none => cases d <;> rfl
    | some d' =>
      cases d <;> cases d' <;> first
        | rfl
        | (dsimp only; rw [hs]; split <;> rfl)
def prtA (x : Option (Bool × Nat)) (cs : List AV) (off : Nat) : Option AV := match x with
  | some (true, s) => if off + s ≤ cs.length then some (.agg ((cs.drop off).take s)) else none
  | some (false, _) => cs[off]?
  | none => none
@[simp] theorem prtA_row : prtA (some (true, s)) cs off = if off + s ≤ cs.length then some (.agg ((cs.drop off).take s)) else none := _root_.id rfl
@[simp] theorem prtA_cell : prtA (some (false, s)) cs off = cs[off]? := _root_.id rfl
theorem part_prt : part P t cs off = prtA (rowT P t) cs off := by
  unfold part rowT
  cases P.info? t with
  | none => rfl
  | some i =>
    cases P.underlying t with
    | none => rfl
    | some d =>
      simp only
      cases hd : d.isRow <;> simp [prtA]
def ldPe (x : Option (Bool × Nat)) (e : AV) (off : Nat) : Option AV := match x with
  | some (true, s) => if off = 0 ∧ e.isAgg = true ∧ s = e.cells.length then some e else prtA (some (true, s)) e.cells off
  | x => prtA x e.cells off
@[simp] theorem ldPe_row : ldPe (some (true, s)) e off = if off = 0 ∧ e.isAgg = true ∧ s = e.cells.length then some e else prtA (some (true, s)) e.cells off := _root_.id rfl
@[simp] theorem ldPe_cell : ldPe (some (false, s)) e off = e.cells[off]? := _root_.id rfl
@[simp] theorem load_pe : loadA P H t (.pe e off) = ldPe (rowT P t) e off := by
  simp only [loadA]
  rw [part_prt]
  unfold rowT
  cases P.info? t with
  | none => simp [ldPe, prtA]
  | some i =>
    cases P.underlying t with
    | none => simp [ldPe, prtA]
    | some d =>
      cases hd : d.isRow with
      | false => simp [ldPe, prtA, hd]
      | true => simp [ldPe, hd]
def ldPtr (x : Option (Bool × Nat)) (o : Option AObj) (off : Nat) : Option AV := match o with
  | some (.row _ _ cs) => prtA x cs off
  | _ => none
@[simp] theorem ldPtr_row {x : Option (Bool × Nat)} {b : Bool} : ldPtr x (some (.row t b cs)) off = prtA x cs off := _root_.id rfl
@[simp] theorem load_ptr : loadA P H t (.ptr id off) = ldPtr (rowT P t) H[id]? off := by
  simp only [loadA, ldPtr]
  cases H[id]? with
  | none => rfl
  | some o => cases o with
    | dead => rfl
    | row t' b cs => exact part_prt
def stP (x : Option Nat) (H : List AObj) (id off : Nat) (y : AV) (o : Option AObj) : Option (List AObj) := match x, o with
  | some s, some (.row t false cs) => if y.cells.length = s ∧ off + s ≤ cs.length ∧ y.stA = true then some (H.set id (.row t false (splice cs off y.cells))) else none
  | _, _ => none
@[simp] theorem stP_row {y : AV} : stP (some s) H id off y (some (.row t false cs)) = if y.cells.length = s ∧ off + s ≤ cs.length ∧ y.stA = true then some (H.set id (.row t false (splice cs off y.cells))) else none := _root_.id rfl
@[simp] theorem store_ptr {y : AV} : storeA P H t (.ptr id off) y = stP (szT P t) H id off y H[id]? := by
  simp only [storeA, szT]
  cases P.info? t with
  | none => rfl
  | some i =>
    cases H[id]? with
    | none => rfl
    | some o => cases o with
      | dead => rfl
      | row t' b cs => cases b <;> rfl
/-- Append by the facts of the type. -/
def apOwn (s b e n k id : Nat) (H : List AObj) (src : Option (Nat × List AV)) (o : Option AObj) : Option (AV × List AObj) := match src, o with
  | some (m, ys), some (.row t' false cs) => if m ≤ 100000000000 ∧ b ≤ 1000 ∧ t' = e ∧ k = s ∧ n + m ≤ 100000000000 then some (.own H.length 0 (n + m) k, H.set id .dead ++ [.row e false (cs.take (n * k) ++ ys)])
    else if m ≤ 100000000000 ∧ b ≤ 1000 ∧ 1000000 ≤ t' ∧ t' < 2000000 ∧ k = s ∧ 0 < k ∧ n * k = cs.length ∧ 0 < m ∧ n + m ≤ 100000000000 then some (.own H.length 0 (n + m) k, H ++ [.row e false (cs ++ ys)]) else none
  | _, _ => none
@[simp] theorem apOwn_row {b e' m : Nat} {ys : List AV} : apOwn s b e' n k id H (some (m, ys)) (some (.row t false cs)) = if m ≤ 100000000000 ∧ b ≤ 1000 ∧ t = e' ∧ k = s ∧ n + m ≤ 100000000000 then some (.own H.length 0 (n + m) k, H.set id .dead ++ [.row e' false (cs.take (n * k) ++ ys)])
    else if m ≤ 100000000000 ∧ b ≤ 1000 ∧ 1000000 ≤ t ∧ t < 2000000 ∧ k = s ∧ 0 < k ∧ n * k = cs.length ∧ 0 < m ∧ n + m ≤ 100000000000 then some (.own H.length 0 (n + m) k, H ++ [.row e' false (cs ++ ys)]) else none := _root_.id rfl
def apNil (s b e : Nat) (H : List AObj) (src : Option (Nat × List AV)) : Option (AV × List AObj) := match src with
  | some (m, ys) => if m ≤ 100000000000 ∧ b ≤ 1000 then some (.own H.length 0 m s, H ++ [.row e false ys]) else none
  | none => none
@[simp] theorem apNil_some {b e' m : Nat} {ys : List AV} : apNil s b e' H (some (m, ys)) = if m ≤ 100000000000 ∧ b ≤ 1000 then some (.own H.length 0 m s, H ++ [.row e' false ys]) else none := _root_.id rfl
def apA (x : Option (TypeId × Nat × Nat × Nat)) (H : List AObj) (id n k : Nat) (y : AV) : Option (AV × List AObj) := match x with
  | some (e, s, b, zc) => if zc = s then apOwn s b e n k id H (srcA H s y) H[id]? else none
  | none => none
@[simp] theorem apA_some {b e' zc : Nat} {y : AV} : apA (some (e', s, b, zc)) H id n k y = if zc = s then apOwn s b e' n k id H (srcA H s y) H[id]? else none := _root_.id rfl
def apN (x : Option (TypeId × Nat × Nat × Nat)) (H : List AObj) (y : AV) : Option (AV × List AObj) := match x with
  | some (e, s, b, zc) => if zc = s then apNil s b e H (srcA H s y) else none
  | none => none
@[simp] theorem apN_some {b e' zc : Nat} {y : AV} : apN (some (e', s, b, zc)) H y = if zc = s then apNil s b e' H (srcA H s y) else none := _root_.id rfl
@[simp] theorem append_own {y : AV} : appendA P H t (.own id 0 n k) y = apA (ezT P t) H id n k y := by
  unfold appendA ezT
  cases P.underlying t with
  | none => rfl
  | some d =>
    cases d <;> try rfl
    case slice el =>
      dsimp only
      cases P.info? el with
      | none => rfl
      | some i =>
        dsimp only
        cases i.zero with
        | none => rfl
        | some z =>
          by_cases hel : el < 1000000
          case neg => simp only [hel, and_false, if_false]; rfl
          simp only [hel, and_true, if_true]
          dsimp only [apA]
          by_cases hz : z.cells.size = i.size
          · rw [if_pos hz, if_pos hz]
            cases srcA H i.size y with
            | none => rfl
            | some p =>
              obtain ⟨m, ys⟩ := p
              dsimp only
              by_cases hc : m ≤ 100000000000 ∧ i.bytes ≤ 1000
              · rw [if_pos hc]
                show (match H[id]? with
                  | some (.row t' false cs) => if t' = el ∧ k = i.size ∧ n + m ≤ 100000000000 then some (AV.own H.length 0 (n + m) k, H.set id AObj.dead ++ [AObj.row el false (cs.take (n * k) ++ ys)])
                    else if 1000000 ≤ t' ∧ t' < 2000000 ∧ k = i.size ∧ 0 < k ∧ n * k = cs.length ∧ 0 < m ∧ n + m ≤ 100000000000 then some (AV.own H.length 0 (n + m) k, H ++ [AObj.row el false (cs ++ ys)]) else none
                  | _ => none) = _
                generalize H[id]? = ho
                cases ho with
                | none => rfl
                | some o =>
                  cases o with
                  | dead => rfl
                  | row t' b cs =>
                    cases b with
                    | true => rfl
                    | false =>
                      dsimp only [apOwn]
                      simp only [hc.1, hc.2, true_and]
              · rw [if_neg hc]
                generalize H[id]? = ho
                cases ho with
                | none => rfl
                | some o =>
                  cases o with
                  | dead => rfl
                  | row t' b cs =>
                    cases b with
                    | true => rfl
                    | false => dsimp only [apOwn]; rw [if_neg (fun h => hc ⟨h.1, h.2.1⟩), if_neg (fun h => hc ⟨h.1, h.2.1⟩)]
          · rw [if_neg hz, if_neg hz]
theorem append_nils {a y : AV} (ha : a = .nil0 ∨ a = .c (.slice none 0 0)) : appendA P H t a y = apN (ezT P t) H y := by
  unfold appendA ezT
  cases P.underlying t with
  | none => rfl
  | some d =>
    cases d <;> try rfl
    case slice el =>
      dsimp only
      cases P.info? el with
      | none => rfl
      | some i =>
        dsimp only
        cases i.zero with
        | none => rfl
        | some z =>
          by_cases hel : el < 1000000
          case neg => simp only [hel, and_false, if_false]; rfl
          simp only [hel, and_true, if_true]
          dsimp only [apN]
          by_cases hz : z.cells.size = i.size
          · rw [if_pos hz, if_pos hz]
            cases srcA H i.size y with
            | none => rfl
            | some p =>
              obtain ⟨m, ys⟩ := p
              dsimp only [apNil]
              by_cases hc : m ≤ 100000000000 ∧ i.bytes ≤ 1000
              · rw [if_pos hc, if_pos hc]
                rcases ha with rfl | rfl <;> rfl
              · rw [if_neg hc, if_neg hc]
          · rw [if_neg hz, if_neg hz]
@[simp] theorem append_nil0 {y : AV} : appendA P H t .nil0 y = apN (ezT P t) H y := append_nils (.inl rfl)
@[simp] theorem append_nil {y : AV} : appendA P H t (.c (.slice none 0 0)) y = apN (ezT P t) H y := append_nils (.inr rfl)
/-- A literal slice of one element, by the facts of the type. -/
def b1A (x : Option (TypeId × Nat × Nat)) (z : Option Nat) (H : List AObj) (a : AV) : Option (AV × List AObj) := match x, z with
  | some (e, s, _), some l => if l = s ∧ 0 < s ∧ s ≤ 16777216 ∧ a.cells.length = s ∧ a.stA = true then some (.own H.length 0 1 s, H ++ [.row e false a.cells]) else none
  | _, _ => none
@[simp] theorem b1A_some {e' b l : Nat} {a : AV} : b1A (some (e', s, b)) (some l) H a = if l = s ∧ 0 < s ∧ s ≤ 16777216 ∧ a.cells.length = s ∧ a.stA = true then some (.own H.length 0 1 s, H ++ [.row e' false a.cells]) else none := _root_.id rfl
@[simp] theorem buildSlice_1 {a : AV} : buildSliceA P H t 1 [(0, a)] = b1A (elT P t) ((elT P t).bind fun p => zlT P p.1) H a := by
  unfold buildSliceA elT
  cases P.underlying t with
  | none => rfl
  | some d =>
    cases d <;> try rfl
    case slice el =>
      dsimp only
      cases P.info? el with
      | none => rfl
      | some i =>
        dsimp only [Option.map_some, Option.bind_some, zlT]
        cases zeroA P el with
        | none => rfl
        | some zv =>
          dsimp only [Option.map_some, Option.bind_some, b1A]
          rw [if_neg (by simp)]
          have hr : reps 1 zv.cells = zv.cells := by simp [reps]
          by_cases h1 : zv.cells.length = i.size ∧ 0 < i.size ∧ i.size ≤ 16777216
          · by_cases h2 : a.cells.length = i.size ∧ a.stA = true
            · rw [if_pos ⟨h1.1, h1.2.1, by omega, by omega⟩, if_pos ⟨h1.1, h1.2.1, h1.2.2, h2.1, h2.2⟩]
              have : fillA (fun j => some (j * i.size, i.size)) (reps 1 zv.cells) [(0, a)] = some a.cells := by
                simp only [fillA, hr]
                rw [if_pos ⟨h2.1, by omega, h2.2⟩]
                simp [splice, h2.1, h1.1]
              rw [this]
              rfl
            · rw [if_pos ⟨h1.1, h1.2.1, by omega, by omega⟩, if_neg (fun h => h2 ⟨h.2.2.2.1, h.2.2.2.2⟩)]
              have : fillA (fun j => some (j * i.size, i.size)) (reps 1 zv.cells) [(0, a)] = none := by
                simp only [fillA]
                rw [if_neg (fun h => h2 ⟨h.1, h.2.2⟩)]
              rw [this]
              rfl
          · rw [if_neg (fun h => h1 ⟨h.1, h.2.1, by omega⟩), if_neg (fun h => h1 ⟨h.1, h.2.1, h.2.2.1⟩)]
@[simp] theorem stA_agg : (AV.agg cs).stA = true := _root_.id rfl
@[simp] theorem stA_c {v : Value} : (AV.c v).stA = true := _root_.id rfl
@[simp] theorem stA_ls : (AV.ls k es).stA = true := _root_.id rfl
@[simp] theorem stA_own : (AV.own id off n k).stA = true := _root_.id rfl
@[simp] theorem cells_agg : (AV.agg cs).cells = cs := _root_.id rfl
@[simp] theorem cells_c {v : Value} : (AV.c v).cells = [.c v] := _root_.id rfl
@[simp] theorem cells_ls : (AV.ls k es).cells = [.ls k es] := _root_.id rfl
@[simp] theorem cells_own : (AV.own id off n k).cells = [.own id off n k] := _root_.id rfl
@[simp] theorem isAgg_agg : (AV.agg cs).isAgg = true := _root_.id rfl
@[simp] theorem isAgg_c {v : Value} : (AV.c v).isAgg = false := _root_.id rfl
@[simp] theorem isAgg_ls : (AV.ls k es).isAgg = false := _root_.id rfl

def srcO (k k' off n : Nat) (o : Option AObj) : Option (Nat × List AV) := match o with
  | some (.row _ _ cs) => if k' = k then some (n, (cs.drop off).take (n * k)) else none
  | _ => none
@[simp] theorem srcO_row {b : Bool} {k' : Nat} : srcO k k' off n (some (.row t b cs)) = if k' = k then some (n, (cs.drop off).take (n * k)) else none := _root_.id rfl
@[simp] theorem srcA_obj {k' : Nat} : srcA H k (.own id off n k') = srcO k k' off n H[id]? := by
  simp only [srcA, srcO]
  cases H[id]? with
  | none => rfl
  | some o => cases o <;> rfl
@[simp] theorem srcA_ls' {k' : Nat} : srcA H k (.ls k' es) = if k' = k then some (es.length, flat es) else none := _root_.id rfl
theorem take_succ_map {α : Type} {l : List α} {k : Nat} {x : α} (h : l[k]? = some x) : l.take (k + 1) = l.take k ++ [x] := by rw [List.take_add_one, h]; rfl
end
end

section
open Go.RowKit

section
variable {P : Program} {F : Nat → Prop} {β β' : Loc} {H H' : List AObj} {w w' : World} {env : Env} {f : FuncId} {args args' : List AV} {Q : AV → List AObj → Prop}

/-- The objects H' are those of H at the places srcs, none of them naming others. -/
def gcL (H : List AObj) : List Nat → List AObj → Prop
  | [], [] => True
  | _s :: l, .dead :: m => gcL H l m
  | s :: l, .row t fz cs :: m => H[s]? = some (.row t fz cs) ∧ (∀ a ∈ cs, Bd 0 a) ∧ gcL H l m
  | _, _ => False
@[simp] theorem gcL_nil : gcL H [] [] = True := _root_.id rfl
@[simp] theorem gcL_row (s : Nat) (l : List Nat) (t : TypeId) (fz : Bool) (cs : List AV) (m : List AObj) : gcL H (s :: l) (.row t fz cs :: m) = (H[s]? = some (.row t fz cs) ∧ (∀ a ∈ cs, Bd 0 a) ∧ gcL H l m) := _root_.id rfl
@[simp] theorem gcL_dead (s : Nat) (l : List Nat) (m : List AObj) : gcL H (s :: l) (.dead :: m) = gcL H l m := _root_.id rfl
theorem gcL_at : ∀ {l : List Nat} {m : List AObj}, gcL H l m → m.length = l.length ∧ ∀ (i : Nat) (t : TypeId) (fz : Bool) (cs : List AV), m[i]? = some (.row t fz cs) → ∃ s, l[i]? = some s ∧ H[s]? = some (.row t fz cs) ∧ ∀ a ∈ cs, Bd 0 a
  | [], [], _ => ⟨rfl, fun i t fz cs h => by simp at h⟩
  | s :: l, .dead :: m, h => by
    obtain ⟨h1, h2⟩ := gcL_at (l := l) (m := m) h
    refine ⟨by simp [h1], fun i t fz cs hi => ?_⟩
    cases i with
    | zero => simp at hi
    | succ i => exact h2 i t fz cs (by simpa using hi)
  | s :: l, .row t fz cs :: m, h => by
    obtain ⟨e1, e2, e3⟩ := h
    obtain ⟨h1, h2⟩ := gcL_at (l := l) (m := m) e3
    refine ⟨by simp [h1], fun i t' fz' cs' hi => ?_⟩
    cases i with
    | zero => simp at hi; obtain ⟨rfl, rfl, rfl⟩ := hi; exact ⟨s, rfl, e1, e2⟩
    | succ i => exact h2 i t' fz' cs' (by simpa using hi)
  | [], .dead :: _, h => h.elim
  | [], .row _ _ _ :: _, h => h.elim
  | _ :: _, [], h => h.elim
theorem Bd.mono {n m : Nat} (h : n ≤ m) {a : AV} (hb : Bd n a) : Bd m a := by
  induction hb with
  | any => exact .any
  | c v => exact .c v
  | nil0 => exact .nil0
  | own hi => exact .own (by omega)
  | ptr hi => exact .ptr (by omega)
  | mh hi => exact .mh (by omega)
  | agg _ ih => exact .agg ih
  | tup _ ih => exact .tup ih
  | fn _ ih => exact .fn ih
  | ifc _ ih => exact .ifc ih
  | itr _ ih => exact .itr ih
  | ls _ ih => exact .ls ih
  | pe _ ih => exact .pe ih
/-- Objects renumbered, the lent ones keeping their numbers: srcs are the old places of the new objects. -/
theorem View.renumL {L : Nat} {env' : List AV} (srcs : List Nat) (hn : srcs.Nodup) (hL : L ≤ srcs.length) (hlow : ∀ i, i < L → srcs.getD i 0 = i) (hH : gcL H srcs H') (he : Pw (Rn L H'.length (fun i => srcs.getD i 0)) env env') : View L env H env' H' := by
  obtain ⟨h1, h2⟩ := gcL_at hH
  obtain ⟨h3, h4⟩ := he.at_
  refine View.gc (fun i => srcs.getD i 0) ⟨hlow, fun i j hi hj e => ?_, by omega, fun i t fz cs hi => ?_⟩ h3 h4
  · rw [h1] at hi hj
    simp only [List.getD_eq_getElem?_getD, List.getElem?_eq_getElem hi, List.getElem?_eq_getElem hj, Option.getD_some] at e
    rcases Nat.lt_trichotomy i j with h | h | h
    · exact absurd e (List.pairwise_iff_getElem.1 hn i j hi hj h)
    · exact h
    · exact absurd e.symm (List.pairwise_iff_getElem.1 hn j i hj hi h)
  · obtain ⟨s, e1, e2, e3⟩ := h2 i t fz cs hi
    refine ⟨cs, by simp only [List.getD_eq_getElem?_getD, e1, Option.getD_some]; exact e2, rfl, fun j a b ha hb => ?_⟩
    rw [ha] at hb
    cases hb
    exact .bd ((e3 a (List.mem_of_getElem? ha)).mono (Nat.zero_le _))
theorem View.renum {env' : List AV} (srcs : List Nat) (hn : srcs.Nodup) (hH : gcL H srcs H') (he : Pw (Rn 0 H'.length (fun i => srcs.getD i 0)) env env') : View 0 env H env' H' :=
  View.renumL srcs hn (Nat.zero_le _) (fun i hi => by omega) hH he
@[simp] theorem Rn_ptr (L M : Nat) (src : Nat → Nat) (i j off : Nat) (h : src j = i ∧ j < M) : Rn L M src (.ptr i off) (.ptr j off) := h.1 ▸ .ptr j off h.2
@[simp] theorem Rn_mh (L M : Nat) (src : Nat → Nat) (i j : Nat) (h : src j = i ∧ j < M) : Rn L M src (.mh i) (.mh j) := h.1 ▸ .mh j h.2
@[simp] theorem Rn_same (L M : Nat) (src : Nat → Nat) (a : AV) (h : Bd 0 a) : Rn L M src a a := .bd (h.mono (Nat.zero_le _))
@[simp] theorem Rn_ls {L M : Nat} {src : Nat → Nat} {k : Nat} {es : List AV} (h : ∀ a ∈ es, Bd 0 a) : Rn L M src (.ls k es) (.ls k es) = True := eq_true (.bd (.ls fun a ha => (h a ha).mono (Nat.zero_le _)))
theorem FzH.set {id : Nat} {t : TypeId} {fz : Bool} {cs : List AV} (hi : H[id]? = some (.row t fz cs)) : FzH id cs H (H.set id .dead) := by
  have hl := (List.getElem?_eq_some_iff.1 hi).1
  refine ⟨by simp, get_set_eq hl, fun j t' fz' cs' hj => ?_⟩
  by_cases e : id = j
  · subst e; rw [get_set_eq hl] at hj; cases hj
  · rw [get_set_ne e] at hj
    exact ⟨cs', hj, rfl, fun i a b ha hb => by rw [ha] at hb; cases hb; exact .same _⟩
/-- An object is frozen at a call: its handles among the arguments become immutable slices. -/
theorem PCall.freeze {id : Nat} {t : TypeId} {fz : Bool} {cs : List AV} (hi : H[id]? = some (.row t fz cs)) (ha : Pw (Fz id cs) args args') (h : PCall P f args' (H.set id .dead) Q) : PCall P f args H Q :=
  PCall.view (View.freeze hi (FzH.set hi) ha.at_.1 ha.at_.2) h
/-- A result that is an object's slice is frozen. -/
theorem View.fz1 {L : Nat} {id : Nat} {t : TypeId} {fz : Bool} {cs : List AV} {x y : AV} (hi : H[id]? = some (.row t fz cs)) (h : Fz id cs x y) : View L [x] H [y] (H.set id .dead) :=
  View.freeze hi (FzH.set hi) rfl (fun i a b ha hb => by
    cases i with
    | zero => simp at ha hb; subst ha; subst hb; exact h
    | succ i => simp at ha)
@[simp] theorem Fz_same (id : Nat) (cs : List AV) (a : AV) : Fz id cs a a = True := eq_true (.same a)
theorem Fz.whole {id n k : Nat} {cs : List AV} {es : List AV} (hk : ∀ e ∈ es, e.cells.length = k) (hn : es.length = n) (hf : flat es = cs) : Fz id cs (.own id 0 n k) (.ls k es) := by
  refine .own hk hn ?_
  rw [List.drop_zero, List.take_of_length_le]
  · exact hf
  · rw [← hf, flat_len hk, hn]; exact Nat.le_refl _

/-- A call of a function that knows no objects and has one answer. -/
theorem PCall.use {r : AV} (h : PCall P f args [] (fun x _ => Bd 0 x ∧ x = r)) (ha : ∀ a ∈ args, Bd 0 a) (hq : Q r H) : PCall P f args H Q :=
  (PCall.det h ha H).mono (fun x H' ⟨h1, h2⟩ => by rw [h1, h2]; exact hq)

/-! ### rows collected so far -/
/-- The cells of the first k elements. -/
def pre {α : Type} (enc : α → AV) (l : List α) (k : Nat) : List AV := flat ((l.take k).map enc)
section
variable {α : Type} {enc : α → AV} {l : List α} {k n s : Nat} {x : α}
theorem pre_zero : pre enc l 0 = [] := by simp [pre, flat]
theorem pre_succ (h : l[k]? = some x) : pre enc l (k + 1) = pre enc l k ++ (enc x).cells := by
  unfold pre
  rw [List.take_add_one, h]
  simp [flat]
theorem pre_len (h : ∀ x ∈ l, (enc x).cells.length = s) (hk : k ≤ l.length) : (pre enc l k).length = k * s := by
  unfold pre
  rw [flat_len (k := s) (fun e he => by
    obtain ⟨x, hx, rfl⟩ := List.mem_map.1 he
    exact h x (List.mem_of_mem_take hx)), List.length_map, List.length_take, Nat.min_eq_left hk]
theorem pre_bd (h : ∀ x ∈ l, Bd n (enc x)) : ∀ a ∈ pre enc l k, Bd n a := Bd.flat (fun e he => by
  obtain ⟨x, hx, rfl⟩ := List.mem_map.1 he
  exact h x (List.mem_of_mem_take hx))
theorem pre_all : pre enc l l.length = flat (l.map enc) := by simp [pre]
/-- All that was collected, frozen. -/
theorem Fz.pre {id : Nat} (h : ∀ x ∈ l, (enc x).cells.length = s) : Fz id (pre enc l l.length) (.own id 0 l.length s) (.ls s (l.map enc)) := by
  refine Fz.whole (fun e he => ?_) (by simp) pre_all.symm
  obtain ⟨x, hx, rfl⟩ := List.mem_map.1 he
  exact h x hx
end
end
end

section
open Go.RowKit

section
variable {P : Program} {t : TypeId} {s n m k off : Nat} {kd kd' : IntKind} {z : Int} {H : List AObj} {cs es : List AV} {e : AV} {id : Nat}
/-- An array's length, its element's type and size. -/
def areT (P : Program) (t : TypeId) : Option (Nat × TypeId × Nat) := match P.underlying t with
  | some (.array n e) => (P.info? e).map fun i => (n, e, i.size)
  | _ => none
def ixG (P : Program) (x : Option (Nat × TypeId × Nat)) (cs : List AV) (z : Int) : Option AV := match x with
  | some (n, e, s) => if 0 ≤ z ∧ z < n then prtA (rowT P e) cs (z.toNat * s) else none
  | none => none
@[simp] theorem ixG_some {el : TypeId} : ixG P (some (n, el, s)) cs z = if 0 ≤ z ∧ z < n then prtA (rowT P el) cs (z.toNat * s) else none := _root_.id rfl
@[simp] theorem index_agg : indexA P t (.agg cs) (.c (.int kd z)) = ixG P (areT P t) cs z := by
  unfold indexA areT
  cases P.underlying t with
  | none => rfl
  | some d =>
    cases d <;> try rfl
    case array n el =>
      dsimp only
      cases P.info? el with
      | none => rfl
      | some i => dsimp only [ixG, Option.map_some]; rw [part_prt]
/-- The index of an array or of a string. -/
def idxA (P : Program) (t : TypeId) (x i : AV) : Option AV := match x, i with
  | .c (.string s), .c (.int _ z) => if strT P t = true then (if 0 ≤ z then (s[z.toNat]?).map fun b => .c (.int .u8 b.toNat) else none) else none
  | x, i => indexA P t x i
@[simp] theorem idxA_agg : idxA P t (.agg cs) (.c (.int kd z)) = ixG P (areT P t) cs z := by
  show indexA P t (.agg cs) (.c (.int kd z)) = _
  exact index_agg
@[simp] theorem opA_index {ρ : Operand → AV} {d : Option Tmp} {ty : TypeId} {pos : String} {after : Array Edge} {g : Option (Nat × Bool)} (x i : Operand) : opA P H ρ ⟨d, .index t x i, ty, pos, after, g⟩ = (idxA P t (ρ x) (ρ i)).map (.val · H) := by
  simp only [opA, idxA]
  generalize ρ x = a
  generalize ρ i = b
  cases a <;> try rfl
  case c u =>
    cases u <;> try rfl
    case string s =>
      cases b <;> try rfl
      case c v =>
        cases v <;> try rfl
        case int k z =>
          dsimp only
          split
          · split <;> rfl
          · rfl
def alZ (z : Option AV) (H : List AObj) (t : TypeId) : Option (AV × List AObj) := match z with
  | some z => some (.ptr H.length 0, H ++ [.row (t + 1000000) false z.cells])
  | none => none
@[simp] theorem alZ_some {z : AV} : alZ (some z) H t = some (.ptr H.length 0, H ++ [.row (t + 1000000) false z.cells]) := _root_.id rfl
@[simp] theorem allocA_eq : allocA P H t = alZ (zeroA P t) H t := by unfold allocA alZ; cases zeroA P t <;> rfl
@[simp] theorem boxA_eq {x : AV} : boxA H t x = if x.stA = true ∧ t < 1000000 then some (.ptr H.length 0, H ++ [.row (t + 1000000) false x.cells]) else none := _root_.id rfl
/-- Where a literal's parts go: a struct's fields, or an array's element size. -/
inductive Plc where
  | fields (l : List (Nat × Nat))
  | elems (s : Nat)
def Plc.at_ : Plc → Nat → Option (Nat × Nat)
  | .fields l, i => l[i]?
  | .elems s, i => some (i * s, s)
@[simp] theorem Plc.at_fields (l : List (Nat × Nat)) (i : Nat) : (Plc.fields l).at_ i = l[i]? := _root_.id rfl
@[simp] theorem Plc.at_elems (s i : Nat) : (Plc.elems s).at_ i = some (i * s, s) := _root_.id rfl
def bldT (P : Program) (t : TypeId) : Option Plc := match P.underlying t with
  | some (.struct fields) => (pv P (fields.mapM fun f => do pure (f.offset, ← sizeOf f.type))).map fun ps => .fields ps.toList
  | some (.array _ e) => (P.info? e).map fun i => .elems i.size
  | _ => none
/-- Parts put into a row of cells. -/
def fillP (p : Plc) (cells : List AV) : List (Nat × AV) → Option (List AV)
  | [] => some cells
  | (i, a) :: rest => match p.at_ i with
    | none => none
    | some (off, size) => if a.cells.length = size ∧ off + size ≤ cells.length ∧ a.stA = true then fillP p (splice cells off a.cells) rest else none
@[simp] theorem fillP_nil {p : Plc} : fillP p cs [] = some cs := _root_.id rfl
def putP (p : Plc) (cells : List AV) (a : AV) (rest : List (Nat × AV)) : Option (Nat × Nat) → Option (List AV)
  | none => none
  | some (off, size) => if a.cells.length = size ∧ off + size ≤ cells.length ∧ a.stA = true then fillP p (splice cells off a.cells) rest else none
@[simp] theorem putP_some {p : Plc} {a : AV} {rest : List (Nat × AV)} : putP p cs a rest (some (off, s)) = if a.cells.length = s ∧ off + s ≤ cs.length ∧ a.stA = true then fillP p (splice cs off a.cells) rest else none := _root_.id rfl
@[simp] theorem fillP_cons {p : Plc} {i : Nat} {a : AV} {rest : List (Nat × AV)} : fillP p cs ((i, a) :: rest) = putP p cs a rest (p.at_ i) := by
  simp only [fillP, putP]
theorem fillA_P {p : Plc} {place : Nat → Option (Nat × Nat)} (h : ∀ i, place i = p.at_ i) : ∀ (parts : List (Nat × AV)) (cs : List AV), fillA place cs parts = fillP p cs parts
  | [], _ => rfl
  | (i, a) :: rest, cs => by
    simp only [fillA, fillP, h i]
    cases p.at_ i with
    | none => rfl
    | some q =>
      obtain ⟨o, s⟩ := q
      dsimp only
      split
      · exact fillA_P h rest _
      · rfl
def bld (z : Option AV) (p : Option Plc) (parts : List (Nat × AV)) : Option AV := match z, p with
  | some (.agg zs), some p => (fillP p zs parts).map .agg
  | _, _ => none
@[simp] theorem bld_some {p : Plc} {parts : List (Nat × AV)} : bld (some (.agg cs)) (some p) parts = (fillP p cs parts).map .agg := _root_.id rfl
@[simp] theorem buildA_eq {parts : List (Nat × AV)} : buildA P t parts = bld (zeroA P t) (bldT P t) parts := by
  unfold buildA bld placesA bldT
  cases zeroA P t with
  | none => rfl
  | some z =>
    cases z <;> try rfl
    case agg zs =>
      cases P.underlying t with
      | none => rfl
      | some d =>
        cases d <;> try rfl
        case struct fields =>
          dsimp only
          cases pv P (fields.mapM fun f => do pure (f.offset, ← sizeOf f.type)) with
          | none => rfl
          | some ps =>
            dsimp only [Option.map_some]
            rw [fillA_P (p := .fields ps.toList) (fun i => by simp [Plc.at_])]
        case array n el =>
          dsimp only
          cases P.info? el with
          | none => rfl
          | some i =>
            dsimp only [Option.map_some]
            rw [fillA_P (place := fun j => some (j * i.size, i.size)) (p := .elems i.size) (fun j => rfl)]
/-- make, by the facts of the type. -/
def mkS (x : Option (TypeId × Nat × Nat)) (zo : Option AV) (H : List AObj) (l c : Int) : Option (AV × List AObj) := match x, zo with
  | some (e, s, b), some zv => if 0 ≤ l ∧ l ≤ c ∧ c ≤ 140737488355328 ∧ (b : Int) * c ≤ 140737488355328 ∧ zv.cells.length = s ∧ 0 < s then some (.own H.length 0 l.toNat s, H ++ [.row e false (reps c.toNat zv.cells)]) else none
  | _, _ => none
@[simp] theorem mkS_some {el b : Nat} {zv : AV} {l c : Int} : mkS (some (el, s, b)) (some zv) H l c = if 0 ≤ l ∧ l ≤ c ∧ c ≤ 140737488355328 ∧ (b : Int) * c ≤ 140737488355328 ∧ zv.cells.length = s ∧ 0 < s then some (.own H.length 0 l.toNat s, H ++ [.row el false (reps c.toNat zv.cells)]) else none := _root_.id rfl
@[simp] theorem makeSliceA_eq {l c : Int} : makeSliceA P H t (.c (.int kd l)) (.c (.int kd' c)) = mkS (elT P t) ((elT P t).bind fun p => zeroA P p.1) H l c := by
  unfold makeSliceA elT
  cases P.underlying t with
  | none => rfl
  | some d =>
    cases d <;> try rfl
    case slice el =>
      dsimp only
      cases P.info? el with
      | none => rfl
      | some i =>
        dsimp only [Option.map_some, Option.bind_some]
        cases zeroA P el <;> rfl
end

/-! ### encodings -/
abbrev byteA (b : UInt8) : AV := .c (.int .u8 b.toNat)
abbrev bytesA (bs : List UInt8) : AV := .ls 1 (bs.map byteA)
/-- A name: eight bytes. -/
def nmA (n : List UInt8) : AV := .agg (n.map byteA)
abbrev namesA (l : List (List UInt8)) : AV := .ls 8 (l.map nmA)
abbrev intA (z : Int) : AV := .c (.int .i64 z)
abbrev intsA (l : List Int) : AV := .ls 1 (l.map intA)
abbrev textsA (l : List (List UInt8)) : AV := .ls 1 (l.map bytesA)
section
variable {n : Nat} {bs : List UInt8}
@[simp] theorem byteA_cells (b : UInt8) : (byteA b).cells = [byteA b] := _root_.id rfl
@[simp] theorem nmA_cells (x : List UInt8) : (nmA x).cells = x.map byteA := _root_.id rfl
@[simp] theorem nmA_isAgg (x : List UInt8) : (nmA x).isAgg = true := _root_.id rfl
@[simp] theorem nmA_stA (x : List UInt8) : (nmA x).stA = true := _root_.id rfl
@[simp] theorem byteA_stA (b : UInt8) : (byteA b).stA = true := _root_.id rfl
@[simp] theorem byteA_isAgg (b : UInt8) : (byteA b).isAgg = false := _root_.id rfl
@[simp] theorem bytesA_stA (x : List UInt8) : (bytesA x).stA = true := _root_.id rfl
@[simp] theorem bytesA_cells (x : List UInt8) : (bytesA x).cells = [bytesA x] := _root_.id rfl
@[simp] theorem bytesA_isAgg (x : List UInt8) : (bytesA x).isAgg = false := _root_.id rfl
@[simp] theorem bd_byte (b : UInt8) : Bd n (byteA b) = True := eq_true (.c _)
@[simp] theorem bd_bytes (x : List UInt8) : Bd n (bytesA x) = True := by simp [bytesA]
@[simp] theorem bd_nm (x : List UInt8) : Bd n (nmA x) = True := by simp [nmA]
@[simp] theorem bd_names (l : List (List UInt8)) : Bd n (namesA l) = True := by simp [namesA]
@[simp] theorem bd_int (z : Int) : Bd n (intA z) = True := eq_true (.c _)
@[simp] theorem bd_ints (l : List Int) : Bd n (intsA l) = True := by simp [intsA]
@[simp] theorem bd_texts (l : List (List UInt8)) : Bd n (textsA l) = True := by simp [textsA]
theorem flat_bytes (x : List UInt8) : flat (x.map byteA) = x.map byteA := flat_ones (by simp)
end
end

section
theorem mixed : Tryz.prog.follows .mixedOrders = true := by kernel_rfl
end
end Go.Proofs.YthknobbilcolnaaGreat
