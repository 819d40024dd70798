/- Closed runs, reckoned by the kernel: an evaluator of code on abstract values, and that the machine does what it answers. No condition. committee.Has, members, IDs. No condition. committee.Lowest, Select. No condition. sort.Slice of no elements. No condition. -/
import Derived.Test.YthknobbilcolnaaGreatJn14
import Derived.RangeFuncBox
import Derived.RangeFuncLeaves
import Derived.RangeFuncNested
import Derived.Shelf.Abstract
import Derived.WalkKit
import Derived.OwnWalkIn
import Derived.TacticsInMore
import Derived.LoopNIn
import Derived.LoopIn
import Derived.Maps.AppendAt
import Derived.Lib.Hide
import Derived.Test.YthknobbilcolnaaGreatJn1
import Derived.Test.YthknobbilcolnaaGreatProg
import Derived.Shelf.RegionOpen
import Derived.Shelf.GgSortFunc.Tiny
import Derived.Test.YthknobbilcolnaaGreatLay4
namespace Go.Proofs.YthknobbilcolnaaGreat
section
open Go.RowKit

/-! ### operations -/
theorem eqI_map : ∀ {xs ys : List AV} {b : Bool}, eqI xs ys = some b → ∃ us vs : List Value, xs = us.map .c ∧ ys = vs.map .c ∧ Kin us vs ∧ (b = true ↔ us = vs)
  | [], [], b, h => by
    simp only [eqI] at h
    cases h
    exact ⟨[], [], rfl, rfl, fun i u v h => by simp at h, by simp⟩
  | x :: l, y :: m, b, h => by
    simp only [eqI] at h
    split at h
    · rename_i c0 hc0
      obtain ⟨c, hc, rfl⟩ := Option.map_eq_some_iff.1 h
      obtain ⟨us, vs, rfl, rfl, i1, i2⟩ := eqI_map hc
      unfold eqC at hc0
      split at hc0
      · split at hc0
        · rename_i k a k' b' hk
          subst hk
          cases hc0
          refine ⟨.int k a :: us, .int k b' :: vs, rfl, rfl, fun i u v hu hv => ?_, by simp [i2]⟩
          cases i with
          | zero => simp at hu hv; exact ⟨_, _, _, hu.symm, hv.symm⟩
          | succ i => exact i1 i u v (by simpa using hu) (by simpa using hv)
        · cases hc0
      · cases hc0
    · cases h
  | [], _ :: _, _, h => by simp [eqI] at h
  | _ :: _, [], _, h => by simp [eqI] at h
section
variable {P : Program}
def binC (P : Program) (op : BinOp) (t : TypeId) (ox oy : Operand) (x y : AV) : Option AV :=
  match x, y with
  | .c (.int k a), .c (.int k' b) =>
    if op = .shl ∨ op = .shr then (ishift op k a b).map .c
    else if k = k' then (ibin op k a b).map .c else none
  | .agg xs, .agg ys => match eqT P t with
    | some s => if xs.length = s ∧ ys.length = s then (match eqI xs ys with
      | some b => if op = .eql then some (.c (.bool b)) else if op = .neq then some (.c (.bool (!b))) else none
      | none => none) else none
    | none => none
  | x, y =>
    if (isNilV y && isPtrA x || isNilV x && isPtrA y) = true then
      if ptrT P t = true then (if op = .eql then some (.c (.bool false)) else if op = .neq then some (.c (.bool true)) else none) else none
    else match toV x, toV y with
      | some u, some v => (pv P (do eqGuard op t ox oy u v; binOp op t u v)).map fromV
      | _, _ => none
theorem pv_pvE {s : Sem Value} {v : Value} (h : pv P s = some v) : pvE P s = some v := by
  unfold pvE
  rw [h]
theorem binC_ok {op : BinOp} {t : TypeId} {ox oy : Operand} {x y a : AV} (h : binC P op t ox oy x y = some a) : binA P op t ox oy x y = some a := by
  unfold binC at h
  split at h
  · unfold binA; exact h
  · rename_i xs ys
    split at h
    · rename_i s ht
      split at h
      · rename_i hl
        split at h
        · rename_i b hb
          obtain ⟨us, vs, rfl, rfl, hk, hiff⟩ := eqI_map hb
          obtain ⟨b', h1, h2, h3⟩ := binA_rows (P := P) (ox := ox) (oy := oy) ht (by simpa using hl.1) (by simpa using hl.2) hk
          have : b' = b := by cases b <;> cases b' <;> simp_all
          subst this
          split at h
          · rename_i ho; subst ho; cases h; exact h2
          · split at h
            · rename_i ho; subst ho; cases h; exact h3
            · cases h
        · cases h
      · cases h
    · cases h
  · rename_i h1 h2
    have : binA P op t ox oy x y = if (isNilV y && isPtrA x || isNilV x && isPtrA y) = true then
      if ptrT P t = true then (if op = .eql then some (.c (.bool false)) else if op = .neq then some (.c (.bool true)) else none) else none
    else match toV x, toV y with
      | some u, some v => (pvE P (do eqGuard op t ox oy u v; binOp op t u v)).map fromV
      | _, _ => none := by
      unfold binA
      split
      · exact absurd rfl (h1 _ _ _ _ rfl)
      · rfl
    rw [this]
    split at h
    · rename_i hc; rw [if_pos hc]; exact h
    · rename_i hc
      rw [if_neg hc]
      split at h
      · rename_i u v hu hv
        obtain ⟨z, hz, rfl⟩ := Option.map_eq_some_iff.1 h
        simp only [pv_pvE hz, Option.map_some]
      · cases h
theorem toV_some {x : AV} (h : someK x ≠ 0) : toV x = none := by cases x <;> first | rfl | exact absurd rfl h
theorem binA_of_nl {op : BinOp} {t : TypeId} {ox oy : Operand} {x y a : AV} (h : nlA P op t x y = some a) : binA P op t ox oy x y = none := by
  unfold nlA at h
  split at h
  · rename_i hc
    have hp : ∀ {z : AV}, nilK z ≠ 0 → isNilV z = false ∧ isPtrA z = false := by
      intro z hz
      unfold nilK at hz
      split at hz <;> first | exact ⟨rfl, rfl⟩ | exact absurd rfl hz
    have hi : ∀ {z : AV}, (nilK z ≠ 0 ∨ someK z ≠ 0) → ∀ k b, z ≠ .c (.int k b) := by
      rintro z hz k b rfl
      exact hz.elim (fun h => h rfl) (fun h => h rfl)
    have hn : ∀ {z : AV}, someK z ≠ 0 → isNilV z = false := by
      intro z hz
      cases z <;> first | rfl | exact absurd rfl hz
    unfold binA
    rcases hc with ⟨h1, h2, h3⟩ | ⟨h1, h2, h3⟩
    · have hs : someK x ≠ 0 := by rw [← h2]; exact h1
      split
      · exact absurd rfl (hi (.inl h1) _ _)
      · rw [if_neg (by rw [(hp h1).1, hn hs]; simp), toV_some hs]
    · have hs : someK y ≠ 0 := by rw [← h2]; exact h1
      split
      · exact absurd rfl (hi (.inl h1) _ _)
      · rw [if_neg (by rw [(hp h1).1, hn hs]; simp)]
        split
        · rename_i hy; rw [toV_some hs] at hy; cases hy
        · rfl
  · cases h
theorem orA_ok {op : BinOp} {t : TypeId} {ox oy : Operand} {x y a : AV} (h : orA (binC P op t ox oy x y) (nlA P op t x y) = some a) : orA (binA P op t ox oy x y) (nlA P op t x y) = some a := by
  unfold orA at h
  split at h
  · rename_i b hb
    cases h
    rw [binC_ok hb]; rfl
  · rw [binA_of_nl h]; exact h
def exOp (P : Program) (H : List AObj) (ρ : Operand → AV) (o : Oper) : Option StepA :=
  let v (x : Option AV) : Option StepA := x.map (.val · H)
  let s (x : Option (AV × List AObj)) : Option StepA := x.map fun p => .val p.1 p.2
  match o.op with
  | .move x | .assign x => v (some (ρ x))
  | .pick c a b => match ρ c with
    | .c (.bool t) => v (some (if t then ρ a else ρ b))
    | _ => none
  | .alloc t => s (allocA P H t)
  | .box t x => s (boxA H t (ρ x))
  | .build t parts => v (buildA P t (parts.toList.map fun p => (p.1, ρ p.2)))
  | .buildSlice t len parts => s (buildSliceA P H t len (parts.toList.map fun p => (p.1, ρ p.2)))
  | .load t x => v (loadA P H t (ρ x))
  | .store t x y => (storeA P H t (ρ x) (ρ y)).map fun H' => .val .any H'
  | .nilCheck x => match ρ x with
    | .ptr id off => v (some (.ptr id off))
    | .pe e off => v (some (.pe e off))
    | .fn f caps => v (some (.fn f caps))
    | _ => none
  | .binOp op t x y _ => v (orA (binC P op t x y (ρ x) (ρ y)) (nlA P op t (ρ x) (ρ y)))
  | .unOp op _ x => match toV (ρ x) with
    | some u => v ((pv P (Op.unary op u)).map fromV)
    | none => none
  | .convert src dst x => v (convA P H src dst (ρ x))
  | .makeFunc (.func f) first caps => if first.size = 0 then v (some (.fn f (caps.toList.map ρ))) else none
  | .makeSlice t l c => s (makeSliceA P H t (ρ l) (ρ c))
  | .makeMap t r => s (makeMapA P H t (r.map ρ))
  | .lookup t x k ok => v (lookupA P H t (ρ x) (ρ k) ok)
  | .mapUpdate t m k x => (updA P H t (ρ m) (ρ k) (ρ x)).map fun H' => .val .any H'
  | .insert t m k x => (updA P H t (ρ m) (ρ k) (ρ x)).map fun H' => .val .any H'
  | .makeInterface t x => v (ifcA P t (ρ x))
  | .range t x => v (rangeA P H t (ρ x))
  | .next x str => v (nextA H (ρ x) str)
  | .slice t x lo hi mx => if liveB H (ρ x) = true then v (sliceA P H t (ρ x) (lo.map ρ) (hi.map ρ) (mx.map ρ)) else none
  | .fieldAddr t x f => if liveB H (ρ x) = true then v (fieldAddrA P t (ρ x) f) else none
  | .field t x f => v (fieldA P t (ρ x) f)
  | .indexAddr t x i => if liveB H (ρ x) = true then v (indexAddrA P t (ρ x) (ρ i)) else none
  | .index t x i => match ρ x, ρ i with
    | .c (.string s), .c (.int _ z) => if strT P t = true then (if 0 ≤ z then v ((s[z.toNat]?).map fun b => .c (.int .u8 b.toNat)) else none) else none
    | _, _ => v (indexA P t (ρ x) (ρ i))
  | .extract x i => match ρ x with
    | .tup vs => v (vs[i]?)
    | _ => none
  | .call c => match c.callee with
    | .builtin b => s (builtinA P H b c.argTypes.toList (c.args.toList.map ρ))
    | .value f => calleeA P ρ f (c.args.toList.map ρ)
    | _ => none
  | _ => none
theorem exOp_ok {H : List AObj} {ρ : Operand → AV} {o : Oper} {s : StepA} (h : exOp P H ρ o = some s) : opA P H ρ o = some s := by
  unfold exOp at h
  unfold opA
  cases ho : o.op with
  | binOp op t x y ty =>
    simp only [ho] at h ⊢
    obtain ⟨a, ha, rfl⟩ := Option.map_eq_some_iff.1 h
    rw [orA_ok ha]
    rfl
  | makeFunc f first caps => simp only [ho] at h ⊢; cases f <;> exact h
  | _ => simp only [ho] at h ⊢; exact h
end

/-! ### equality of what is abstract -/
def eqV : Value → Value → Bool
  | .int k a, .int k' b => decide (k = k') && decide (a = b)
  | .bool a, .bool b => a == b
  | .slice none 0 0, .slice none 0 0 => true
  | .pointer none, .pointer none => true
  | .map none, .map none => true
  | .nilFunc, .nilFunc => true
  | .nilIface, .nilIface => true
  | _, _ => false
theorem eqV_ok {u v : Value} (h : eqV u v = true) : u = v := by
  unfold eqV at h
  split at h <;> first
    | (simp only [Bool.and_eq_true, decide_eq_true_eq] at h; obtain ⟨rfl, rfl⟩ := h; rfl)
    | (simp only [beq_iff_eq] at h; subst h; rfl)
    | rfl
    | cases h
def eqAV : AV → AV → Bool
  | .any, .any => true
  | .nil0, .nil0 => true
  | .c u, .c v => eqV u v
  | .agg a, .agg b => eqL a b
  | .tup a, .tup b => eqL a b
  | .ls k a, .ls k' b => decide (k = k') && eqL a b
  | .pe e o, .pe e' o' => eqAV e e' && decide (o = o')
  | .own i o n k, .own i' o' n' k' => decide (i = i') && (decide (o = o') && (decide (n = n') && decide (k = k')))
  | .ptr i o, .ptr i' o' => decide (i = i') && decide (o = o')
  | .mh i, .mh i' => decide (i = i')
  | .fn f a, .fn f' b => decide (f = f') && eqL a b
  | .ifc t a, .ifc t' b => decide (t = t') && eqAV a b
  | .itr a, .itr b => eqAV a b
  | _, _ => false
where eqL : List AV → List AV → Bool
  | [], [] => true
  | a :: l, b :: m => eqAV a b && eqL l m
  | _, _ => false
mutual
theorem eqAV_ok : ∀ {a b : AV}, eqAV a b = true → a = b
  | .any, b, h => by cases b <;> simp_all [eqAV]
  | .nil0, b, h => by cases b <;> simp_all [eqAV]
  | .c u, b, h => by
    cases b <;> simp only [eqAV] at h <;> try cases h
    rw [eqV_ok h]
  | .agg a, b, h => by
    cases b <;> simp only [eqAV] at h <;> try cases h
    rw [eqL_ok h]
  | .tup a, b, h => by
    cases b <;> simp only [eqAV] at h <;> try cases h
    rw [eqL_ok h]
  | .ls k a, b, h => by
    cases b <;> simp only [eqAV, Bool.and_eq_true, decide_eq_true_eq] at h <;> try cases h
    rename_i h1 h2
    rw [h1, eqL_ok h2]
  | .pe e o, b, h => by
    cases b <;> simp only [eqAV, Bool.and_eq_true, decide_eq_true_eq] at h <;> try cases h
    rename_i h1 h2
    rw [h2, eqAV_ok h1]
  | .own i o n k, b, h => by cases b <;> simp_all [eqAV]
  | .ptr i o, b, h => by cases b <;> simp_all [eqAV]
  | .mh i, b, h => by cases b <;> simp_all [eqAV]
  | .fn f a, b, h => by
    cases b <;> simp only [eqAV, Bool.and_eq_true, decide_eq_true_eq] at h <;> try cases h
    rename_i h1 h2
    rw [h1, eqL_ok h2]
  | .itr a, b, h => by
    cases b <;> simp only [eqAV] at h <;> try cases h
    rw [eqAV_ok h]
  | .ifc t a, b, h => by
    cases b <;> simp only [eqAV, Bool.and_eq_true, decide_eq_true_eq] at h <;> try cases h
    rename_i h1 h2
    rw [h1, eqAV_ok h2]
theorem eqL_ok : ∀ {l m : List AV}, eqAV.eqL l m = true → l = m
  | [], m, h => by cases m <;> simp_all [eqAV.eqL]
  | a :: l, m, h => by
    cases m with
    | nil => simp [eqAV.eqL] at h
    | cons b m =>
      simp only [eqAV.eqL, Bool.and_eq_true] at h
      rw [eqAV_ok h.1, eqL_ok h.2]
end

/-! ### code -/
abbrev CallF := FuncId → List AV → List AObj → Option (AV × List AObj)
abbrev ResF := Option (Exit × Env × List AObj)
/-- No handles. -/
def bd0 : AV → Bool
  | .any | .c _ | .nil0 => true
  | .own _ _ _ _ | .ptr _ _ | .mh _ => false
  | .agg cs => bd0L cs
  | .tup cs => bd0L cs
  | .fn _ cs => bd0L cs
  | .ls _ es => bd0L es
  | .pe e _ => bd0 e
  | .ifc _ a => bd0 a
  | .itr a => bd0 a
where bd0L : List AV → Bool
  | [] => true
  | a :: l => bd0 a && bd0L l
mutual
theorem bd0_ok : ∀ {a : AV}, bd0 a = true → Bd 0 a
  | .any, _ => .any
  | .c v, _ => .c v
  | .nil0, _ => .nil0
  | .own _ _ _ _, h => by simp [bd0] at h
  | .ptr _ _, h => by simp [bd0] at h
  | .mh _, h => by simp [bd0] at h
  | .agg cs, h => .agg (bd0L_ok (by simpa [bd0] using h))
  | .tup cs, h => .tup (bd0L_ok (by simpa [bd0] using h))
  | .fn _ cs, h => .fn (bd0L_ok (by simpa [bd0] using h))
  | .ls _ es, h => .ls (bd0L_ok (by simpa [bd0] using h))
  | .pe e _, h => .pe (bd0_ok (by simpa [bd0] using h))
  | .ifc _ a, h => .ifc (bd0_ok (by simpa [bd0] using h))
  | .itr a, h => .itr (bd0_ok (by simpa [bd0] using h))
theorem bd0L_ok : ∀ {l : List AV}, bd0.bd0L l = true → ∀ a ∈ l, Bd 0 a
  | [], _, a, h => by cases h
  | b :: l, h, a, ha => by
    simp only [bd0.bd0L, Bool.and_eq_true] at h
    cases ha with
    | head => exact bd0_ok h.1
    | tail _ ha => exact bd0L_ok h.2 a ha
end
/-- A call: without the caller's objects, if it names none and answers none; else (d: not in a drawn region whose calls are not ordered) with them. -/
def callX (call : CallF) (d : Bool) (f : FuncId) (args : List AV) (H : List AObj) : Option (AV × List AObj) :=
  if bd0.bd0L args = true then (match call f args [] with
    | some (r, _H1) => if bd0 r = true then some (r, H) else if d = true then call f args H else none
    | none => none)
  else if d = true then call f args H else none
def exOps (P : Program) (call : CallF) (d : Bool) (all : List Oper) : List Oper → Env → List AObj → Option (Env × List AObj)
  | [], env, H => some (env, H)
  | o :: rest, env, H =>
    let go : Option (Env × List AObj) := match exOp P H (evA env) o with
      | some (.val a H') => exOps P call d all rest (putE env o.dst a) H'
      | some (.call f args) => match callX call d f args H with
        | some (r, H') => exOps P call d all rest (putE env o.dst r) H'
        | none => none
      | none => none
    match o.guard with
    | none => go
    | some (g, b) => match (all[g]?).bind (·.dst) with
      | some t => match env.getD t .any with
        | .c (.bool x) => if x = b then go else exOps P call d all rest (putE env o.dst (.tup [])) H
        | .tup [] => exOps P call d all rest (putE env o.dst (.tup [])) H
        | _ => none
      | none => none
/-- Does a reader answer the same at these objects? -/
def stayB (P : Program) (b : Bool) (H : List AObj) (o : Oper) (env : Env) (a : AV) : Bool := b || (!rdOp o.op) || (match exOp P H (evA env) o with | some (.val a' _) => eqAV a' a | _ => false)
/-- A region whose order is drawn and not ordered by its own: what turned objects (effs), what did not (pend). -/
def exOpsU (P : Program) (call : CallF) (all : List Oper) (N : Nat) : Nat → List Oper → List (Nat × List AObj) → Pend → Env → List AObj → Option (Env × List AObj)
  | _, [], _, _, env, H => some (env, H)
  | i, o :: rest, effs, pend, env, H =>
    let go : Option (Env × List AObj) := match exOp P H (evA env) o with
      | some (.val a H') => if effOp o.op = true then
          if (effs.all fun p => depF all N i p.1) && (pend.all fun p => stayB P (depF all N i p.1) H' p.2.1 p.2.2.1 p.2.2.2) then exOpsU P call all N (i + 1) rest ((i, H) :: effs) pend (putE env o.dst a) H' else none
        else if effs.all fun p => stayB P (depF all N i p.1) p.2 o env a then exOpsU P call all N (i + 1) rest effs ((i, o, env, a) :: pend) (putE env o.dst a) H else none
      | some (.call f args) => match callX call false f args H with
        | some (r, _) => exOpsU P call all N (i + 1) rest effs pend (putE env o.dst r) H
        | none => match call f args H with
          | some (r, H') => if (effs.all fun p => depF all N i p.1) && (pend.all fun p => stayB P (depF all N i p.1) H' p.2.1 p.2.2.1 p.2.2.2) then exOpsU P call all N (i + 1) rest ((i, H) :: effs) pend (putE env o.dst r) H' else none
          | none => none
      | none => none
    match o.guard with
    | none => go
    | some (g, b) => match (all[g]?).bind (·.dst) with
      | some t => match env.getD t .any with
        | .c (.bool x) => if x = b then go else exOpsU P call all N (i + 1) rest effs pend (putE env o.dst (.tup [])) H
        | .tup [] => exOpsU P call all N (i + 1) rest effs pend (putE env o.dst (.tup [])) H
        | _ => none
      | none => none
def exLoop (body : Env → List AObj → ResF) : Nat → Env → List AObj → ResF
  | 0, _, _ => none
  | n + 1, env, H => match body env H with
    | some (.normal, env', H') => exLoop body n env' H'
    | r => r
def exCode (P : Program) (call : CallF) (N : Nat) : Code → Env → List AObj → ResF
  | .skip, env, H => some (.normal, env, H)
  | .region _ ops false, env, H => (exOps P call true ops.toList ops.toList env H).map fun p => (.normal, p.1, p.2)
  | .region _ ops true, env, H => (exOpsU P call ops.toList ops.size 0 ops.toList [] [] env H).map fun p => (.normal, p.1, p.2)
  | .seq x y, env, H => match exCode P call N x env H with
    | some (.normal, env', H') => exCode P call N y env' H'
    | r => r
  | .cond c x y, env, H => match evA env c with
    | .c (.bool true) => exCode P call N x env H
    | .c (.bool false) => exCode P call N y env H
    | _ => none
  | .scope c, env, H => match exCode P call N c env H with
    | some (.goto _, _, _) => none
    | r => r
  | .block id c, env, H => match exCode P call N c env H with
    | some (.exit i, env', H') => some (if i = id then .normal else .exit i, env', H')
    | r => r
  | .loop c, env, H => exLoop (exCode P call N c) N env H
  | .exit id, env, H => some (.exit id, env, H)
  | .ret, env, H => some (.ret, env, H)
  | .label _, env, H => some (.normal, env, H)
  | _, _, _ => none
/-- A function's run: I answers for what is known otherwise. -/
def exCall (P : Program) (I : CallF) (N : Nat) : Nat → CallF
  | 0, _, _, _ => none
  | n + 1, f, args, H => match I f args H with
    | some r => some r
    | none => match P.funcs[f]? with
      | some fn => match fn.body with
        | some c => if args.length ≤ fn.ntmps ∧ chk fn.ntmps c = true then (match exCode P (exCall P I N n) N c (args ++ List.replicate (fn.ntmps - args.length) .any) H with
          | some (.ret, env, H') => (resA P H' env fn.results.toList).map fun l => (joinR l, H')
          | some (.normal, env, H') => (resA P H' env fn.results.toList).map fun l => (joinR l, H')
          | _ => none) else none
        | none => none
      | none => none

section
variable {P : Program} {call : CallF}
def CallOk (P : Program) (call : CallF) : Prop := ∀ f args H r H', call f args H = some (r, H') → PCall P f args H fun x H1 => x = r ∧ H1 = H'
theorem callX_ok (hc : CallOk P call) {d : Bool} {f : FuncId} {args : List AV} {H H' : List AObj} {r : AV} (h : callX call d f args H = some (r, H')) : (PCall P f args H fun x H1 => x = r ∧ H1 = H') ∧ ((∀ H0, PCall P f args H0 fun x H1 => x = r ∧ H1 = H0) ∧ H' = H ∨ d = true) := by
  unfold callX at h
  split at h
  · rename_i hb
    split at h
    · rename_i r0 H1 hq
      split at h
      · rename_i hr
        cases h
        have hd := PCall.det ((hc _ _ _ _ _ hq).mono (fun x H1 ⟨h1, h2⟩ => by subst h1; exact ⟨bd0_ok hr, rfl⟩)) (bd0L_ok hb)
        exact ⟨hd H, .inl ⟨hd, rfl⟩⟩
      · split at h
        · exact ⟨hc _ _ _ _ _ h, .inr (by assumption)⟩
        · cases h
    · cases h
  · split at h
    · exact ⟨hc _ _ _ _ _ h, .inr (by assumption)⟩
    · cases h
theorem exOps_plain (hc : CallOk P call) {all : List Oper} {K : Env → List AObj → Prop} : ∀ {l : List Oper} {env : Env} {H : List AObj} {env' : Env} {H' : List AObj}, exOps P call true all l env H = some (env', H') → K env' H' → wops P all l K env H
  | [], env, H, env', H', h, hk => by
    simp only [exOps] at h
    cases h
    exact hk
  | o :: rest, env, H, env', H', h, hk => by
    have step : (match exOp P H (evA env) o with
      | some (.val a H1) => exOps P call true all rest (putE env o.dst a) H1
      | some (.call f args) => match callX call true f args H with
        | some (r, H1) => exOps P call true all rest (putE env o.dst r) H1
        | none => none
      | none => none) = some (env', H') → stepK (opA P H (evA env) o) (fun a H' => wops P all rest K (putE env o.dst a) H') (fun f args => PCall P f args H fun r H' => wops P all rest K (putE env o.dst r) H') := by
      intro h
      split at h
      · rename_i a H1 hq
        rw [exOp_ok hq]
        exact exOps_plain hc h hk
      · rename_i f args hq
        rw [exOp_ok hq]
        split at h
        · rename_i r H1 hcall
          exact (callX_ok hc hcall).1.mono (fun x H2 ⟨h1, h2⟩ => by subst h1; subst h2; exact exOps_plain hc h hk)
        · cases h
      · cases h
    simp only [exOps] at h
    simp only [wops]
    cases hg : o.guard with
    | none => rw [hg] at h; exact step h
    | some p =>
      obtain ⟨g, b⟩ := p
      rw [hg] at h
      simp only at h ⊢
      split at h
      · rename_i t ht
        rw [ht]
        simp only
        split at h
        · rename_i x hx
          rw [hx]
          simp only
          split at h
          · rename_i hxb
            exact ⟨fun _ => step h, fun hn => absurd hxb hn⟩
          · rename_i hxb
            exact ⟨fun he => absurd he hxb, fun _ => exOps_plain hc h hk⟩
        · rename_i hx
          rw [hx]
          exact exOps_plain hc h hk
        · cases h
      · cases h
theorem listAll_of {α : Type} {Q : α → Prop} : ∀ {l : List α}, (∀ x ∈ l, Q x) → listAll Q l
  | [], _ => trivial
  | y :: _l, h => ⟨h y (List.mem_cons_self ..), listAll_of fun x hx => h x (List.mem_cons_of_mem _ hx)⟩
theorem stayB_ok {b : Bool} {H : List AObj} {o : Oper} {env : Env} {a : AV} (he : effOp o.op = false) (h0 : ∃ H0, opA P H0 (evA env) o = some (.val a H0)) (h : stayB P b H o env a = true) : stays P b H o env a := by
  unfold stayB at h
  simp only [Bool.or_eq_true] at h
  rcases h with (h | h) | h
  · exact .inl h
  · obtain ⟨H0, h0⟩ := h0
    exact .inr (opA_free h0 he (by simpa using h) H)
  · split at h
    · rename_i a' H1 hx
      have := opA_quiet (exOp_ok hx) he
      rw [eqAV_ok h, this] at hx
      exact .inr (exOp_ok hx)
    · cases h
theorem exOpsU_ok (hc : CallOk P call) {all : List Oper} {N : Nat} {K : Env → List AObj → Prop} : ∀ {l : List Oper} {i : Nat} {effs : List (Nat × List AObj)} {pend : Pend} {env : Env} {H : List AObj} {env' : Env} {H' : List AObj}, (∀ p ∈ pend, effOp p.2.1.op = false ∧ ∃ H0, opA P H0 (evA p.2.2.1) p.2.1 = some (.val p.2.2.2 H0)) → exOpsU P call all N i l effs pend env H = some (env', H') → K env' H' → dops P all N i l K effs pend env H
  | [], i, effs, pend, env, H, env', H', hp, h, hk => by
    simp only [exOpsU] at h
    cases h
    exact hk
  | o :: rest, i, effs, pend, env, H, env', H', hp, h, hk => by
    have chk2 : ∀ {H1 : List AObj}, ((effs.all fun p => depF all N i p.1) && (pend.all fun p => stayB P (depF all N i p.1) H1 p.2.1 p.2.2.1 p.2.2.2)) = true → listAll (fun p => depF all N i p.1 = true) effs ∧ listAll (fun p => stays P (depF all N i p.1) H1 p.2.1 p.2.2.1 p.2.2.2) pend := by
      intro H1 hh
      simp only [Bool.and_eq_true, List.all_eq_true] at hh
      exact ⟨listAll_of hh.1, listAll_of fun x hx => stayB_ok (hp x hx).1 (hp x hx).2 (hh.2 x hx)⟩
    have step : (match exOp P H (evA env) o with
      | some (.val a H') => if effOp o.op = true then
          if (effs.all fun p => depF all N i p.1) && (pend.all fun p => stayB P (depF all N i p.1) H' p.2.1 p.2.2.1 p.2.2.2) then exOpsU P call all N (i + 1) rest ((i, H) :: effs) pend (putE env o.dst a) H' else none
        else if effs.all fun p => stayB P (depF all N i p.1) p.2 o env a then exOpsU P call all N (i + 1) rest effs ((i, o, env, a) :: pend) (putE env o.dst a) H else none
      | some (.call f args) => match callX call false f args H with
        | some (r, _) => exOpsU P call all N (i + 1) rest effs pend (putE env o.dst r) H
        | none => match call f args H with
          | some (r, H') => if (effs.all fun p => depF all N i p.1) && (pend.all fun p => stayB P (depF all N i p.1) H' p.2.1 p.2.2.1 p.2.2.2) then exOpsU P call all N (i + 1) rest ((i, H) :: effs) pend (putE env o.dst r) H' else none
          | none => none
      | none => none) = some (env', H') → stepK (opA P H (evA env) o)
      (fun a H' => if effOp o.op = true then
          listAll (fun p => depF all N i p.1 = true) effs ∧ listAll (fun p => stays P (depF all N i p.1) H' p.2.1 p.2.2.1 p.2.2.2) pend ∧ dops P all N (i + 1) rest K ((i, H) :: effs) pend (putE env o.dst a) H'
        else H' = H ∧ listAll (fun p => stays P (depF all N i p.1) p.2 o env a) effs ∧ dops P all N (i + 1) rest K effs ((i, o, env, a) :: pend) (putE env o.dst a) H)
      (fun f args => (∃ r, (∀ H0, PCall P f args H0 fun r' H' => r' = r ∧ H' = H0) ∧ dops P all N (i + 1) rest K effs pend (putE env o.dst r) H) ∨
        ∃ r H', (PCall P f args H fun x H1 => x = r ∧ H1 = H') ∧ listAll (fun p => depF all N i p.1 = true) effs ∧ listAll (fun p => stays P (depF all N i p.1) H' p.2.1 p.2.2.1 p.2.2.2) pend ∧ dops P all N (i + 1) rest K ((i, H) :: effs) pend (putE env o.dst r) H') := by
      intro h0
      split at h0
      · rename_i a H1 hq
        have hA := exOp_ok hq
        rw [hA]
        simp only [stepK]
        split at h0
        · rename_i he
          rw [if_pos he]
          split at h0
          · rename_i hh
            exact ⟨(chk2 hh).1, (chk2 hh).2, exOpsU_ok hc hp h0 hk⟩
          · cases h0
        · rename_i he
          rw [if_neg he]
          have he' : effOp o.op = false := by simpa using he
          have hq' := opA_quiet hA he'
          subst hq'
          split at h0
          · rename_i hh
            simp only [List.all_eq_true] at hh
            have h00 : ∃ H0, opA P H0 (evA env) o = some (.val a H0) := ⟨_, hA⟩
            refine ⟨rfl, listAll_of fun x hx => stayB_ok he' h00 (hh x hx), exOpsU_ok hc ?_ h0 hk⟩
            intro p hpm
            cases hpm with
            | head => exact ⟨he', h00⟩
            | tail _ hpm => exact hp p hpm
          · cases h0
      · rename_i f args hq
        rw [exOp_ok hq]
        simp only [stepK]
        split at h0
        · rename_i r H1 hcall
          have h2 := (callX_ok hc hcall).2
          rcases h2 with ⟨h2, _⟩ | h2
          · exact .inl ⟨r, h2, exOpsU_ok hc hp h0 hk⟩
          · cases h2
        · split at h0
          · rename_i r H1 hcall
            split at h0
            · rename_i hh
              exact .inr ⟨r, H1, hc _ _ _ _ _ hcall, (chk2 hh).1, (chk2 hh).2, exOpsU_ok hc hp h0 hk⟩
            · cases h0
          · cases h0
      · cases h0
    simp only [exOpsU] at h
    simp only [dops]
    cases hg : o.guard with
    | none => rw [hg] at h; exact step h
    | some p =>
      obtain ⟨g, b⟩ := p
      rw [hg] at h
      simp only at h ⊢
      split at h
      · rename_i t ht
        rw [ht]
        simp only
        split at h
        · rename_i x hx
          rw [hx]
          simp only
          split at h
          · rename_i hxb
            exact ⟨fun _ => step h, fun hn => absurd hxb hn⟩
          · rename_i hxb
            exact ⟨fun he => absurd he hxb, fun _ => exOpsU_ok hc hp h hk⟩
        · rename_i hx
          rw [hx]
          exact exOpsU_ok hc hp h hk
        · cases h
      · cases h
theorem exLoop_pw {B : Bs} {n : Nat} {c : Code} {body : Env → List AObj → ResF} {r : Exit × Env × List AObj} (hb : ∀ env H r, env.length = n → body env H = some r → PW P B c (fun e env' H' => env'.length = n ∧ (e, env', H') = r) env H) {m : Nat} {env : Env} {H : List AObj} (hl : env.length = n) (h : exLoop body m env H = some r) : PW P B (.loop c) (fun e env' H' => env'.length = n ∧ (e, env', H') = r) env H := by
  refine PW.loop (fun m e h => e.length = n ∧ exLoop body m e h = some r) (n := m) ⟨hl, h⟩ (fun m e g hm => ?_)
  obtain ⟨hl, hm⟩ := hm
  cases m with
  | zero => cases hm
  | succ m =>
    simp only [exLoop] at hm
    cases hq : body e g with
    | none => rw [hq] at hm; cases hm
    | some q =>
      obtain ⟨x, e1, g1⟩ := q
      rw [hq] at hm
      refine (hb e g _ hl hq).mono (fun x2 e2 g2 ⟨h1, h2⟩ => ?_)
      cases h2
      cases x with
      | normal => exact ⟨m, Nat.lt_succ_self m, h1, hm⟩
      | _ => cases hm; exact ⟨h1, rfl⟩
theorem exCode_pw (hm : P.follows .mixedOrders = true) (hc : CallOk P call) {B : Bs} {N n : Nat} : ∀ (c : Code) (env : Env) (H : List AObj) (r : Exit × Env × List AObj), chk n c = true → env.length = n → exCode P call N c env H = some r → PW P B c (fun e env' H' => env'.length = n ∧ (e, env', H') = r) env H := by
  intro c
  induction c with
  | skip => intro env H r _ hl h; simp only [exCode] at h; cases h; exact PW.skip ⟨hl, rfl⟩
  | region id ops draw =>
    intro env H r hk hl h
    have hops : ops = ops.toList.toArray := by simp
    cases draw with
    | false =>
      simp only [exCode] at h
      obtain ⟨p, hp, rfl⟩ := Option.map_eq_some_iff.1 h
      rw [hops]
      refine PW.region ?_
      have := wops_len _ _ _ (exOps_plain (K := fun e g => (Exit.normal, e, g) = (Exit.normal, p.1, p.2)) hc (env' := p.1) (H' := p.2) hp rfl)
      rw [hl] at this
      exact this
    | true =>
      simp only [exCode] at h
      obtain ⟨p, hp, rfl⟩ := Option.map_eq_some_iff.1 h
      simp only [chk, Bool.and_eq_true] at hk
      rw [hops]
      refine PW.regionD ops.size hm hk.1.1.1 hk.1.1.2 hk.1.2 (by rw [hl]; exact hk.2) ?_
      have := dops_len _ _ _ _ _ _ (exOpsU_ok (K := fun e g => (Exit.normal, e, g) = (Exit.normal, p.1, p.2)) hc (env' := p.1) (H' := p.2) (fun p hp => by cases hp) hp rfl)
      rw [hl] at this
      exact this
  | seq x y ihx ihy =>
    intro env H r hk hl h
    simp only [chk, Bool.and_eq_true] at hk
    simp only [exCode] at h
    cases hx : exCode P call N x env H with
    | none => rw [hx] at h; cases h
    | some q =>
      obtain ⟨e, env', H'⟩ := q
      rw [hx] at h
      refine PW.seq ((ihx env H _ hk.1 hl hx).mono (fun e2 env2 H2 ⟨h1, h2⟩ => ?_))
      cases h2
      cases e with
      | normal => exact ihy env' H' r hk.2 h1 h
      | _ => cases h; exact ⟨h1, rfl⟩
  | cond c x y ihx ihy =>
    intro env H r hk hl h
    simp only [chk, Bool.and_eq_true] at hk
    simp only [exCode] at h
    split at h
    · rename_i ht; exact PW.cond ht (fun _ => ihx env H r hk.1 hl h) (fun hf => by cases hf)
    · rename_i ht; exact PW.cond ht (fun hf => by cases hf) (fun _ => ihy env H r hk.2 hl h)
    · cases h
  | scope c ih =>
    intro env H r hk hl h
    simp only [exCode] at h
    cases hx : exCode P call N c env H with
    | none => rw [hx] at h; cases h
    | some q =>
      obtain ⟨e, env', H'⟩ := q
      rw [hx] at h
      refine PW.scope ((ih env H _ hk hl hx).mono (fun e2 env2 H2 ⟨h1, h2⟩ => ?_))
      cases h2
      cases e with
      | goto l => cases h
      | _ => cases h; exact ⟨h1, rfl⟩
  | block id c ih =>
    intro env H r hk hl h
    simp only [exCode] at h
    cases hx : exCode P call N c env H with
    | none => rw [hx] at h; cases h
    | some q =>
      obtain ⟨e, env', H'⟩ := q
      rw [hx] at h
      refine PW.block ((ih env H _ hk hl hx).mono (fun e2 env2 H2 ⟨h1, h2⟩ => ?_))
      cases h2
      cases e with
      | exit i =>
        cases h
        simp only [blockA]
        split
        · rename_i he; exact ⟨h1, rfl⟩
        · rename_i he; exact ⟨h1, rfl⟩
      | _ => cases h; exact ⟨h1, rfl⟩
  | loop c ih =>
    intro env H r hk hl h
    simp only [exCode] at h
    exact exLoop_pw (fun env H r hl hb => ih env H r hk hl hb) hl h
  | exit id => intro env H r _ hl h; simp only [exCode] at h; cases h; exact PW.exit ⟨hl, rfl⟩
  | ret => intro env H r _ hl h; simp only [exCode] at h; cases h; exact PW.ret ⟨hl, rfl⟩
  | label l => intro env H r _ hl h; simp only [exCode] at h; cases h; exact PW.label ⟨hl, rfl⟩
  | _ => intro env H r _ _ h; simp [exCode] at h
theorem exCall_ok (hm : P.follows .mixedOrders = true) {I : CallF} (hI : CallOk P I) {N : Nat} : ∀ (n : Nat), CallOk P (exCall P I N n)
  | 0 => fun f args H r H' h => by simp only [exCall] at h; cases h
  | n + 1 => fun f args H r H' h => by
    simp only [exCall] at h
    split at h
    · rename_i r0 hi
      cases h
      exact hI _ _ _ _ _ hi
    · split at h
      · rename_i fn hf
        split at h
        · rename_i c hb
          split at h
          · rename_i hcond
            have key : ∀ (e : Exit) (env : Env) (H1 : List AObj), (e = .ret ∨ e = .normal) → exCode P (exCall P I N n) N c (args ++ List.replicate (fn.ntmps - args.length) .any) H = some (e, env, H1) → (resA P H1 env fn.results.toList).map (fun l => (joinR l, H1)) = some (r, H') → PCall P f args H fun x H2 => x = r ∧ H2 = H' := by
              intro e env H1 he hx hr
              obtain ⟨l, hl, hq⟩ := Option.map_eq_some_iff.1 hr
              cases hq
              refine PCall.of_body hf hb (fun B hB => (exCode_pw (n := fn.ntmps) hm (exCall_ok hm hI n) c _ _ _ hcond.2 (by simp; omega) hx).mono (fun e2 env2 H2 ⟨h1, h2⟩ => ?_))
              cases h2
              rcases he with rfl | rfl
              · exact ⟨l, hl, rfl, rfl⟩
              · exact ⟨l, hl, rfl, rfl⟩
            split at h
            · rename_i env H1 hx; exact key .ret env H1 (.inl rfl) hx h
            · rename_i env H1 hx; exact key .normal env H1 (.inr rfl) hx h
            · cases h
          · cases h
        · cases h
      · cases h
end
end

section
open Go.RowKit Go.Shelf

attribute [local go_sem] Oper.semAt_some

/-- Bit k of a mask. -/
def hasB (m : Int) (k : Nat) : Bool := bits .and .i64 (m / 2 ^ k) 1 == 1
set_option maxRecDepth 100000 in
set_option maxHeartbeats 2000000 in
theorem Has_any (m : Int) (k : Nat) (hk : k < 10) (_h0 : -9223372036854775808 ≤ m) (_h1 : m ≤ 9223372036854775807) (w : World) : Calls Tryz.prog 154 #[.int .i64 m, .int .i64 (k : Int)] w fun e w' => e = .returned (.bool (hasB m k)) ∧ w' = w := by
  have t1 : (k : Int) < 10 := by omega
  go_enter Tryz.func154, Tryz.ntmps154
  go_wp2
  go_ret
  exact ⟨rfl, rfl⟩
/-- The ids below k in a mask. -/
def idsTo (m : Int) (k : Nat) : List (Fin 10) := ((List.finRange 10).take k).filter (fun i => hasB m i.1)
def idsF (m : Int) : List (Fin 10) := idsTo m 10
theorem idsTo_succ (m : Int) (k : Nat) (hk : k < 10) : idsTo m (k + 1) = if hasB m k = true then idsTo m k ++ [⟨k, hk⟩] else idsTo m k := by
  unfold idsTo
  rw [List.take_succ_eq_append_getElem (by simpa using hk), List.filter_append]
  have e : (List.finRange 10)[k]'(by simpa using hk) = ⟨k, hk⟩ := by simp
  rw [e]
  by_cases h : hasB m k = true
  · rw [if_pos h]; simp [h]
  · rw [if_neg h]; simp [h]
theorem idsTo_len (m : Int) (k : Nat) : (idsTo m k).length ≤ k := by
  unfold idsTo
  exact Nat.le_trans (List.length_filter_le _ _) (List.length_take_le _ _)
theorem idsTo_lt (m : Int) (k : Nat) (hk : k < 10) (h : hasB m k = true) : (idsTo m k).length < (idsF m).length ∧ idsTo m k ++ [⟨k, hk⟩] <+: idsF m := by
  have hp : idsTo m (k + 1) <+: idsF m := by
    have hq : (List.finRange 10).take (k + 1) <+: (List.finRange 10).take 10 := List.take_prefix_take_left (by omega)
    exact hq.filter _
  rw [idsTo_succ m k hk, if_pos h] at hp
  refine ⟨?_, hp⟩
  have := hp.length_le
  simp at this
  omega

/-- What a round of a range over members keeps: the mask's box. -/
def KpC (B : Nat) (W W' : World) : Prop := ∀ v, W.cell? ⟨B, 0, none⟩ = some v → W'.cell? ⟨B, 0, none⟩ = some v
theorem kpC_t {Bm : Nat} {A B C : World} (h : KpC Bm A B) (k : KpC Bm B C) : KpC Bm A C := fun v hv => k v (h v hv)
theorem kpC_b {Bm : Nat} {w : World} (W : World) (l : Nat) (o o' : Obj) (_ : w.heap.size ≤ l) (h : W.heap[l]? = some o) (hc : o.isCells = false) (_ : o.isWalk = false) : KpC Bm W (W.putObj l o') := fun _ hv => cell_kept hv (grownBy_putObj' W l o') (fun r e => by cases e; exact ⟨o, h, hc⟩)
set_option maxRecDepth 100000 in
set_option maxHeartbeats 4000000 in
theorem members1_in (n : Nat) (hn : 1 ≤ n) (l Bm : Nat) (m : Int) (hm0 : -9223372036854775808 ≤ m) (hm1 : m ≤ 9223372036854775807) (J Jx : List (Fin 10) → World → Prop)
    (hY : ∀ pre x W, J pre W → pre.length < (idsF m).length → YieldAt Fence.wide (n - 1) Tryz.prog l #[.int .i64 (x.1 : Int)] W fun e W' =>
      (e = .returned (.bool true) ∧ J (pre ++ [x]) W' ∧ KpC Bm W W') ∨ (e = .returned (.bool false) ∧ Jx (pre ++ [x]) W'))
    (W : World) (hc : W.cell? ⟨Bm, 0, none⟩ = some (.int .i64 m)) (h0 : J [] W) :
    CallsIn Fence.wide n Tryz.prog 153 #[.func (.yield l) #[] #[], .pointer (some ⟨Bm, 0, none⟩)] W fun e W' => (∃ v, e = .returned v) ∧ ((∃ ys, ys = idsF m ∧ J ys W') ∨ (∃ pre, pre <+: idsF m ∧ Jx pre W')) := by
  refine callsIn_of_wp Tryz.func153 rfl trivial ?_ rfl
  simp only [Tryz.ntmps153, List.size_toArray, List.length_cons, List.length_nil, Nat.reduceAdd, Nat.reduceSub, Array.replicate_succ, Array.replicate_zero, List.push_toArray, List.append_toArray, List.nil_append, List.cons_append]
  gi_wp2
  gi_loopw [4] (fun s wr => ∃ k : Nat, s = .int .i64 (k : Int) ∧ k ≤ 10 ∧ wr.cell? ⟨Bm, 0, none⟩ = some (.int .i64 m) ∧ J (idsTo m k) wr) (fun s _ => 10 - (intOf s).toNat)
  case atStart => exact ⟨0, rfl, by omega, hc, by simpa [idsTo] using h0⟩
  case round =>
    obtain ⟨k, rfl, hk, hcr, hJ⟩ := hrel
    by_cases hlt : k < 10
    · have hltz : (k : Int) < 10 := by omega
      have HC := Lib.hid (callsIn_wide.2 (Has_any m k hlt hm0 hm1 wr) : CallsIn Fence.wide (n - 1) Tryz.prog _ _ _ _)
      cases hb : hasB m k with
      | false =>
        have HS := Lib.hid (idsTo_succ m k hlt)
        rw [hb] at HC
        gi_wp2_with (refine ⟨trivial, ?_⟩; gi_at_call 154; refine HC.out.mono ?_; rintro e w' ⟨rfl, rfl⟩)
        refine ⟨fun _ h => (by cases h), ?_⟩
        gi_wp2
        go_roundw
        case rel => exact ⟨k + 1, by go_num, by omega, hcr, by rw [HS.out, if_neg (by rw [hb]; decide)]; exact hJ⟩
        case measure => simp [intOf]; omega
      | true =>
        obtain ⟨hlen, hpre⟩ := idsTo_lt m k hlt hb
        have HS := Lib.hid (idsTo_succ m k hlt)
        obtain ⟨fn, tmps, assign, body, hy, hR⟩ := hY (idsTo m k) ⟨k, hlt⟩ wr hJ hlen
        dsimp only at hy
        rw [hb] at HC
        gi_wp2_with (refine ⟨trivial, ?_⟩; gi_at_call 154; refine HC.out.mono ?_; rintro e w' ⟨rfl, rfl⟩)
        refine hR.mono ?_
        rintro e W3 (⟨rfl, hJ3, hk3⟩ | ⟨rfl, hJx3⟩)
        · have hc3 : W3.cell? ⟨Bm, 0, none⟩ = some (.int .i64 m) := hk3 _ hcr
          gi_wp2
          go_roundw
          case rel => exact ⟨k + 1, by go_num, by omega, hc3, by rw [HS.out, if_pos hb]; exact hJ3⟩
          case measure => simp [intOf]; omega
        · gi_wp2
          refine bodyPost_ret (results_none rfl _ _ _) rfl ?_
          exact ⟨⟨_, rfl⟩, .inr ⟨_, hpre, hJx3⟩⟩
    · have hk10 : k = 10 := by omega
      have hJ' := Lib.hid hJ
      subst hk10
      have hltz : ¬ ((10 : Nat) : Int) < 10 := by omega
      clear hJ
      gi_wp2
      go_end0
      exact ⟨⟨_, rfl⟩, .inl hJ'.out⟩
set_option maxHeartbeats 1000000 in
theorem members_in (n : Nat) (m : Int) (w : World) : CallsIn Fence.wide n Tryz.prog 109 #[.int .i64 m] w fun e w' => e = .returned (.func (.func 153) #[] #[.pointer (some ⟨w.heap.size, 0, none⟩)]) ∧ w' = w.alloc (.cells #[.int .i64 m] 32) := by
  refine callsIn_of_wp Tryz.func109 rfl trivial ?_ rfl
  simp only [Tryz.ntmps109, List.size_toArray, List.length_cons, List.length_nil, Nat.reduceAdd, Nat.reduceSub, Array.replicate_succ, Array.replicate_zero, List.push_toArray, List.append_toArray, List.nil_append, List.cons_append]
  gi_wp2
  go_ret
  exact ⟨rfl, rfl⟩
theorem members_stops (n : Nat) (hn : 1 ≤ n) (Bm : Nat) (m : Int) (hm0 : -9223372036854775808 ≤ m) (hm1 : m ≤ 9223372036854775807) (w : World) (hBn : Bm < w.heap.size) (hc : w.cell? ⟨Bm, 0, none⟩ = some (.int .i64 m)) :
    SeqStopsK Fence.wide n Tryz.prog 153 #[.pointer (some ⟨Bm, 0, none⟩)] (fun x : Fin 10 => #[Value.int .i64 (x.1 : Int)]) (KpC Bm) (fun ys => ys = idsF m) (fun pre => pre <+: idsF m) (idsF m).length w := fun l J Jx W hW _ _ hY h0 =>
  members1_in n hn l Bm m hm0 hm1 J Jx hY W ((hW.cell (p := ⟨Bm, 0, none⟩) hBn).trans hc) h0
theorem own_of_row {w : World} {base : Nat} {e : TypeId} {size n : Nat} {v : Value} {xs : List Value} (h : w.ownsRow base e size v n xs) : Own w e size v n xs ∧ ∀ k, OwnB v k → base ≤ k := by
  refine ⟨⟨h.1, ?_⟩, fun k hk => ?_⟩
  · rcases h.2 with h | ⟨g, cap, cur, rfl, _, hg, h1, h2, h3, h4⟩
    · exact .inl h
    · exact .inr ⟨g, cap, cur, rfl, hg, h1, h2, Nat.le_of_eq h3.symm, h4⟩
  · exact (h.lt k hk).1
theorem int_info : (Tryz.prog.info? 3).map (fun i => (i.zero, i.size, i.bytes)) = some (some (.int .i64 0), 1, 8) := by kernel_rfl
def idsV (l : List (Fin 10)) : List Value := l.map (fun i => Value.int .i64 (i.1 : Int))
set_option maxRecDepth 100000 in
set_option maxHeartbeats 4000000 in
theorem IDs_in (n : Nat) (hn : 3 ≤ n) (m : Int) (hm0 : -9223372036854775808 ≤ m) (hm1 : m ≤ 9223372036854775807) (w : World) :
    CallsIn Fence.wide n Tryz.prog 61 #[.int .i64 m] w fun e W' => ∃ v, e = .returned v ∧ W'.ownsRow w.heap.size 3 1 v (idsF m).length (idsV (idsF m)) ∧ (v = .slice none 0 0 ↔ idsF m = []) ∧ Below w.heap.size w W' := by
  have h1 : 1 ≤ n := by omega
  obtain ⟨i0, hi, hz0, hz1, hz2⟩ := info_parts int_info
  refine callsIn_of_wp_marks Tryz.func61 rfl trivial ?_ rfl
  simp only [Tryz.ntmps61, List.size_toArray, List.length_cons, List.length_nil, Nat.reduceAdd, Nat.reduceSub, Array.replicate_succ, Array.replicate_zero, List.push_toArray, List.append_toArray, List.nil_append, List.cons_append]
  gi_wp2_with (refine ⟨trivial, ?_⟩; gi_at_call 109; refine (members_in (n - 1) _ _).mono ?_; rintro e w' ⟨rfl, rfl⟩)
  have bO := Boxed.new w 23 (.slice none 0 0)
  have bN := Boxed.new (w.alloc (.cells #[.slice none 0 0] 23)) 32 (.int .i64 m)
  rw [World.size_alloc] at bN
  have hB0 : Below w.heap.size w ((w.alloc (.cells #[.slice none 0 0] 23)).alloc (.cells #[.int .i64 m] 32)) := ((Below.refl _ w).alloc (Nat.le_refl _) _).alloc (by simp) _
  have hl10 : ∀ k, (idsTo m k).length ≤ k := idsTo_len m
  have hf10 : (idsF m).length ≤ 10 := idsTo_len m 10
  refine wpIn_rangeFunc_ownG rfl h1 (gf := 153) (lb := #[.pointer (some ⟨w.heap.size + 1, 0, none⟩)]) rfl trivial (enters_of Tryz.func153 (by kernel_rfl) rfl)
    (members_stops (n - 1) (by omega) (w.heap.size + 1) m hm0 hm1 _ (by simp) bN.cell) kpC_t kpC_b (Below.refl _ _) (fun _ => rfl)
    (fun pre W => (∃ v, Boxed W w.heap.size 23 v ∧ W.ownsRow w.heap.size 3 1 v pre.length (idsV pre) ∧ (v = .slice none 0 0 ↔ pre = []) ∧ pre.length ≤ 10) ∧ Boxed W (w.heap.size + 1) 32 (.int .i64 m) ∧ Below w.heap.size w W)
    (fun _ _ _ => False)
    (OwnFrom.and (Own.from (holdsRow_own w.heap.size w.heap.size 23 3 1 (fun pre => pre.length) (fun pre => idsV pre) (fun pre v => (v = .slice none 0 0 ↔ pre = []) ∧ pre.length ≤ 10)) _) (OwnFrom.and (Own.from (boxed_own (w.heap.size + 1) 32 (fun _ => .int .i64 m)) _) (ownFrom_below (Nat.le_refl _) (by simp; omega))))
    (fun _ _ _ _ _ hs _ _ => hs)
    ⟨⟨_, bO.alloc _, World.ownsRow_nil _ _ _ _, by simp⟩, bN, hB0⟩
    (fun x => { tmps := #[.int .i64 m, undef, .slice none 0 0, .pointer (some ⟨w.heap.size, 0, none⟩), .int .i64 (x.1 : Int), .int .i64 m, .func (.func 153) #[] #[.pointer (some ⟨w.heap.size + 1, 0, none⟩)], .int .i64 (x.1 : Int), undef, undef, undef, undef, undef], defers := [] }) ?assign ?body ?done ?stop
  case assign =>
    intro l x W K hK
    gi_wp2
    exact hK
  case body =>
    rintro l pre x W ⟨⟨v, hv, hrow, hnil, _⟩, hm, hB⟩ hlt
    have hc := hv.cell
    gi_wp2_with (gi_at_builtin; refine wpListIn_append_own _ rfl _ _ 23 rfl w.heap.size 3 i0 (.int .i64 0) 1 8 Tryz.underlying23 hi hz0 hz1 hz2 rfl (by decide) _ _ _ rfl (hrow.alloc _) ⟨W.heap.size, 0, none⟩ 1 1 [.int .i64 (x.1 : Int)] rfl rfl (cell_one_new _ _ _) (by simp [Value.oneCell']) (by unfold maxLen; omega) (by omega) (by have := hB.size; simp; omega) ?_; intro v' w1 hown' hgrow _; obtain ⟨g', cap', rfl⟩ := ownsRow_succ hown'; obtain ⟨hv1, hv2, hr2, hk2, hb2⟩ := hv.appended (by decide) hrow hB.size (Nat.le_refl _) hown' hgrow; have hm1' := (hm.alloc _).kept hgrow (hm.not_row (by decide) hrow); have hc1 := hv1.cell; have hf1 := hv1.frozen)
    have hm2 := hm1'.other (B' := w.heap.size) (by omega) (.slice (some ⟨g', 0, none⟩) (pre.length + 1) cap')
    exact ⟨hk2.from _, fun u hu => by rw [hm.cell] at hu; rw [← hu]; exact hm2.cell, ⟨_, hv2, by simpa [idsV] using hr2, by simp, by simp; omega⟩, hm2, hB.trans hb2⟩
  case done =>
    rintro D ys W hD rfl ⟨⟨v, hv, hrow, hnil, _⟩, -, hB⟩ hK
    have hc := hv.cell
    gi_wp2
    refine ⟨by simp, .inl ⟨_, _, rfl, run_takeDeferred hK, ?_⟩⟩
    exact ⟨_, results_tmp rfl _ _ _, v, rfl, ownsRow_putObj hrow _ hK rfl, hnil, hB.trans (belowK_b (w := w) (Nat.le_refl _) W D _ _ (by simp at hD; omega) hK rfl rfl)⟩
  case stop =>
    rintro D c pre W _ _ h _
    exact h.elim
end

section
open Go.RowKit Go.Shelf

attribute [local go_sem] Oper.semAt_some

def orBit (o : Int) (x : Fin 10) : Int := bits .or .i64 o (2 ^ x.1)
theorem wrap_two : ∀ x : Fin 10, IntKind.i64.wrap (2 ^ x.1) = 2 ^ x.1 := by decide
theorem wrap_two' (x : Fin 10) : wrap64 (2 ^ x.1) = 2 ^ x.1 := by rw [← IntWalk.i64_left]; exact wrap_two x
/-- The k least ids of a list, as a mask. -/
def lowF : List (Fin 10) → Int → Int → Int
  | [], o, _ => o
  | x :: l, o, k => if k < 1 then o else lowF l (orBit o x) (k - 1)
def LowI (m k : Int) (pre : List (Fin 10)) (o kk : Int) : Prop := kk ≤ k ∧ -9223372036854775808 ≤ kk ∧ ∀ rest, idsF m = pre ++ rest → lowF (idsF m) 0 k = lowF rest o kk
set_option maxRecDepth 100000 in
set_option maxHeartbeats 4000000 in
theorem Lowest_in (n : Nat) (hn : 3 ≤ n) (m k : Int) (hm0 : -9223372036854775808 ≤ m) (hm1 : m ≤ 9223372036854775807) (hk0 : -9223372036854775808 ≤ k) (hk1 : k ≤ 9223372036854775807) (w : World) :
    CallsIn Fence.wide n Tryz.prog 59 #[.int .i64 m, .int .i64 k] w fun e W' => e = .returned (.int .i64 (lowF (idsF m) 0 k)) ∧ Below w.heap.size w W' := by
  have h1 : 1 ≤ n := by omega
  refine callsIn_of_wp_marks Tryz.func59 rfl trivial ?_ rfl
  simp only [Tryz.ntmps59, List.size_toArray, List.length_cons, List.length_nil, Nat.reduceAdd, Nat.reduceSub, Array.replicate_succ, Array.replicate_zero, List.push_toArray, List.append_toArray, List.nil_append, List.cons_append]
  gi_wp2_with (refine ⟨trivial, ?_⟩; gi_at_call 109; refine (members_in (n - 1) _ _).mono ?_; rintro e w' ⟨rfl, rfl⟩)
  have bK := ((Boxed.new w 3 (.int .i64 k)).alloc (.cells #[.int .i64 0] 32)).alloc (.cells #[.int .i64 m] 32)
  have bO := (Boxed.new (w.alloc (.cells #[.int .i64 k] 3)) 32 (.int .i64 0)).alloc (.cells #[.int .i64 m] 32)
  have bM := Boxed.new ((w.alloc (.cells #[.int .i64 k] 3)).alloc (.cells #[.int .i64 0] 32)) 32 (.int .i64 m)
  rw [World.size_alloc] at bO
  rw [World.size_alloc, World.size_alloc] at bM
  have hB0 : Below w.heap.size w (((w.alloc (.cells #[.int .i64 k] 3)).alloc (.cells #[.int .i64 0] 32)).alloc (.cells #[.int .i64 m] 32)) := (((Below.refl _ w).alloc (Nat.le_refl _) _).alloc (by simp) _).alloc (by simp; omega) _
  refine wpIn_rangeFunc_ownG rfl h1 (gf := 153) (lb := #[.pointer (some ⟨w.heap.size + 1 + 1, 0, none⟩)]) rfl trivial (enters_of Tryz.func153 (by kernel_rfl) rfl)
    (members_stops (n - 1) (by omega) (w.heap.size + 1 + 1) m hm0 hm1 _ (by simp) bM.cell) kpC_t kpC_b (Below.refl _ _) (fun _ => rfl)
    (fun pre W => ∃ o kk, Boxed W w.heap.size 3 (.int .i64 kk) ∧ Boxed W (w.heap.size + 1) 32 (.int .i64 o) ∧ Boxed W (w.heap.size + 1 + 1) 32 (.int .i64 m) ∧ Below w.heap.size w W ∧ LowI m k pre o kk)
    (fun c pre W => c = .exit 0 ∧ ∃ o, Boxed W (w.heap.size + 1) 32 (.int .i64 o) ∧ Below w.heap.size w W ∧ ∀ rest, idsF m = pre ++ rest → lowF (idsF m) 0 k = o)
    ?hI ?hIx ⟨0, k, bK, bO, bM, hB0, by omega, by omega, fun rest e => by rw [List.nil_append] at e; rw [e]⟩
    (fun x => { tmps := #[.int .i64 m, .int .i64 k, undef, .pointer (some ⟨w.heap.size, 0, none⟩), .int .i64 0, .pointer (some ⟨w.heap.size + 1, 0, none⟩), .int .i64 (x.1 : Int), .int .i64 m, .func (.func 153) #[] #[.pointer (some ⟨w.heap.size + 1 + 1, 0, none⟩)], .int .i64 (x.1 : Int), undef, undef, undef, undef, undef, undef, undef, undef, undef], defers := [] }) ?assign ?body ?done ?stop
  case hI =>
    rintro s W W' row ⟨o, kk, b1, b2, b3, hB, hL⟩ hg hr
    have hne : ∀ B t v, Boxed W B t v → some B ≠ row := fun B t v hb e => by
      obtain ⟨_, o', ho, hc⟩ := hr B e.symm
      rw [show W.heap[B]? = _ from hb] at ho
      cases ho
      cases hc
    exact ⟨o, kk, b1.kept hg (hne _ _ _ b1), b2.kept hg (hne _ _ _ b2), b3.kept hg (hne _ _ _ b3), hB.grown hg hB.size (fun r e => by have := (hr r e).1; simp at this; omega), hL⟩
  case hIx =>
    rintro c s W W' row ⟨hc', o, b2, hB, hL⟩ hg hr
    have hne : ∀ B t v, Boxed W B t v → some B ≠ row := fun B t v hb e => by
      obtain ⟨_, o', ho, hc⟩ := hr B e.symm
      rw [show W.heap[B]? = _ from hb] at ho
      cases ho
      cases hc
    exact ⟨hc', o, b2.kept hg (hne _ _ _ b2), hB.grown hg hB.size (fun r e => by have := (hr r e).1; simp at this; omega), hL⟩
  case assign =>
    intro l x W K hK
    gi_wp2
    exact hK
  case body =>
    rintro l pre x W ⟨o, kk, b1, b2, b3, hB, hkk, hkl, hL⟩ hlt
    have c1 := b1.cell
    have f1 := b1.frozen
    have c2 := b2.cell
    have f2 := b2.frozen
    have hx := x.2
    have hxz : (0 : Int) ≤ (x.1 : Int) := by omega
    have hxz' : (x.1 : Int) < 10 := by omega
    have hmo : Tryz.prog.follows .mixedOrders = true := by kernel_rfl
    have hw1 := wrap_two x
    have hw2 := wrap_two' x
    by_cases hk : kk < 1
    · gi_wp2
      exact ⟨KeepsFrom.refl _ _, rfl, o, b2, hB, fun rest e => by rw [hL (x :: rest) (by rw [e]; simp)]; simp only [lowF, if_pos hk]⟩
    · gi_wp2
      gi_region_o
      all_goals gi_wp2
      all_goals
        have b1' := (b1.other (B' := w.heap.size + 1) (by omega) (.int .i64 (orBit o x))).set (.int .i64 (kk - 1))
        have b2' := (b2.set (.int .i64 (orBit o x))).other (B' := w.heap.size) (by omega) (.int .i64 (kk - 1))
        have b3' := (b3.other (B' := w.heap.size + 1) (by omega) (.int .i64 (orBit o x))).other (B' := w.heap.size) (by omega) (.int .i64 (kk - 1))
        have hB' : Below w.heap.size w (((W.setCell ⟨w.heap.size + 1, 0, none⟩ (.int .i64 (orBit o x))).setCell ⟨w.heap.size, 0, none⟩ (.int .i64 (kk - 1))).drew) := ((hB.setCell (p := ⟨w.heap.size + 1, 0, none⟩) (by show w.heap.size ≤ w.heap.size + 1; omega) _).setCell (p := ⟨w.heap.size, 0, none⟩) (Nat.le_refl _) _).drew
        refine ⟨(((KeepsOthers.setCell _ _ _).trans (KeepsOthers.setCell _ _ _)).trans (KeepsOthers.drew _)).from _, fun u hu => ?_, orBit o x, kk - 1, b1', b2', b3', hB', by omega, by omega, fun rest e => ?_⟩
        · rw [b3.cell] at hu
          rw [← hu]
          exact b3'.cell
        · rw [hL (x :: rest) (by rw [e]; simp)]
          simp only [lowF, if_neg (show ¬ kk < 1 by omega)]
  case done =>
    rintro D ys W hD rfl ⟨o, kk, b1, b2, b3, hB, hkk, hkl, hL⟩ hK
    have hc := b2.cell
    gi_wp2
    refine ⟨by simp, .inl ⟨_, _, rfl, run_takeDeferred hK, ?_⟩⟩
    have := hL [] (by simp)
    refine ⟨_, results_tmp rfl _ _ _, by rw [this]; rfl, hB.trans (belowK_b (w := w) (Nat.le_refl _) W D _ _ (by simp at hD; omega) hK rfl rfl)⟩
  case stop =>
    rintro D c pre W hD ⟨rest, hr⟩ ⟨rfl, o, b2, hB, hL⟩ hK
    have hc := b2.cell
    gi_wp2
    refine ⟨by simp, .inl ⟨_, _, rfl, run_takeDeferred hK, ?_⟩⟩
    have := hL rest hr.symm
    refine ⟨_, results_tmp rfl _ _ _, by rw [this]; rfl, hB.trans (belowK_b (w := w) (Nat.le_refl _) W D _ _ (by simp at hD; omega) hK rfl rfl)⟩
theorem Lowest_any (m k : Int) (hm0 : -9223372036854775808 ≤ m) (hm1 : m ≤ 9223372036854775807) (hk0 : -9223372036854775808 ≤ k) (hk1 : k ≤ 9223372036854775807) (w : World) :
    Calls Tryz.prog 59 #[.int .i64 m, .int .i64 k] w fun e w' => e = .returned (.int .i64 (lowF (idsF m) 0 k)) ∧ Upd NoF w w' :=
  (callsIn_wide.1 (Lowest_in 3 (by omega) m k hm0 hm1 hk0 hk1 w)).mono fun _ _ ⟨h1, h2⟩ => ⟨h1, Upd.of_below h2 (fun i hi h => by omega)⟩
theorem IDs_any (m : Int) (hm0 : -9223372036854775808 ≤ m) (hm1 : m ≤ 9223372036854775807) (w : World) :
    Calls Tryz.prog 61 #[.int .i64 m] w fun e w' => ∃ v, e = .returned v ∧ Own w' 3 1 v (idsF m).length (idsV (idsF m)) ∧ (∀ k, OwnB v k → w.heap.size ≤ k) ∧ Upd NoF w w' :=
  (callsIn_wide.1 (IDs_in 3 (by omega) m hm0 hm1 w)).mono fun _ _ ⟨v, h1, h2, _, h3⟩ => ⟨v, h1, (own_of_row h2).1, (own_of_row h2).2, Upd.of_below h3 (fun i hi h => by omega)⟩
/-- committee.Select on plain data. -/
def selS (v : Nat) (k g : Int) : Int := lowF (idsF (bits .andNot .i64 (2 ^ v - 1) g)) 0 k
end

section
open Go.RowKit Go.Shelf Go.Lib Go.Sort

theorem upd_grow (w : World) (os : Array Obj) : Upd NoF w (grow w os) := by
  refine ⟨rfl, rfl, rfl, by simp [grow], fun k hk _ => ?_⟩
  simp [grow, Array.getElem?_append_left hk]
theorem sort_nil_votes (lf : Fn) (la lb : Array Value) (w : World) : Calls Tryz.prog 163 #[.iface 40 (.slice none 0 0), .func lf la lb] w fun e w' => e = .returned (.tuple #[]) ∧ Upd NoF w w' := by
  obtain ⟨i, hi⟩ : ∃ i, Tryz.prog.info? 40 = some i := Option.isSome_iff_exists.1 (by kernel_rfl)
  obtain ⟨ie, hie⟩ : ∃ i, Tryz.prog.info? 36 = some i := Option.isSome_iff_exists.1 (by kernel_rfl)
  have hd : i.desc = .slice 36 := by
    have : (Tryz.prog.info? 40).map (·.desc) = some (.slice 36) := by kernel_rfl
    rw [hi] at this
    simpa using this
  refine (Any.sort_Slice_tiny Tryz.laysGg6 40 36 i ie hi hd (by kernel_rfl) hie 25 (fun w => by kernel_rfl) none 0 0 (by omega) 190 ?_ lf la lb w).mono ?_
  · rw [show swapperK 0 ie 25 = 1 from rfl]
    kernel_rfl
  · rintro e w' ⟨rfl, os, rfl⟩
    exact ⟨rfl, upd_grow w os⟩
theorem sort_nil_outs (lf : Fn) (la lb : Array Value) (w : World) : Calls Tryz.prog 163 #[.iface 194 (.slice none 0 0), .func lf la lb] w fun e w' => e = .returned (.tuple #[]) ∧ Upd NoF w w' := by
  obtain ⟨i, hi⟩ : ∃ i, Tryz.prog.info? 194 = some i := Option.isSome_iff_exists.1 (by kernel_rfl)
  obtain ⟨ie, hie⟩ : ∃ i, Tryz.prog.info? 199 = some i := Option.isSome_iff_exists.1 (by kernel_rfl)
  have hd : i.desc = .slice 199 := by
    have : (Tryz.prog.info? 194).map (·.desc) = some (.slice 199) := by kernel_rfl
    rw [hi] at this
    simpa using this
  refine (Any.sort_Slice_tiny Tryz.laysGg6 194 199 i ie hi hd (by kernel_rfl) hie 25 (fun w => by kernel_rfl) none 0 0 (by omega) 190 ?_ lf la lb w).mono ?_
  · rw [show swapperK 0 ie 25 = 1 from rfl]
    kernel_rfl
  · rintro e w' ⟨rfl, os, rfl⟩
    exact ⟨rfl, upd_grow w os⟩
end
end Go.Proofs.YthknobbilcolnaaGreat
