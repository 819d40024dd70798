/- Rules by which weakest preconditions are reckoned out. No condition. -/
import Derived.Test.YthknobbilcolnaaGreatJn9
namespace Go.Proofs.YthknobbilcolnaaGreat
open Go.RowKit

/-- What is owed to a value that may be missing. -/
def optK {α : Type} (x : Option α) (K : α → Prop) : Prop := match x with | some a => K a | none => False
section
variable {α γ : Type} {P : Program} {L : Nat} {env : Env} {H : List AObj} {Q : Exit → Env → List AObj → Prop}
@[simp] theorem optK_some (a : α) (K : α → Prop) : optK (some a) K = K a := _root_.id rfl
@[simp] theorem optK_none (K : α → Prop) : optK (none : Option α) K = False := _root_.id rfl
@[simp] theorem optK_if (c : Prop) [Decidable c] (x : Option α) (K : α → Prop) : optK (if c then x else none) K = (c ∧ optK x K) := by
  by_cases h : c <;> simp [h, optK]
def optV (x : Option AV) (H : List AObj) (K : AV → List AObj → Prop) : Prop := match x with | some a => K a H | none => False
@[simp] theorem optV_some (a : AV) (K : AV → List AObj → Prop) : optV (some a) H K = K a H := _root_.id rfl
@[simp] theorem optV_none (K : AV → List AObj → Prop) : optV none H K = False := _root_.id rfl
@[simp] theorem optV_if (c : Prop) [Decidable c] (x : Option AV) (K : AV → List AObj → Prop) : optV (if c then x else none) H K = (c ∧ optV x H K) := by
  by_cases h : c <;> simp [h, optV]
def optP (x : Option (AV × List AObj)) (K : AV → List AObj → Prop) : Prop := match x with | some p => K p.1 p.2 | none => False
@[simp] theorem optP_some (a : AV) (K : AV → List AObj → Prop) : optP (some (a, H)) K = K a H := _root_.id rfl
@[simp] theorem optP_none (K : AV → List AObj → Prop) : optP none K = False := _root_.id rfl
@[simp] theorem optP_if (c : Prop) [Decidable c] (x : Option (AV × List AObj)) (K : AV → List AObj → Prop) : optP (if c then x else none) K = (c ∧ optP x K) := by
  by_cases h : c <;> simp [h, optP]
def optH (x : Option (List AObj)) (K : AV → List AObj → Prop) : Prop := match x with | some H => K .any H | none => False
@[simp] theorem optH_some (K : AV → List AObj → Prop) : optH (some H) K = K .any H := _root_.id rfl
@[simp] theorem optH_none (K : AV → List AObj → Prop) : optH none K = False := _root_.id rfl
@[simp] theorem optH_if (c : Prop) [Decidable c] (x : Option (List AObj)) (K : AV → List AObj → Prop) : optH (if c then x else none) K = (c ∧ optH x K) := by
  by_cases h : c <;> simp [h, optH]
@[simp] theorem stepK_map (x : Option AV) (Kv : AV → List AObj → Prop) (Kc : FuncId → List AV → Prop) : stepK (x.map (StepA.val · H)) Kv Kc = optV x H Kv := by cases x <;> rfl
@[simp] theorem stepK_map2 (x : Option (AV × List AObj)) (Kv : AV → List AObj → Prop) (Kc : FuncId → List AV → Prop) : stepK (x.map (fun p => StepA.val p.1 p.2)) Kv Kc = optP x Kv := by cases x <;> rfl
@[simp] theorem stepK_map3 (x : Option (List AObj)) (Kv : AV → List AObj → Prop) (Kc : FuncId → List AV → Prop) : stepK (x.map (fun H' => StepA.val .any H')) Kv Kc = optH x Kv := by cases x <;> rfl
@[simp] theorem stepK_if (c : Prop) [Decidable c] (x : Option StepA) (Kv : AV → List AObj → Prop) (Kc : FuncId → List AV → Prop) : stepK (if c then x else none) Kv Kc = (c ∧ stepK x Kv Kc) := by
  by_cases h : c <;> simp [h, stepK]
@[simp] theorem stepK_none (Kv : AV → List AObj → Prop) (Kc : FuncId → List AV → Prop) : stepK none Kv Kc = False := _root_.id rfl
@[simp] theorem stepK_val (a : AV) (H : List AObj) (Kv : AV → List AObj → Prop) (Kc : FuncId → List AV → Prop) : stepK (some (.val a H)) Kv Kc = Kv a H := _root_.id rfl
@[simp] theorem stepK_call (f : FuncId) (az : List AV) (Kv : AV → List AObj → Prop) (Kc : FuncId → List AV → Prop) : stepK (some (.call f az)) Kv Kc = Kc f az := _root_.id rfl
@[simp] theorem W_skip : W P L .skip Q env H = Q .normal env H := _root_.id rfl
@[simp] theorem W_region (id : Nat) (ops : Array Oper) : W P L (.region id ops false) Q env H = wops P ops.toList ops.toList (Q .normal) env H := _root_.id rfl
@[simp] theorem W_regionD (id : Nat) (ops : Array Oper) (h : ordAll ops.toList = true) : W P L (.region id ops true) Q env H = wopsD P ops.toList ops.toList (Q .normal) env H := if_pos h
theorem W_regionN (id : Nat) (ops : Array Oper) (h : ordAll ops.toList = false) : W P L (.region id ops true) Q env H = dops P ops.toList ops.size 0 ops.toList (Q .normal) [] [] env H := if_neg (by rw [h]; decide)
@[simp] theorem W_seq (x y : Code) : W P L (.seq x y) Q env H = W P L x (thenA (W P L y Q) Q) env H := _root_.id rfl
@[simp] theorem W_scope (c : Code) : W P L (.scope c) Q env H = W P L c (noG Q) env H := _root_.id rfl
@[simp] theorem noG_normal : noG Q .normal env H = Q .normal env H := _root_.id rfl
@[simp] theorem noG_ret : noG Q .ret env H = Q .ret env H := _root_.id rfl
@[simp] theorem noG_exit (i : Nat) : noG Q (.exit i) env H = Q (.exit i) env H := _root_.id rfl
@[simp] theorem W_block (id : Nat) (c : Code) : W P L (.block id c) Q env H = W P L c (blockA id Q) env H := _root_.id rfl
@[simp] theorem W_exit (id : Nat) : W P L (.exit id) Q env H = Q (.exit id) env H := _root_.id rfl
@[simp] theorem W_ret : W P L .ret Q env H = Q .ret env H := _root_.id rfl
@[simp] theorem W_label (l : Nat) : W P L (.label l) Q env H = Q .normal env H := _root_.id rfl
/-- A test and the two ways behind it. -/
def condW (P : Program) (L : Nat) (x y : Code) (Q : Exit → Env → List AObj → Prop) (env : Env) (H : List AObj) : AV → Prop
  | .c (.bool t) => (t = true → W P L x Q env H) ∧ (t = false → W P L y Q env H)
  | _ => False
@[simp] theorem W_cond (c : Operand) (x y : Code) : W P L (.cond c x y) Q env H = condW P L x y Q env H (evA env c) := by
  simp only [W, condW]
  generalize evA env c = z
  cases z <;> first | rfl | (rename_i v; cases v <;> rfl)
@[simp] theorem condW_c (x y : Code) (t : Bool) : condW P L x y Q env H (.c (.bool t)) = ((t = true → W P L x Q env H) ∧ (t = false → W P L y Q env H)) := _root_.id rfl
@[simp] theorem thenA_normal (n : Env → List AObj → Prop) : thenA n Q .normal env H = n env H := _root_.id rfl
@[simp] theorem thenA_exit (n : Env → List AObj → Prop) (i : Nat) : thenA n Q (.exit i) env H = Q (.exit i) env H := _root_.id rfl
@[simp] theorem thenA_ret (n : Env → List AObj → Prop) : thenA n Q .ret env H = Q .ret env H := _root_.id rfl
@[simp] theorem blockA_normal (id : Nat) : blockA id Q .normal env H = Q .normal env H := _root_.id rfl
@[simp] theorem blockA_exit (id i : Nat) : blockA id Q (.exit i) env H = if i = id then Q .normal env H else Q (.exit i) env H := _root_.id rfl
@[simp] theorem blockA_ret (id : Nat) : blockA id Q .ret env H = Q .ret env H := _root_.id rfl

/-! ### regions -/
@[simp] theorem wops_nil (all : List Oper) (K : Env → List AObj → Prop) : wops P all [] K env H = K env H := _root_.id rfl
def nextV (P : Program) (all rest : List Oper) (K : Env → List AObj → Prop) (env : Env) (d : Option Tmp) (a : AV) (H : List AObj) : Prop := wops P all rest K (putE env d a) H
def nextC (P : Program) (all rest : List Oper) (K : Env → List AObj → Prop) (env : Env) (d : Option Tmp) (H : List AObj) (f : FuncId) (args : List AV) : Prop := PCall P f args H (nextV P all rest K env d)
@[simp] theorem nextV_eq (all rest : List Oper) (K : Env → List AObj → Prop) (d : Option Tmp) (a : AV) : nextV P all rest K env d a H = wops P all rest K (putE env d a) H := _root_.id rfl
@[simp] theorem nextC_eq (all rest : List Oper) (K : Env → List AObj → Prop) (d : Option Tmp) (f : FuncId) (args : List AV) : nextC P all rest K env d H f args = PCall P f args H (nextV P all rest K env d) := _root_.id rfl
@[simp] theorem wops_plain (all : List Oper) (d : Option Tmp) (op : Op) (ty : TypeId) (pos : String) (after : Array Edge) (rest : List Oper) (K : Env → List AObj → Prop) : wops P all (⟨d, op, ty, pos, after, none⟩ :: rest) K env H = stepK (opA P H (evA env) ⟨d, op, ty, pos, after, none⟩) (nextV P all rest K env d) (nextC P all rest K env d H) := _root_.id rfl
/-- An operation under a guard. -/
def guardW (P : Program) (all rest : List Oper) (K : Env → List AObj → Prop) (env : Env) (H : List AObj) (o : Oper) (b : Bool) : AV → Prop
  | .c (.bool x) => (x = b → stepK (opA P H (evA env) o) (nextV P all rest K env o.dst) (nextC P all rest K env o.dst H)) ∧ (x ≠ b → wops P all rest K (putE env o.dst (.tup [])) H)
  | .tup [] => wops P all rest K (putE env o.dst (.tup [])) H
  | _ => False
@[simp] theorem guardW_c (all rest : List Oper) (K : Env → List AObj → Prop) (o : Oper) (b x : Bool) : guardW P all rest K env H o b (.c (.bool x)) = ((x = b → stepK (opA P H (evA env) o) (nextV P all rest K env o.dst) (nextC P all rest K env o.dst H)) ∧ (x ≠ b → wops P all rest K (putE env o.dst (.tup [])) H)) := _root_.id rfl
def guardD (P : Program) (all rest : List Oper) (K : Env → List AObj → Prop) (env : Env) (H : List AObj) (o : Oper) (b : Bool) : Option Nat → Prop
  | some d => guardW P all rest K env H o b (env.getD d .any)
  | none => False
/-- The same, with the guard's slot set to what it is known to be. -/
def guardS (P : Program) (all rest : List Oper) (K : Env → List AObj → Prop) (env : Env) (H : List AObj) (o : Oper) (b : Bool) (d : Nat) : AV → Prop
  | .c (.bool x) => (x = b → stepK (opA P H (evA (env.set d (.c (.bool b)))) o) (nextV P all rest K (env.set d (.c (.bool b))) o.dst) (nextC P all rest K (env.set d (.c (.bool b))) o.dst H)) ∧ (x ≠ b → wops P all rest K (putE (env.set d (.c (.bool (!b)))) o.dst (.tup [])) H)
  | .tup [] => wops P all rest K (putE env o.dst (.tup [])) H
  | _ => False
@[simp] theorem guardS_tup (all rest : List Oper) (K : Env → List AObj → Prop) (o : Oper) (b : Bool) (d : Nat) : guardS P all rest K env H o b d (.tup []) = wops P all rest K (putE env o.dst (.tup [])) H := _root_.id rfl
@[simp low] theorem guardS_c (all rest : List Oper) (K : Env → List AObj → Prop) (o : Oper) (b x : Bool) (d : Nat) : guardS P all rest K env H o b d (.c (.bool x)) = ((x = b → stepK (opA P H (evA (env.set d (.c (.bool b)))) o) (nextV P all rest K (env.set d (.c (.bool b))) o.dst) (nextC P all rest K (env.set d (.c (.bool b))) o.dst H)) ∧ (x ≠ b → wops P all rest K (putE (env.set d (.c (.bool (!b)))) o.dst (.tup [])) H)) := _root_.id rfl
@[simp] theorem guardS_true (all rest : List Oper) (K : Env → List AObj → Prop) (o : Oper) (d : Nat) : guardS P all rest K env H o true d (.c (.bool true)) = stepK (opA P H (evA (env.set d (.c (.bool true)))) o) (nextV P all rest K (env.set d (.c (.bool true))) o.dst) (nextC P all rest K (env.set d (.c (.bool true))) o.dst H) := by simp [guardS]
@[simp] theorem guardS_not_true (all rest : List Oper) (K : Env → List AObj → Prop) (o : Oper) (d : Nat) : guardS P all rest K env H o true d (.c (.bool false)) = wops P all rest K (putE (env.set d (.c (.bool false))) o.dst (.tup [])) H := by simp [guardS]
@[simp] theorem guardS_false (all rest : List Oper) (K : Env → List AObj → Prop) (o : Oper) (d : Nat) : guardS P all rest K env H o false d (.c (.bool false)) = stepK (opA P H (evA (env.set d (.c (.bool false)))) o) (nextV P all rest K (env.set d (.c (.bool false))) o.dst) (nextC P all rest K (env.set d (.c (.bool false))) o.dst H) := by simp [guardS]
@[simp] theorem guardS_not_false (all rest : List Oper) (K : Env → List AObj → Prop) (o : Oper) (d : Nat) : guardS P all rest K env H o false d (.c (.bool true)) = wops P all rest K (putE (env.set d (.c (.bool true))) o.dst (.tup [])) H := by simp [guardS]
theorem set_same' {d : Nat} {x : AV} (h : env.getD d .any = x) (hx : x ≠ .any) : env.set d x = env := by
  rw [List.getD_eq_getElem?_getD] at h
  cases hd : env[d]? with
  | none => rw [hd] at h; exact absurd h.symm hx
  | some y =>
    rw [hd] at h
    obtain ⟨hl, rfl⟩ := List.getElem?_eq_some_iff.1 hd
    obtain rfl : env[d] = x := h
    exact List.set_getElem_self hl
@[simp] theorem guardD_some (all rest : List Oper) (K : Env → List AObj → Prop) (o : Oper) (b : Bool) (d : Nat) : guardD P all rest K env H o b (some d) = guardS P all rest K env H o b d (env.getD d .any) := by
  simp only [guardD]
  cases h : env.getD d .any <;> try rfl
  rotate_left
  · rename_i vs
    cases vs <;> rfl
  rename_i v
  cases v <;> try rfl
  rename_i x
  simp only [guardW, guardS]
  have e1 : x = b → env.set d (.c (.bool b)) = env := fun e => by subst e; exact set_same' h (by simp)
  have e2 : x ≠ b → env.set d (.c (.bool (!b))) = env := fun e => by
    have : x = !b := by cases x <;> cases b <;> simp_all
    subst this; exact set_same' h (by simp)
  exact propext ⟨fun ⟨h1, h2⟩ => ⟨fun e => by rw [e1 e]; exact h1 e, fun e => by rw [e2 e]; exact h2 e⟩, fun ⟨h1, h2⟩ => ⟨fun e => by have := h1 e; rwa [e1 e] at this, fun e => by have := h2 e; rwa [e2 e] at this⟩⟩
@[simp] theorem wops_guard (all : List Oper) (d : Option Tmp) (op : Op) (ty : TypeId) (pos : String) (after : Array Edge) (g : Nat) (b : Bool) (rest : List Oper) (K : Env → List AObj → Prop) : wops P all (⟨d, op, ty, pos, after, some (g, b)⟩ :: rest) K env H = guardD P all rest K env H ⟨d, op, ty, pos, after, some (g, b)⟩ b ((all[g]?).bind (·.dst)) := by
  simp only [wops, guardD]
  cases (all[g]?).bind (·.dst) with
  | none => rfl
  | some dg =>
    simp only [guardW]
    generalize env.getD dg .any = x
    cases x <;> first | rfl | (rename_i v; cases v <;> rfl)
/-! drawn regions -/
@[simp] theorem wopsD_nil (all : List Oper) (K : Env → List AObj → Prop) : wopsD P all [] K env H = K env H := _root_.id rfl
def nextDV (P : Program) (all rest : List Oper) (K : Env → List AObj → Prop) (env : Env) (d : Option Tmp) (a : AV) (H : List AObj) : Prop := wopsD P all rest K (putE env d a) H
def nextDC (P : Program) (all rest : List Oper) (K : Env → List AObj → Prop) (env : Env) (d : Option Tmp) (H : List AObj) (f : FuncId) (args : List AV) : Prop := (∃ r, (∀ H0, PCall P f args H0 fun r' H' => r' = r ∧ H' = H0) ∧ wopsD P all rest K (putE env d r) H) ∨ (ordC all = true ∧ ∃ r H', (PCall P f args H fun x H1 => x = r ∧ H1 = H') ∧ wopsD P all rest K (putE env d r) H')
@[simp] theorem nextDV_eq (all rest : List Oper) (K : Env → List AObj → Prop) (d : Option Tmp) (a : AV) : nextDV P all rest K env d a H = wopsD P all rest K (putE env d a) H := _root_.id rfl
theorem nextDC_of {all rest : List Oper} {K : Env → List AObj → Prop} {d : Option Tmp} {f : FuncId} {args : List AV} (r : AV) (h : ∀ H0, PCall P f args H0 fun r' H' => r' = r ∧ H' = H0) (hk : wopsD P all rest K (putE env d r) H) : nextDC P all rest K env d H f args := .inl ⟨r, h, hk⟩
/-- A call that knows objects, in a drawn region whose calls are ordered. -/
theorem nextDC.eff {all rest : List Oper} {K : Env → List AObj → Prop} {d : Option Tmp} {f : FuncId} {args : List AV} (hc : ordC all = true) (r : AV) (H' : List AObj) (h : PCall P f args H fun x H1 => x = r ∧ H1 = H') (hk : wopsD P all rest K (putE env d r) H') : nextDC P all rest K env d H f args := .inr ⟨hc, r, H', h, hk⟩
@[simp] theorem wopsD_plain (all : List Oper) (d : Option Tmp) (op : Op) (ty : TypeId) (pos : String) (after : Array Edge) (rest : List Oper) (K : Env → List AObj → Prop) : wopsD P all (⟨d, op, ty, pos, after, none⟩ :: rest) K env H = stepK (opA P H (evA env) ⟨d, op, ty, pos, after, none⟩) (nextDV P all rest K env d) (nextDC P all rest K env d H) := _root_.id rfl
def guardDW (P : Program) (all rest : List Oper) (K : Env → List AObj → Prop) (env : Env) (H : List AObj) (o : Oper) (b : Bool) : AV → Prop
  | .c (.bool x) => (x = b → stepK (opA P H (evA env) o) (nextDV P all rest K env o.dst) (nextDC P all rest K env o.dst H)) ∧ (x ≠ b → wopsD P all rest K (putE env o.dst (.tup [])) H)
  | .tup [] => wopsD P all rest K (putE env o.dst (.tup [])) H
  | _ => False
@[simp] theorem guardDW_c (all rest : List Oper) (K : Env → List AObj → Prop) (o : Oper) (b x : Bool) : guardDW P all rest K env H o b (.c (.bool x)) = ((x = b → stepK (opA P H (evA env) o) (nextDV P all rest K env o.dst) (nextDC P all rest K env o.dst H)) ∧ (x ≠ b → wopsD P all rest K (putE env o.dst (.tup [])) H)) := _root_.id rfl
def guardDD (P : Program) (all rest : List Oper) (K : Env → List AObj → Prop) (env : Env) (H : List AObj) (o : Oper) (b : Bool) : Option Nat → Prop
  | some d => guardDW P all rest K env H o b (env.getD d .any)
  | none => False
def guardDS (P : Program) (all rest : List Oper) (K : Env → List AObj → Prop) (env : Env) (H : List AObj) (o : Oper) (b : Bool) (d : Nat) : AV → Prop
  | .c (.bool x) => (x = b → stepK (opA P H (evA (env.set d (.c (.bool b)))) o) (nextDV P all rest K (env.set d (.c (.bool b))) o.dst) (nextDC P all rest K (env.set d (.c (.bool b))) o.dst H)) ∧ (x ≠ b → wopsD P all rest K (putE (env.set d (.c (.bool (!b)))) o.dst (.tup [])) H)
  | .tup [] => wopsD P all rest K (putE env o.dst (.tup [])) H
  | _ => False
@[simp] theorem guardDS_tup (all rest : List Oper) (K : Env → List AObj → Prop) (o : Oper) (b : Bool) (d : Nat) : guardDS P all rest K env H o b d (.tup []) = wopsD P all rest K (putE env o.dst (.tup [])) H := _root_.id rfl
@[simp low] theorem guardDS_c (all rest : List Oper) (K : Env → List AObj → Prop) (o : Oper) (b x : Bool) (d : Nat) : guardDS P all rest K env H o b d (.c (.bool x)) = ((x = b → stepK (opA P H (evA (env.set d (.c (.bool b)))) o) (nextDV P all rest K (env.set d (.c (.bool b))) o.dst) (nextDC P all rest K (env.set d (.c (.bool b))) o.dst H)) ∧ (x ≠ b → wopsD P all rest K (putE (env.set d (.c (.bool (!b)))) o.dst (.tup [])) H)) := _root_.id rfl
@[simp] theorem guardDS_true (all rest : List Oper) (K : Env → List AObj → Prop) (o : Oper) (d : Nat) : guardDS P all rest K env H o true d (.c (.bool true)) = stepK (opA P H (evA (env.set d (.c (.bool true)))) o) (nextDV P all rest K (env.set d (.c (.bool true))) o.dst) (nextDC P all rest K (env.set d (.c (.bool true))) o.dst H) := by simp [guardDS]
@[simp] theorem guardDS_not_true (all rest : List Oper) (K : Env → List AObj → Prop) (o : Oper) (d : Nat) : guardDS P all rest K env H o true d (.c (.bool false)) = wopsD P all rest K (putE (env.set d (.c (.bool false))) o.dst (.tup [])) H := by simp [guardDS]
@[simp] theorem guardDS_false (all rest : List Oper) (K : Env → List AObj → Prop) (o : Oper) (d : Nat) : guardDS P all rest K env H o false d (.c (.bool false)) = stepK (opA P H (evA (env.set d (.c (.bool false)))) o) (nextDV P all rest K (env.set d (.c (.bool false))) o.dst) (nextDC P all rest K (env.set d (.c (.bool false))) o.dst H) := by simp [guardDS]
@[simp] theorem guardDS_not_false (all rest : List Oper) (K : Env → List AObj → Prop) (o : Oper) (d : Nat) : guardDS P all rest K env H o false d (.c (.bool true)) = wopsD P all rest K (putE (env.set d (.c (.bool true))) o.dst (.tup [])) H := by simp [guardDS]
@[simp] theorem guardDD_some (all rest : List Oper) (K : Env → List AObj → Prop) (o : Oper) (b : Bool) (d : Nat) : guardDD P all rest K env H o b (some d) = guardDS P all rest K env H o b d (env.getD d .any) := by
  simp only [guardDD]
  cases h : env.getD d .any <;> try rfl
  rotate_left
  · rename_i vs
    cases vs <;> rfl
  rename_i v
  cases v <;> try rfl
  rename_i x
  simp only [guardDW, guardDS]
  have e1 : x = b → env.set d (.c (.bool b)) = env := fun e => by subst e; exact set_same' h (by simp)
  have e2 : x ≠ b → env.set d (.c (.bool (!b))) = env := fun e => by
    have : x = !b := by cases x <;> cases b <;> simp_all
    subst this; exact set_same' h (by simp)
  exact propext ⟨fun ⟨h1, h2⟩ => ⟨fun e => by rw [e1 e]; exact h1 e, fun e => by rw [e2 e]; exact h2 e⟩, fun ⟨h1, h2⟩ => ⟨fun e => by have := h1 e; rwa [e1 e] at this, fun e => by have := h2 e; rwa [e2 e] at this⟩⟩
@[simp] theorem wopsD_guard (all : List Oper) (d : Option Tmp) (op : Op) (ty : TypeId) (pos : String) (after : Array Edge) (g : Nat) (b : Bool) (rest : List Oper) (K : Env → List AObj → Prop) : wopsD P all (⟨d, op, ty, pos, after, some (g, b)⟩ :: rest) K env H = guardDD P all rest K env H ⟨d, op, ty, pos, after, some (g, b)⟩ b ((all[g]?).bind (·.dst)) := by
  simp only [wopsD, guardDD]
  cases (all[g]?).bind (·.dst) with
  | none => rfl
  | some dg =>
    simp only [guardDW]
    generalize env.getD dg .any = x
    cases x <;> first | rfl | (rename_i v; cases v <;> rfl)
@[simp] theorem putE_some (d : Nat) (a : AV) : putE env (some d) a = env.set d a := _root_.id rfl
@[simp] theorem putE_none (a : AV) : putE env none a = env := _root_.id rfl
@[simp] theorem evA_tmp (t : Nat) : evA env (.tmp t) = env.getD t .any := _root_.id rfl
@[simp] theorem evA_func (f : FuncId) : evA env (.func f) = .fn f [] := _root_.id rfl
@[simp] theorem evA_int (k : IntKind) (z : Int) : evA env (.const (.int k z)) = .c (.int k z) := _root_.id rfl
@[simp] theorem evA_bool (b : Bool) : evA env (.const (.bool b)) = .c (.bool b) := _root_.id rfl
@[simp] theorem evA_string (s : ByteArray) : evA env (.const (.string s)) = .c (.string s) := _root_.id rfl
@[simp] theorem evA_nilp : evA env (.const (.pointer none)) = .c (.pointer none) := _root_.id rfl
@[simp] theorem evA_nils : evA env (.const (.slice none 0 0)) = .c (.slice none 0 0) := _root_.id rfl
@[simp] theorem evA_agg (cs : Array Value) : evA env (.const (.agg cs)) = if cs.all plainV = true then .agg (cs.toList.map .c) else .any := _root_.id rfl

/-! ### operations -/
section
variable {ρ : Operand → AV} {d : Option Tmp} {ty : TypeId} {pos : String} {after : Array Edge} {g : Option (Nat × Bool)}
@[simp] theorem opA_move (x : Operand) : opA P H ρ ⟨d, .move x, ty, pos, after, g⟩ = some (.val (ρ x) H) := _root_.id rfl
@[simp] theorem opA_assign (x : Operand) : opA P H ρ ⟨d, .assign x, ty, pos, after, g⟩ = some (.val (ρ x) H) := _root_.id rfl
def pickA (c a b : AV) : Option AV := match c with | .c (.bool t) => some (if t then a else b) | _ => none
@[simp] theorem pickA_c (t : Bool) (a b : AV) : pickA (.c (.bool t)) a b = some (if t then a else b) := _root_.id rfl
@[simp] theorem opA_pick (c a b : Operand) : opA P H ρ ⟨d, .pick c a b, ty, pos, after, g⟩ = (pickA (ρ c) (ρ a) (ρ b)).map (.val · H) := by
  simp only [opA, pickA]
  generalize ρ c = x
  cases x <;> first | rfl | (rename_i v; cases v <;> rfl)
@[simp] theorem opA_alloc (t : TypeId) : opA P H ρ ⟨d, .alloc t, ty, pos, after, g⟩ = (allocA P H t).map fun p => .val p.1 p.2 := _root_.id rfl
@[simp] theorem opA_box (t : TypeId) (x : Operand) : opA P H ρ ⟨d, .box t x, ty, pos, after, g⟩ = (boxA H t (ρ x)).map fun p => .val p.1 p.2 := _root_.id rfl
@[simp] theorem opA_build (t : TypeId) (ps : Array (Nat × Operand)) : opA P H ρ ⟨d, .build t ps, ty, pos, after, g⟩ = (buildA P t (ps.toList.map fun p => (p.1, ρ p.2))).map (.val · H) := _root_.id rfl
@[simp] theorem opA_buildSlice (t : TypeId) (n : Nat) (ps : Array (Nat × Operand)) : opA P H ρ ⟨d, .buildSlice t n ps, ty, pos, after, g⟩ = (buildSliceA P H t n (ps.toList.map fun p => (p.1, ρ p.2))).map fun p => .val p.1 p.2 := _root_.id rfl
@[simp] theorem opA_load (t : TypeId) (x : Operand) : opA P H ρ ⟨d, .load t x, ty, pos, after, g⟩ = (loadA P H t (ρ x)).map (.val · H) := _root_.id rfl
@[simp] theorem opA_store (t : TypeId) (x y : Operand) : opA P H ρ ⟨d, .store t x y, ty, pos, after, g⟩ = (storeA P H t (ρ x) (ρ y)).map fun H' => .val .any H' := _root_.id rfl
def nilA : AV → Option AV
  | .ptr id off => some (.ptr id off)
  | .pe e off => some (.pe e off)
  | .fn f caps => some (.fn f caps)
  | _ => none
@[simp] theorem nilA_ptr (id off : Nat) : nilA (.ptr id off) = some (.ptr id off) := _root_.id rfl
@[simp] theorem nilA_pe (e : AV) (off : Nat) : nilA (.pe e off) = some (.pe e off) := _root_.id rfl
@[simp] theorem nilA_fn (f : FuncId) (cs : List AV) : nilA (.fn f cs) = some (.fn f cs) := _root_.id rfl
@[simp] theorem opA_nilCheck (x : Operand) : opA P H ρ ⟨d, .nilCheck x, ty, pos, after, g⟩ = (nilA (ρ x)).map (.val · H) := by
  simp only [opA, nilA]
  generalize ρ x = y
  cases y <;> rfl
@[simp] theorem opA_binOp (op : BinOp) (t t' : TypeId) (x y : Operand) : opA P H ρ ⟨d, .binOp op t x y t', ty, pos, after, g⟩ = (orA (binA P op t x y (ρ x) (ρ y)) (nlA P op t (ρ x) (ρ y))).map (.val · H) := _root_.id rfl
def unA (P : Program) (op : UnOp) (x : AV) : Option AV := match toV x with | some u => (pv P (Op.unary op u)).map fromV | none => none
@[simp] theorem unA_not (b : Bool) : unA P .not (.c (.bool b)) = some (.c (.bool (!b))) := _root_.id rfl
@[simp] theorem opA_unOp (op : UnOp) (t : TypeId) (x : Operand) : opA P H ρ ⟨d, .unOp op t x, ty, pos, after, g⟩ = (unA P op (ρ x)).map (.val · H) := by
  simp only [opA, unA]
  generalize toV (ρ x) = y
  cases y <;> rfl
@[simp] theorem opA_convert (s t : TypeId) (x : Operand) : opA P H ρ ⟨d, .convert s t x, ty, pos, after, g⟩ = (convA P H s t (ρ x)).map (.val · H) := _root_.id rfl
@[simp] theorem opA_makeFunc (f : FuncId) (caps : Array Operand) : opA P H ρ ⟨d, .makeFunc (.func f) #[] caps, ty, pos, after, g⟩ = some (.val (.fn f (caps.toList.map ρ)) H) := _root_.id rfl
@[simp] theorem opA_makeSlice (t : TypeId) (l c : Operand) : opA P H ρ ⟨d, .makeSlice t l c, ty, pos, after, g⟩ = (makeSliceA P H t (ρ l) (ρ c)).map fun p => .val p.1 p.2 := _root_.id rfl
@[simp] theorem opA_slice (t : TypeId) (x : Operand) (lo hi mx : Option Operand) : opA P H ρ ⟨d, .slice t x lo hi mx, ty, pos, after, g⟩ = if liveB H (ρ x) = true then (sliceA P H t (ρ x) (lo.map ρ) (hi.map ρ) (mx.map ρ)).map (.val · H) else none := _root_.id rfl
@[simp] theorem opA_fieldAddr (t : TypeId) (x : Operand) (f : Nat) : opA P H ρ ⟨d, .fieldAddr t x f, ty, pos, after, g⟩ = if liveB H (ρ x) = true then (fieldAddrA P t (ρ x) f).map (.val · H) else none := _root_.id rfl
@[simp] theorem opA_indexAddr (t : TypeId) (x i : Operand) : opA P H ρ ⟨d, .indexAddr t x i, ty, pos, after, g⟩ = if liveB H (ρ x) = true then (indexAddrA P t (ρ x) (ρ i)).map (.val · H) else none := _root_.id rfl
def extA (x : AV) (i : Nat) : Option AV := match x with | .tup vs => vs[i]? | _ => none
@[simp] theorem extA_tup (vs : List AV) (i : Nat) : extA (.tup vs) i = vs[i]? := _root_.id rfl
@[simp] theorem opA_extract (x : Operand) (i : Nat) : opA P H ρ ⟨d, .extract x i, ty, pos, after, g⟩ = (extA (ρ x) i).map (.val · H) := by
  simp only [opA, extA]
  generalize ρ x = y
  cases y <;> rfl
@[simp] theorem opA_builtin (b : Builtin) (args : Array Operand) (ts : Array TypeId) : opA P H ρ ⟨d, .call ⟨.builtin b, args, ts⟩, ty, pos, after, g⟩ = (builtinA P H b ts.toList (args.toList.map ρ)).map fun p => .val p.1 p.2 := _root_.id rfl
def callA (P : Program) (f : AV) (args : List AV) : Option StepA := match f with | .fn f caps => if callable P f = true ∨ extS P f = true then some (.call f (args ++ caps)) else none | _ => none
@[simp] theorem callA_fn (f : FuncId) (caps args : List AV) : callA P (.fn f caps) args = if callable P f = true ∨ extS P f = true then some (.call f (args ++ caps)) else none := _root_.id rfl
@[simp] theorem opA_value (f : Operand) (args : Array Operand) (ts : Array TypeId) : opA P H ρ ⟨d, .call ⟨.value f, args, ts⟩, ty, pos, after, g⟩ = callA P (ρ f) (args.toList.map ρ) := by
  simp only [opA, calleeA, callA]
  generalize ρ f = y
  cases y <;> rfl
end
section
variable {t : TypeId} {ox oy : Operand} {k : IntKind} {a b : Int}
@[simp] theorem orA_some (a : AV) (y : Option AV) : orA (some a) y = some a := _root_.id rfl
@[simp] theorem orA_none (y : Option AV) : orA none y = y := _root_.id rfl
@[simp] theorem orA_right (x : Option AV) : orA x none = x := by cases x <;> rfl
theorem nlA_zero {op : BinOp} {t : TypeId} {x y : AV} (hy : nilK y = 0) (hs : someK y = 0) : nlA P op t x y = none := by
  unfold nlA
  rw [if_neg]
  rintro (⟨h, -⟩ | ⟨h1, h2, -⟩)
  · exact h hy
  · exact h1 (h2.trans hs)
@[simp] theorem nlA_int (op : BinOp) (t : TypeId) (x : AV) (b : Int) : nlA P op t x (.c (.int k b)) = none := nlA_zero rfl rfl
@[simp] theorem nlA_bool (op : BinOp) (t : TypeId) (x : AV) (b : Bool) : nlA P op t x (.c (.bool b)) = none := nlA_zero rfl rfl
@[simp] theorem nlA_nilp (op : BinOp) (t : TypeId) (x : AV) (b : Option Addr) : nlA P op t x (.c (.pointer b)) = none := nlA_zero rfl rfl
@[simp] theorem nlA_agg (op : BinOp) (t : TypeId) (x : AV) (b : List AV) : nlA P op t x (.agg b) = none := nlA_zero rfl rfl
@[simp] theorem binA_eql : binA P .eql t ox oy (.c (.int k a)) (.c (.int k b)) = some (.c (.bool (decide (a = b)))) := by simp [binA, ibin]
@[simp] theorem binA_neq : binA P .neq t ox oy (.c (.int k a)) (.c (.int k b)) = some (.c (.bool (!decide (a = b)))) := by simp [binA, ibin]
@[simp] theorem binA_lss : binA P .lss t ox oy (.c (.int k a)) (.c (.int k b)) = some (.c (.bool (decide (a < b)))) := by simp [binA, ibin]
@[simp] theorem binA_leq : binA P .leq t ox oy (.c (.int k a)) (.c (.int k b)) = some (.c (.bool (decide (a ≤ b)))) := by simp [binA, ibin]
@[simp] theorem binA_gtr : binA P .gtr t ox oy (.c (.int k a)) (.c (.int k b)) = some (.c (.bool (decide (b < a)))) := by simp [binA, ibin]
@[simp] theorem binA_geq : binA P .geq t ox oy (.c (.int k a)) (.c (.int k b)) = some (.c (.bool (decide (b ≤ a)))) := by simp [binA, ibin]
@[simp] theorem binA_add : binA P .add t ox oy (.c (.int .i64 a)) (.c (.int .i64 b)) = if inr64 (a + b) = true then some (.c (.int .i64 (a + b))) else none := by simp only [binA, ibin]; split <;> simp_all
@[simp] theorem binA_sub : binA P .sub t ox oy (.c (.int .i64 a)) (.c (.int .i64 b)) = if inr64 (a - b) = true then some (.c (.int .i64 (a - b))) else none := by simp only [binA, ibin]; split <;> simp_all
@[simp] theorem binA_mul : binA P .mul t ox oy (.c (.int .i64 a)) (.c (.int .i64 b)) = if inr64 (a * b) = true then some (.c (.int .i64 (a * b))) else none := by simp only [binA, ibin]; split <;> simp_all
@[simp] theorem binA_addu (hk : k ≠ .i64) : binA P .add t ox oy (.c (.int k a)) (.c (.int k b)) = some (.c (.int k (k.wrap (a + b)))) := by cases k <;> simp_all [binA, ibin]
@[simp] theorem binA_subu (hk : k ≠ .i64) : binA P .sub t ox oy (.c (.int k a)) (.c (.int k b)) = some (.c (.int k (k.wrap (a - b)))) := by cases k <;> simp_all [binA, ibin]
@[simp] theorem binA_mulu (hk : k ≠ .i64) : binA P .mul t ox oy (.c (.int k a)) (.c (.int k b)) = some (.c (.int k (k.wrap (a * b)))) := by cases k <;> simp_all [binA, ibin]
@[simp] theorem binA_quo : binA P .quo t ox oy (.c (.int k a)) (.c (.int k b)) = if ¬ b = 0 then some (.c (.int k (k.wrap (a.tdiv b)))) else none := by
  by_cases h : b = 0 <;> simp [binA, ibin, h]
@[simp] theorem binA_rem : binA P .rem t ox oy (.c (.int k a)) (.c (.int k b)) = if ¬ b = 0 then some (.c (.int k (a.tmod b))) else none := by
  by_cases h : b = 0 <;> simp [binA, ibin, h]
@[simp] theorem binA_and : binA P .and t ox oy (.c (.int k a)) (.c (.int k b)) = some (.c (.int k (bits .and k a b))) := by simp [binA, ibin]
@[simp] theorem binA_or : binA P .or t ox oy (.c (.int k a)) (.c (.int k b)) = some (.c (.int k (bits .or k a b))) := by simp [binA, ibin]
@[simp] theorem binA_xor : binA P .xor t ox oy (.c (.int k a)) (.c (.int k b)) = some (.c (.int k (bits .xor k a b))) := by simp [binA, ibin]
@[simp] theorem binA_andNot : binA P .andNot t ox oy (.c (.int k a)) (.c (.int k b)) = some (.c (.int k (bits .andNot k a b))) := by simp [binA, ibin]
@[simp] theorem binA_shl {k' : IntKind} : binA P .shl t ox oy (.c (.int k a)) (.c (.int k' b)) = if ¬ b < 0 then some (.c (.int k (k.wrap (a * 2 ^ min b.toNat k.bits)))) else none := by
  by_cases h : b < 0 <;> simp [binA, ishift, h]
@[simp] theorem binA_shr {k' : IntKind} : binA P .shr t ox oy (.c (.int k a)) (.c (.int k' b)) = if ¬ b < 0 then some (.c (.int k (a.fdiv (2 ^ min b.toNat k.bits)))) else none := by
  by_cases h : b < 0 <;> simp [binA, ishift, h]
@[simp] theorem inr64_iff {z : Int} : (inr64 z = true) = (-9223372036854775808 ≤ z ∧ z ≤ 9223372036854775807) := by simp [inr64]
end
/-! ### results -/
@[simp] theorem resA_nil : resA P H env [] = some [] := _root_.id rfl
@[simp] theorem resA_tmp (t : Tmp) (r : List ResultVar) : resA P H env (.tmp t :: r) = (resA P H env r).map (env.getD t .any :: ·) := _root_.id rfl
@[simp] theorem joinR_one (x : AV) : joinR [x] = x := _root_.id rfl
@[simp] theorem joinR_two (x y : AV) (l : List AV) : joinR (x :: y :: l) = .tup (x :: y :: l) := _root_.id rfl
@[simp] theorem joinR_nil : joinR [] = .tup [] := _root_.id rfl
/-- Results of a body, as they are. -/
def retS (P : Program) (rs : List ResultVar) (Q : AV → List AObj → Prop) : Exit → Env → List AObj → Prop
  | .normal, env, H => optK (resA P H env rs) (fun l => Q (joinR l) H)
  | .ret, env, H => optK (resA P H env rs) (fun l => Q (joinR l) H)
  | _, _, _ => False
@[simp] theorem retS_ret (rs : List ResultVar) (Q : AV → List AObj → Prop) : retS P rs Q .ret env H = optK (resA P H env rs) (fun l => Q (joinR l) H) := _root_.id rfl
@[simp] theorem retS_normal (rs : List ResultVar) (Q : AV → List AObj → Prop) : retS P rs Q .normal env H = optK (resA P H env rs) (fun l => Q (joinR l) H) := _root_.id rfl
/-- A contract out of a body: n slots, results rs. -/
theorem PCall.enter (hm : P.follows .mixedOrders = true) {f : FuncId} {fn : Func} {c : Code} {args : List AV} {Q : AV → List AObj → Prop} {n : Nat} {rs : Array ResultVar} (hf : P.funcs[f]? = some fn) (hb : fn.body = some c) (hn : fn.ntmps = n) (hr : fn.results = rs) (ha : args.length ≤ n) (hc : chk n c = true) (h : W P H.length c (retS P rs.toList Q) (args ++ List.replicate (n - args.length) .any) H) : PCall P f args H Q := by
  subst hn
  subst hr
  refine PCall.of_body hf hb (fun B hB => (PW.of_W (n := fn.ntmps) hm (by rw [hB]) c _ _ H hc (by simp; omega) h).mono (fun e env' H' ⟨_, h2⟩ => ?_))
  have conv : ∀ {env' : Env} {H' : List AObj}, optK (resA P H' env' fn.results.toList) (fun l => Q (joinR l) H') → ∃ l, resA P H' env' fn.results.toList = some l ∧ Q (joinR l) H' := by
    intro env' H' hk
    unfold optK at hk
    split at hk
    · exact ⟨_, by assumption, hk⟩
    · exact hk.elim
  cases e <;> first | exact conv h2 | exact h2.elim
/-- A result in another view. -/
theorem PCall.viewR {f : FuncId} {args : List AV} {Q : AV → List AObj → Prop} (h : PCall P f args H (fun x H1 => ∃ r H', View H.length [x] H1 [r] H' ∧ Q r H')) : PCall P f args H Q := by
  intro F β w vs hr hvl
  refine CallsX.mono (h F β w vs hr hvl) (fun e w' ⟨x, H1, β', v, h1, ⟨r, H', h2, h3⟩, h4, h5, h6⟩ => ?_)
  obtain ⟨β2, r1, x1, v1⟩ := h2.2.2 F β H w β' w' (Nat.le_refl _) h5.len h4 h5
  exact ⟨r, H', β2, v, h1, h3, r1, x1, v1 0 x r v rfl rfl h6⟩
/-- Arguments in another view. -/
theorem PCall.view {f : FuncId} {args args' : List AV} {H1 : List AObj} {Q : AV → List AObj → Prop} (hv : View H.length args H args' H1) (h : PCall P f args' H1 Q) : PCall P f args H Q := by
  intro F β w vs hr hvl
  obtain ⟨β2, r1, x1, v1⟩ := hv.2.2 F β H w β w (Nat.le_refl _) (Nat.le_refl _) hr (Ext.refl _ _ _)
  have hl : vs.length = args'.length := by rw [hv.1]; exact hvl.1
  refine CallsX.mono (h F β2 w vs r1 ⟨hl, fun i a v h1 h2 => ?_⟩) (fun e w' ⟨x, H', β', v, h1, h3, h4, h5, h6⟩ => ⟨x, H', β', v, h1, h3, h4, x1.trans h5, h6⟩)
  have hlt : i < args.length := by rw [← hv.1]; exact (List.getElem?_eq_some_iff.1 h1).1
  exact v1 i _ a v (List.getElem?_eq_getElem hlt) h1 (hvl.2 i _ v (List.getElem?_eq_getElem hlt) h2)
theorem W_loop {c : Code} (I : Nat → Env → List AObj → Prop) (n : Nat) (h0 : VI L I n env H) (h : ∀ n env H, I n env H → W P L c (thenA (fun env' H' => ∃ m, m < n ∧ VI L I m env' H') Q) env H) : W P L (.loop c) Q env H := ⟨I, n, h0, h⟩

/-! ### pointwise -/
/-- Two lists, element by element. -/
def Pw (R : AV → AV → Prop) : List AV → List AV → Prop
  | [], [] => True
  | a :: l, b :: m => R a b ∧ Pw R l m
  | _, _ => False
@[simp] theorem Pw_nil (R : AV → AV → Prop) : Pw R [] [] = True := _root_.id rfl
@[simp] theorem Pw_cons (R : AV → AV → Prop) (a b : AV) (l m : List AV) : Pw R (a :: l) (b :: m) = (R a b ∧ Pw R l m) := _root_.id rfl
theorem Pw.at_ {R : AV → AV → Prop} : ∀ {l m : List AV}, Pw R l m → m.length = l.length ∧ ∀ (i : Nat) (a b : AV), l[i]? = some a → m[i]? = some b → R a b
  | [], [], _ => ⟨rfl, fun i a b h => by simp at h⟩
  | a :: l, b :: m, h => by
    obtain ⟨h1, h2⟩ := Pw.at_ h.2
    refine ⟨by simp [h1], fun i x y hx hy => ?_⟩
    cases i with
    | zero => simp at hx hy; subst hx; subst hy; exact h.1
    | succ i => exact h2 i x y (by simpa using hx) (by simpa using hy)
  | [], _ :: _, h => h.elim
  | _ :: _, [], h => h.elim
@[simp] theorem Rn_any (L M : Nat) (src : Nat → Nat) (a : AV) : Rn L M src a .any = True := eq_true (.any a)
@[simp] theorem Rn_c (L M : Nat) (src : Nat → Nat) (v : Value) : Rn L M src (.c v) (.c v) = True := eq_true (.c v)
@[simp] theorem Rn_own (L M : Nat) (src : Nat → Nat) (i j off n k : Nat) (h : src j = i ∧ j < M) : Rn L M src (.own i off n k) (.own j off n k) := h.1 ▸ .own j off n k h.2
@[simp] theorem Vt_same (id : Nat) (a : AV) : Vt id a a = True := eq_true (.same a)
@[simp] theorem Vt_any (id : Nat) (a : AV) : Vt id a .any = True := eq_true (.any a)
@[simp] theorem Vt_nil (id k : Nat) : Vt id (.c (.slice none 0 0)) (.own id 0 0 k) = True := eq_true (.nil k)
@[simp] theorem Vt_nil0 (id k : Nat) : Vt id .nil0 (.own id 0 0 k) = True := eq_true (.nil0 k)
@[simp] theorem Bd_c (n : Nat) (v : Value) : Bd n (.c v) = True := eq_true (.c v)
@[simp] theorem Bd_any (n : Nat) : Bd n .any = True := eq_true .any
@[simp] theorem Bd_nil0 (n : Nat) : Bd n .nil0 = True := eq_true .nil0
@[simp] theorem Bd_agg (n : Nat) (cs : List AV) : Bd n (.agg cs) = ∀ a ∈ cs, Bd n a := propext ⟨fun h => by cases h with | agg h => exact h, .agg⟩
@[simp] theorem Bd_tup (n : Nat) (cs : List AV) : Bd n (.tup cs) = ∀ a ∈ cs, Bd n a := propext ⟨fun h => by cases h with | tup h => exact h, .tup⟩
@[simp] theorem Bd_map {α : Type} (n k : Nat) (l : List α) (f : α → AV) : Bd n (.ls k (l.map f)) = ∀ x ∈ l, Bd n (f x) := propext ⟨fun h x hx => by cases h with | ls h => exact h _ (List.mem_map.2 ⟨x, hx, rfl⟩), fun h => .ls fun a ha => by
  obtain ⟨x, hx, rfl⟩ := List.mem_map.1 ha
  exact h x hx⟩
@[simp] theorem Bd_lnil (n k : Nat) : Bd n (.ls k []) = True := eq_true (.ls fun a h => by cases h)
end
end Go.Proofs.YthknobbilcolnaaGreat
