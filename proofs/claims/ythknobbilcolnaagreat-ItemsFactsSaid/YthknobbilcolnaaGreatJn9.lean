/- Regions that draw their order where nothing that reads objects stands beside what turns them: the text's order, without checks. No condition. Weakest preconditions of whole bodies as one function of the code; calls that know no objects; objects and slots let go. No condition. -/
import Derived.Test.YthknobbilcolnaaGreatJn8
namespace Go.Proofs.YthknobbilcolnaaGreat
section
open Go.RowKit

/-- Does it look at the objects without turning them? -/
def rdOp : Op → Bool
  | .range _ _ | .next _ _ | .load _ _ | .lookup _ _ _ _ | .fieldAddr _ _ _ | .indexAddr _ _ _ | .slice _ _ _ _ _ => true
  | .convert _ _ _ => true
  | .call { callee := .builtin _, .. } => true
  | _ => false
/-- Every operation that turns objects waits for, or is waited for by, every other one that turns or reads them. -/
def ordAll (l : List Oper) : Bool :=
  (List.range l.length).all fun i => match l[i]? with
    | none => true
    | some o => !effOp o.op || (List.range l.length).all fun j => i == j || (match l[j]? with
      | none => true
      | some q => !(effOp q.op || rdOp q.op) || (if j < i then depF l l.length i j else depF l l.length j i))
def isCall : Op → Bool
  | .call { callee := .value _, .. } => true
  | _ => false
/-- Every call waits for, or is waited for by, every other operation that turns or reads objects, and every other call. -/
def ordC (l : List Oper) : Bool :=
  (List.range l.length).all fun i => match l[i]? with
    | none => true
    | some o => !isCall o.op || (List.range l.length).all fun j => i == j || (match l[j]? with
      | none => true
      | some q => !(effOp q.op || rdOp q.op || isCall q.op) || (if j < i then depF l l.length i j else depF l l.length j i))
/-- The text's order; a call knows no objects, or all its like are ordered. -/
def wopsD (P : Program) (all : List Oper) : List Oper → (Env → List AObj → Prop) → Env → List AObj → Prop
  | [], K, env, H => K env H
  | o :: rest, K, env, H =>
    let step : Prop := stepK (opA P H (evA env) o) (fun a H' => wopsD P all rest K (putE env o.dst a) H') (fun f args => (∃ r, (∀ H0, PCall P f args H0 fun r' H' => r' = r ∧ H' = H0) ∧ wopsD P all rest K (putE env o.dst r) H) ∨ (ordC all = true ∧ ∃ r H', (PCall P f args H fun x H1 => x = r ∧ H1 = H') ∧ wopsD P all rest K (putE env o.dst r) H'))
    match o.guard with
    | none => step
    | some (g, b) => match (all[g]?).bind (·.dst) with
      | some d => match env.getD d .any with
        | .c (.bool x) => (x = b → step) ∧ (x ≠ b → wopsD P all rest K (putE env o.dst (.tup [])) H)
        | .tup [] => wopsD P all rest K (putE env o.dst (.tup [])) H
        | _ => False
      | none => False

section
variable {P : Program} {H : List AObj}
theorem opA_free {ρ : Operand → AV} {o : Oper} {a : AV} {H' : List AObj} (h : opA P H ρ o = some (.val a H')) (he : effOp o.op = false) (hr : rdOp o.op = false) (H0 : List AObj) : opA P H0 ρ o = some (.val a H0) := by
  have val : ∀ {x : Option AV}, x.map (StepA.val · H) = some (.val a H') → x.map (StepA.val · H0) = some (.val a H0) := by
    intro x hx
    obtain ⟨b, h1, h2⟩ := Option.map_eq_some_iff.1 hx
    cases h2
    rw [h1]; rfl
  unfold opA at h ⊢
  cases ho : o.op <;> simp only [ho] at h ⊢ <;> simp only [ho, effOp, rdOp] at he hr <;> first
    | exact val h
    | (cases he; done)
    | (cases hr; done)
    | (cases h; done)
    | skip
  case pick => split at h <;> first | exact val h | cases h
  case nilCheck => split at h <;> first | exact val h | cases h
  case unOp => split at h <;> first | exact val h | cases h
  case makeFunc fn first caps =>
    cases fn <;> simp only [] at h ⊢ <;> first
      | (cases h; done)
      | (split at h
         · rename_i hc; rw [if_pos hc]; exact val h
         · cases h)
  case index =>
    split at h
    · split at h
      · rename_i hc
        split at h
        · rename_i hc2; rw [if_pos hc, if_pos hc2]; exact val h
        · cases h
      · cases h
    · exact val h
  case extract => split at h <;> first | exact val h | cases h
  case call c =>
    obtain ⟨cal, args, ts⟩ := c
    cases cal with
    | builtin b => cases hr
    | invoke r m => cases h
    | value f =>
      simp only at h
      unfold calleeA at h
      split at h
      · split at h <;> cases h
      · cases h
theorem opA_quiet {ρ : Operand → AV} {o : Oper} {a : AV} {H' : List AObj} (h : opA P H ρ o = some (.val a H')) (he : effOp o.op = false) : H' = H := by
  have val : ∀ {x : Option AV}, x.map (StepA.val · H) = some (.val a H') → H' = H := by
    intro x hx
    obtain ⟨b, h1, h2⟩ := Option.map_eq_some_iff.1 hx
    cases h2
    rfl
  unfold opA at h
  cases ho : o.op <;> simp only [ho] at h <;> simp only [ho, effOp] at he <;> first
    | exact val h
    | (cases he; done)
    | (cases h; done)
    | skip
  case pick => split at h <;> first | exact val h | cases h
  case nilCheck => split at h <;> first | exact val h | cases h
  case unOp => split at h <;> first | exact val h | cases h
  case makeFunc fn first caps => cases fn <;> simp only [] at h <;> first | (cases h; done) | (split at h <;> first | exact val h | cases h)
  case slice => split at h <;> first | exact val h | cases h
  case fieldAddr => split at h <;> first | exact val h | cases h
  case indexAddr => split at h <;> first | exact val h | cases h
  case index =>
    split at h
    · split at h
      · split at h
        · exact val h
        · cases h
      · cases h
    · exact val h
  case extract => split at h <;> first | exact val h | cases h
  case call c =>
    obtain ⟨cal, args, ts⟩ := c
    cases cal with
    | invoke r m => cases h
    | value f =>
      simp only at h
      unfold calleeA at h
      split at h
      · split at h <;> cases h
      · cases h
    | builtin b =>
      simp only at h he
      obtain ⟨⟨x, y⟩, h1, h2⟩ := Option.map_eq_some_iff.1 h
      cases h2
      cases b <;> simp only [] at he <;> try cases he
      all_goals
        unfold builtinA at h1
        split at h1 <;> first
          | (cases h1; done)
          | (obtain ⟨z, h3, h4⟩ := Option.map_eq_some_iff.1 h1; cases h4; rfl)
          | (split at h1
             · obtain ⟨z, h3, h4⟩ := Option.map_eq_some_iff.1 h1; cases h4; rfl
             · split at h1
               · obtain ⟨z, h3, h4⟩ := Option.map_eq_some_iff.1 h1; cases h4; rfl
               · first
                   | (cases h1; done)
                   | (obtain ⟨z, h3, h4⟩ := Option.map_eq_some_iff.1 h1; cases h4; rfl))
          | (rename_i hb _ _ ; cases hb)

theorem opA_isCall {ρ : Operand → AV} {o : Oper} {f : FuncId} {args : List AV} (h : opA P H ρ o = some (.call f args)) : isCall o.op = true := by
  unfold opA at h
  have no : ∀ {x : Option AV}, ¬ x.map (StepA.val · H) = some (.call f args) := fun {x} hx => by
    obtain ⟨a, _, h2⟩ := Option.map_eq_some_iff.1 hx
    cases h2
  have no2 : ∀ {x : Option (AV × List AObj)}, ¬ x.map (fun p => StepA.val p.1 p.2) = some (.call f args) := fun {x} hx => by
    obtain ⟨a, _, h2⟩ := Option.map_eq_some_iff.1 hx
    cases h2
  cases ho : o.op <;> simp only [ho] at h
  case call c =>
    obtain ⟨cal, az, ts⟩ := c
    cases cal with
    | builtin b => exact (no2 h).elim
    | invoke r m => cases h
    | value g => rfl
  all_goals exfalso
  all_goals first
    | exact no h
    | exact no2 h
    | (cases h; done)
    | skip
  case pick => split at h <;> first | exact no h | cases h
  case store =>
    obtain ⟨a, _, h2⟩ := Option.map_eq_some_iff.1 h
    cases h2
  case insert =>
    obtain ⟨a, _, h2⟩ := Option.map_eq_some_iff.1 h
    cases h2
  case mapUpdate =>
    obtain ⟨a, _, h2⟩ := Option.map_eq_some_iff.1 h
    cases h2
  case nilCheck => split at h <;> first | exact no h | cases h
  case unOp => split at h <;> first | exact no h | cases h
  case makeFunc fn first caps => cases fn <;> simp only [] at h <;> first | (cases h; done) | (split at h <;> first | exact no h | cases h)
  case slice => split at h <;> first | exact no h | cases h
  case fieldAddr => split at h <;> first | exact no h | cases h
  case indexAddr => split at h <;> first | exact no h | cases h
  case index =>
    split at h
    · split at h
      · split at h
        · exact no h
        · cases h
      · cases h
    · exact no h
  case extract => split at h <;> first | exact no h | cases h
/-- An operation that turns objects, or a call among ordered ones. -/
def Trn (l : List Oper) (o : Oper) : Prop := effOp o.op = true ∨ isCall o.op = true ∧ ordC l = true
theorem ordE_at {l : List Oper} (h : ordAll l = true) {i j : Nat} {o q : Oper} (hi : l[i]? = some o) (hj : l[j]? = some q) (he : effOp o.op = true) (hq : effOp q.op = true ∨ rdOp q.op = true) (hne : i ≠ j) : if j < i then depF l l.length i j = true else depF l l.length j i = true := by
  have h1 := List.all_eq_true.1 h i (List.mem_range.2 (List.getElem?_eq_some_iff.1 hi).1)
  rw [hi] at h1
  simp only [he, Bool.not_true, Bool.false_or] at h1
  have h2 := List.all_eq_true.1 h1 j (List.mem_range.2 (List.getElem?_eq_some_iff.1 hj).1)
  rw [hj] at h2
  have hn : (i == j) = false := by simpa using hne
  have hor : (effOp q.op || rdOp q.op) = true := by simpa using hq
  simp only [hn, hor, Bool.not_true, Bool.false_or] at h2
  split
  · rename_i hlt; rw [if_pos hlt] at h2; exact h2
  · rename_i hlt; rw [if_neg hlt] at h2; exact h2
theorem ordC_at {l : List Oper} (h : ordC l = true) {i j : Nat} {o q : Oper} (hi : l[i]? = some o) (hj : l[j]? = some q) (he : isCall o.op = true) (hq : (effOp q.op || rdOp q.op || isCall q.op) = true) (hne : i ≠ j) : if j < i then depF l l.length i j = true else depF l l.length j i = true := by
  have h1 := List.all_eq_true.1 h i (List.mem_range.2 (List.getElem?_eq_some_iff.1 hi).1)
  rw [hi] at h1
  simp only [he, Bool.not_true, Bool.false_or] at h1
  have h2 := List.all_eq_true.1 h1 j (List.mem_range.2 (List.getElem?_eq_some_iff.1 hj).1)
  rw [hj] at h2
  have hn : (i == j) = false := by simpa using hne
  simp only [hn, hq, Bool.not_true, Bool.false_or] at h2
  split
  · rename_i hlt; rw [if_pos hlt] at h2; exact h2
  · rename_i hlt; rw [if_neg hlt] at h2; exact h2
theorem ord_at {l : List Oper} (h : ordAll l = true) {i j : Nat} {o q : Oper} (hi : l[i]? = some o) (hj : l[j]? = some q) (he : Trn l o) (hq : Trn l q ∨ rdOp q.op = true) (hne : i ≠ j) : if j < i then depF l l.length i j = true else depF l l.length j i = true := by
  have flip : (if i < j then depF l l.length j i = true else depF l l.length i j = true) → if j < i then depF l l.length i j = true else depF l l.length j i = true := by
    intro hf
    split
    · rw [if_neg (by omega)] at hf; exact hf
    · rw [if_pos (by omega)] at hf; exact hf
  rcases he with he | ⟨he, hc⟩
  · rcases hq with (hq | ⟨hq, hc⟩) | hq
    · exact ordE_at h hi hj he (.inl hq) hne
    · exact flip (ordC_at hc hj hi hq (by simp [he]) (Ne.symm hne))
    · exact ordE_at h hi hj he (.inr hq) hne
  · refine ordC_at hc hi hj he ?_ hne
    rcases hq with (hq | ⟨hq, -⟩) | hq <;> simp [hq]

theorem dops_of_ord {l : List Oper} (hord : ordAll l = true) {K : Env → List AObj → Prop} : ∀ (rest : List Oper) (i : Nat) (effs : List (Nat × List AObj)) (pend : Pend) (env : Env) (H : List AObj), (∀ (j : Nat) o, rest[j]? = some o → l[i + j]? = some o) → (∀ p ∈ effs, p.1 < i ∧ ∃ o, l[p.1]? = some o ∧ Trn l o) → (∀ p ∈ pend, p.1 < i ∧ l[p.1]? = some p.2.1 ∧ effOp p.2.1.op = false ∧ ∃ H0, opA P H0 (evA p.2.2.1) p.2.1 = some (.val p.2.2.2 H0)) → wopsD P l rest K env H → dops P l l.length i rest K effs pend env H
  | [], _, _, _, _, _, _, _, _, h => h
  | o :: rest, i, effs, pend, env, H, hl, he, hp, h => by
    have hoi : l[i]? = some o := by simpa using hl 0 o rfl
    have hl' : ∀ (j : Nat) o', rest[j]? = some o' → l[i + 1 + j]? = some o' := fun j o' hj => by rw [show i + 1 + j = i + (j + 1) by omega]; exact hl (j + 1) o' (by simpa using hj)
    have he' : ∀ p ∈ effs, p.1 < i + 1 ∧ ∃ o, l[p.1]? = some o ∧ Trn l o := fun p hm => ⟨by have := (he p hm).1; omega, (he p hm).2⟩
    have hp' : ∀ p ∈ pend, p.1 < i + 1 ∧ l[p.1]? = some p.2.1 ∧ effOp p.2.1.op = false ∧ ∃ H0, opA P H0 (evA p.2.2.1) p.2.1 = some (.val p.2.2.2 H0) := fun p hm => ⟨by have := (hp p hm).1; omega, (hp p hm).2⟩
    have all_ : ∀ {α : Type} {Q : α → Prop} {m : List α}, (∀ x ∈ m, Q x) → listAll Q m := by
      intro α Q m hm
      induction m with
      | nil => trivial
      | cons x m ih => exact ⟨hm x List.mem_cons_self, ih (fun y hy => hm y (List.mem_cons_of_mem _ hy))⟩
    have step : stepK (opA P H (evA env) o) (fun a H' => wopsD P l rest K (putE env o.dst a) H') (fun f args => (∃ r, (∀ H0, PCall P f args H0 fun r' H' => r' = r ∧ H' = H0) ∧ wopsD P l rest K (putE env o.dst r) H) ∨ (ordC l = true ∧ ∃ r H', (PCall P f args H fun x H1 => x = r ∧ H1 = H') ∧ wopsD P l rest K (putE env o.dst r) H')) → stepK (opA P H (evA env) o)
      (fun a H' => if effOp o.op = true then
          listAll (fun p => depF l l.length i p.1 = true) effs ∧ listAll (fun p => stays P (depF l l.length i p.1) H' p.2.1 p.2.2.1 p.2.2.2) pend ∧ dops P l l.length (i + 1) rest K ((i, H) :: effs) pend (putE env o.dst a) H'
        else H' = H ∧ listAll (fun p => stays P (depF l l.length i p.1) p.2 o env a) effs ∧ dops P l l.length (i + 1) rest K effs ((i, o, env, a) :: pend) (putE env o.dst a) H)
      (fun f args => (∃ r, (∀ H0, PCall P f args H0 fun r' H' => r' = r ∧ H' = H0) ∧ dops P l l.length (i + 1) rest K effs pend (putE env o.dst r) H) ∨ ∃ r H', (PCall P f args H fun x H1 => x = r ∧ H1 = H') ∧ listAll (fun p => depF l l.length i p.1 = true) effs ∧ listAll (fun p => stays P (depF l l.length i p.1) H' p.2.1 p.2.2.1 p.2.2.2) pend ∧ dops P l l.length (i + 1) rest K ((i, H) :: effs) pend (putE env o.dst r) H') := by
      intro hs
      have turn : Trn l o → ∀ H', listAll (fun p => depF l l.length i p.1 = true) effs ∧ listAll (fun p => stays P (depF l l.length i p.1) H' p.2.1 p.2.2.1 p.2.2.2) pend := by
        intro heo H'
        refine ⟨all_ (fun p hm => ?_), all_ (fun p hm => ?_)⟩
        · obtain ⟨h1, q, h2, h3⟩ := he p hm
          have := ord_at hord hoi h2 heo (.inl h3) (by omega)
          rwa [if_pos h1] at this
        · obtain ⟨h1, h2, h3, H0, h4⟩ := hp p hm
          cases hr : rdOp p.2.1.op with
          | true =>
            have := ord_at hord hoi h2 heo (.inr hr) (by omega)
            rw [if_pos h1] at this
            exact .inl this
          | false => exact .inr (opA_free h4 h3 hr H')
      have heffs : Trn l o → ∀ p ∈ ((i, H) :: effs : List (Nat × List AObj)), p.1 < i + 1 ∧ ∃ o, l[p.1]? = some o ∧ Trn l o := by
        intro heo p hm
        cases hm with
        | head => exact ⟨Nat.lt_succ_self i, o, hoi, heo⟩
        | tail _ hm => exact he' p hm
      unfold stepK at hs ⊢
      split at hs
      · rename_i a H' hop
        dsimp only
        by_cases heo : effOp o.op = true
        · rw [if_pos heo]
          exact ⟨(turn (.inl heo) H').1, (turn (.inl heo) H').2, dops_of_ord hord rest (i + 1) _ _ _ _ hl' (heffs (.inl heo)) hp' hs⟩
        · rw [if_neg heo]
          have heo' : effOp o.op = false := by simpa using heo
          have hH : H' = H := opA_quiet hop heo'
          subst hH
          refine ⟨rfl, all_ (fun p hm => ?_), dops_of_ord hord rest (i + 1) _ _ _ _ hl' he' (fun p hm => ?_) hs⟩
          · obtain ⟨h1, q, h2, h3⟩ := he p hm
            cases hr : rdOp o.op with
            | true =>
              have := ord_at hord h2 hoi h3 (.inr hr) (by omega)
              rw [if_neg (by omega)] at this
              exact .inl this
            | false => exact .inr (opA_free hop heo' hr p.2)
          · cases hm with
            | head => exact ⟨Nat.lt_succ_self i, hoi, heo', H', hop⟩
            | tail _ hm => exact hp' p hm
      · rename_i f args hop
        rcases hs with ⟨r, h1, h2⟩ | ⟨hc, r, H', h1, h2⟩
        · exact .inl ⟨r, h1, dops_of_ord hord rest (i + 1) _ _ _ _ hl' he' hp' h2⟩
        · have ht : Trn l o := .inr ⟨opA_isCall hop, hc⟩
          exact .inr ⟨r, H', h1, (turn ht H').1, (turn ht H').2, dops_of_ord hord rest (i + 1) _ _ _ _ hl' (heffs ht) hp' h2⟩
      · exact hs.elim
    simp only [wopsD] at h
    simp only [dops]
    cases hg : o.guard with
    | none => rw [hg] at h; exact step h
    | some gb =>
      obtain ⟨g, b⟩ := gb
      rw [hg] at h
      simp only at h ⊢
      cases hd : (l[g]?).bind (·.dst) with
      | none => rw [hd] at h; exact h.elim
      | some d =>
        rw [hd] at h
        simp only at h ⊢
        generalize env.getD d .any = x at h
        cases x <;> try exact h.elim
        · rename_i v
          cases v <;> first
            | exact h.elim
            | exact ⟨fun e => step (h.1 e), fun e => dops_of_ord hord rest (i + 1) _ _ _ _ hl' he' hp' (h.2 e)⟩
        · rename_i vs
          cases vs with
          | nil => exact dops_of_ord hord rest (i + 1) _ _ _ _ hl' he' hp' h
          | cons _ _ => exact h.elim
end
end

section
open Go.RowKit

section
variable {P : Program} {B : Bs} {F : Nat → Prop} {β β' : Loc} {H H' : List AObj} {w w' : World} {env : Env}

/-! ### values without handles -/
/-- All handles lie below n. -/
inductive Bd (n : Nat) : AV → Prop
  | any : Bd n .any
  | c (v : Value) : Bd n (.c v)
  | nil0 : Bd n .nil0
  | own {id off m k : Nat} (h : id < n) : Bd n (.own id off m k)
  | ptr {id off : Nat} (h : id < n) : Bd n (.ptr id off)
  | mh {id : Nat} (h : id < n) : Bd n (.mh id)
  | agg {cs : List AV} (h : ∀ a ∈ cs, Bd n a) : Bd n (.agg cs)
  | tup {cs : List AV} (h : ∀ a ∈ cs, Bd n a) : Bd n (.tup cs)
  | fn {f : FuncId} {cs : List AV} (h : ∀ a ∈ cs, Bd n a) : Bd n (.fn f cs)
  | ifc {t : TypeId} {a : AV} (h : Bd n a) : Bd n (.ifc t a)
  | itr {a : AV} (h : Bd n a) : Bd n (.itr a)
  | ls {k : Nat} {es : List AV} (h : ∀ a ∈ es, Bd n a) : Bd n (.ls k es)
  | pe {e : AV} {off : Nat} (h : Bd n e) : Bd n (.pe e off)
theorem Bd.cells {n : Nat} {e : AV} (h : Bd n e) : ∀ a ∈ e.cells, Bd n a := by
  cases h with
  | agg h => exact h
  | _ => intro a ha; simp only [AV.cells, List.mem_singleton] at ha; subst ha; constructor <;> assumption
theorem Bd.flat {n : Nat} {es : List AV} (h : ∀ e ∈ es, Bd n e) : ∀ a ∈ flat es, Bd n a := by
  intro a ha
  obtain ⟨e, he, ha⟩ := List.mem_flatMap.1 ha
  exact (h e he).cells a ha
/-- A value without handles says the same whatever the objects. -/
theorem VR.bd {n : Nat} {I I' : Nat → Prop} {w w' : World} {L L' : AV → Value → Prop} (hI : ∀ b, I b → I' b) (hw : ∀ b, I b → Kept w w' b) (hL : ∀ x v, Bd n x → L x v → L' x v) {a : AV} {v : Value} (h : VR I w L a v) (hb : Bd n a) : VR I' w' L' a v := by
  induction h with
  | any v => exact .any v
  | c h => exact .c h
  | leaf h => exact .leaf (hL _ _ hb h)
  | nil0 a => exact .nil0 a
  | agg hl ho _ ih => cases hb with | agg hb => exact .agg hl ho (fun i a v h1 h2 => ih i a v h1 h2 (hb a (List.mem_of_getElem? h1)))
  | tup hl _ ih => cases hb with | tup hb => exact .tup hl (fun i a v h1 h2 => ih i a v h1 h2 (hb a (List.mem_of_getElem? h1)))
  | fn hl _ ih => cases hb with | fn hb => exact .fn hl (fun i a v h1 h2 => ih i a v h1 h2 (hb a (List.mem_of_getElem? h1)))
  | ifc _ ih => cases hb with | ifc hb => exact .ifc (ih hb)
  | itr hb' hh _ ih => cases hb with | itr hb => exact .itr (hI _ hb') ((hw _ hb').2 _ _ _ _ hh) (ih hb)
  | ls hb' hk hn hm hl ho hc _ ih => cases hb with | ls hb => exact .ls (hI _ hb') hk hn hm hl ho ((hw _ hb').1 _ _ hc) (fun i a v h1 h2 => ih i a v h1 h2 (Bd.flat hb a (List.mem_of_getElem? h1)))
  | ls0 a hm => exact .ls0 a hm
  | pe hb' hl ho hc _ ih => cases hb with | pe hb => exact .pe (hI _ hb') hl ho ((hw _ hb').1 _ _ hc) (fun i a v h1 h2 => ih i a v h1 h2 (hb.cells a (List.mem_of_getElem? h1)))
theorem Bd.no_leaf {x : AV} {v : Value} (h : Bd 0 x) (hl : LV β H x v) : False := by
  cases x <;> first | exact hl.elim | (cases h; omega)


/-! ### another view of the same state -/
/-- What holds of slots and objects may be said of others (L: the caller's objects are never let go). -/
def View (L : Nat) (env : List AV) (H : List AObj) (env' : List AV) (H' : List AObj) : Prop :=
  env'.length = env.length ∧ (L ≤ H.length → L ≤ H'.length) ∧ ∀ (F : Nat → Prop) (β0 : Loc) (H0 : List AObj) (w0 : World) (β : Loc) (w : World), H0.length ≤ L → L ≤ H.length → Rep F β H w → Ext β0 H0 w0 β H w → ∃ β', Rep F β' H' w ∧ Ext β0 H0 w0 β' H' w ∧ ∀ (i : Nat) (a a' : AV) (v : Value), env[i]? = some a → env'[i]? = some a' → V F β H w a v → V F β' H' w a' v
theorem View.refl (L : Nat) (env : List AV) (H : List AObj) : View L env H env H := ⟨rfl, id, fun F β0 H0 w0 β w _ _ hr he => ⟨β, hr, he, fun i a a' v h1 h2 hv => by rw [h1] at h2; cases h2; exact hv⟩⟩
theorem View.trans {L : Nat} {e1 e2 e3 : List AV} {H1 H2 H3 : List AObj} (h : View L e1 H1 e2 H2) (k : View L e2 H2 e3 H3) : View L e1 H1 e3 H3 := by
  refine ⟨k.1.trans h.1, fun hl => k.2.1 (h.2.1 hl), fun F β0 H0 w0 β w hl0 hl hr he => ?_⟩
  obtain ⟨β1, r1, x1, v1⟩ := h.2.2 F β0 H0 w0 β w hl0 hl hr he
  obtain ⟨β2, r2, x2, v2⟩ := k.2.2 F β0 H0 w0 β1 w hl0 (h.2.1 hl) r1 x1
  refine ⟨β2, r2, x2, fun i a a' v h1 h2 hv => ?_⟩
  have hlt : i < e2.length := by
    have := (List.getElem?_eq_some_iff.1 h1).1
    rw [h.1]; exact this
  exact v2 i _ a' v (List.getElem?_eq_getElem hlt) h2 (v1 i a _ v h1 (List.getElem?_eq_getElem hlt) hv)

/-- An empty slice without room becomes a slice over a new, empty object. -/
inductive Vt (id : Nat) : AV → AV → Prop
  | same (a : AV) : Vt id a a
  | any (a : AV) : Vt id a .any
  | nil (k : Nat) : Vt id (.c (.slice none 0 0)) (.own id 0 0 k)
  | nil0 (k : Nat) : Vt id .nil0 (.own id 0 0 k)
theorem View.virt {L : Nat} {env env' : List AV} {H : List AObj} (t : TypeId) (hl : env'.length = env.length) (he : ∀ (i : Nat) (a b : AV), env[i]? = some a → env'[i]? = some b → Vt H.length a b) (ht : t < 1000000 := by decide) : View L env H env' (H ++ [.row t false []]) := by
  refine ⟨hl, fun h => by simp; omega, fun F β0 H0 w0 β w hl0 hL hr hx => ?_⟩
  have hx0 : ∀ b s, (none : Option (Nat × Nat)) = some (b, s) → w.heap.size ≤ b := fun b s h => by cases h
  have e := ext_push hr (Upd.refl _ w) (.row t false []) none hx0
  refine ⟨_, rep_push hr (Upd.refl _ w) none hx0 (fun b s h => by cases h) (.inl ⟨rfl, setL_same _ _ _⟩), hx.trans e, fun i a a' v h1 h2 hv => ?_⟩
  have nl : ∀ k (a : Option Addr), V F (setL β H.length none) (H ++ [.row t false []]) w (.own H.length 0 0 k) (.slice a 0 0) := fun k a => .leaf ⟨by simp, ⟨sl0.zero _ _, noMap_last (ty_c ht)⟩, fun t' fz' cs' hr' => ⟨by simp, by simp, .inl ⟨rfl, a, rfl⟩⟩⟩
  cases he i a a' h1 h2 with
  | same => exact hv.ext e
  | any => exact .any v
  | nil k =>
    cases hv with
    | leaf hv => exact hv.elim
    | c hp => exact nl k none
  | nil0 k =>
    cases hv with
    | leaf hv => exact hv.elim
    | nil0 a => exact nl k a

/-- A value under other numbers of objects: src i is the old number of object i; below L they stay. -/
inductive Rn (L M : Nat) (src : Nat → Nat) : AV → AV → Prop
  | any (a : AV) : Rn L M src a .any
  | c (v : Value) : Rn L M src (.c v) (.c v)
  | bd {a : AV} (h : Bd L a) : Rn L M src a a
  | own (i off n k : Nat) (hi : i < M) : Rn L M src (.own (src i) off n k) (.own i off n k)
  | ptr (i off : Nat) (hi : i < M) : Rn L M src (.ptr (src i) off) (.ptr i off)
  | mh (i : Nat) (hi : i < M) : Rn L M src (.mh (src i)) (.mh i)
  | agg {az bs : List AV} (hl : bs.length = az.length) (h : ∀ (i : Nat) (a b : AV), az[i]? = some a → bs[i]? = some b → Rn L M src a b) : Rn L M src (.agg az) (.agg bs)
  | tup {az bs : List AV} (hl : bs.length = az.length) (h : ∀ (i : Nat) (a b : AV), az[i]? = some a → bs[i]? = some b → Rn L M src a b) : Rn L M src (.tup az) (.tup bs)
  | fn {f : FuncId} {az bs : List AV} (hl : bs.length = az.length) (h : ∀ (i : Nat) (a b : AV), az[i]? = some a → bs[i]? = some b → Rn L M src a b) : Rn L M src (.fn f az) (.fn f bs)
  | ifc {t : TypeId} {a b : AV} (h : Rn L M src a b) : Rn L M src (.ifc t a) (.ifc t b)
  | itr {a b : AV} (h : Rn L M src a b) : Rn L M src (.itr a) (.itr b)
structure RnH (L : Nat) (src : Nat → Nat) (H H' : List AObj) : Prop where
  low : ∀ i, i < L → src i = i
  inj : ∀ i j, i < H'.length → j < H'.length → src i = src j → i = j
  le : L ≤ H'.length
  row : ∀ (i : Nat) (t : TypeId) (fz : Bool) (cs' : List AV), H'[i]? = some (.row t fz cs') → ∃ cs, H[src i]? = some (.row t fz cs) ∧ cs'.length = cs.length ∧ ∀ (j : Nat) (a b : AV), cs[j]? = some a → cs'[j]? = some b → Rn L H'.length src a b
theorem View.gc {L : Nat} {env env' : List AV} {H H' : List AObj} (src : Nat → Nat) (hH : RnH L src H H') (hl : env'.length = env.length) (he : ∀ (i : Nat) (a b : AV), env[i]? = some a → env'[i]? = some b → Rn L H'.length src a b) : View L env H env' H' := by
  refine ⟨hl, fun _ => hH.le, fun F β0 H0 w0 β w hl0 hL hr hx => ?_⟩
  let β' : Loc := fun i => β (src i)
  have al : ∀ {i}, alive H' i → alive H (src i) := fun ⟨t, fz, cs', h⟩ => by
    obtain ⟨cs, h0, -⟩ := hH.row _ t fz cs' h
    exact ⟨_, _, _, h0⟩
  have mu : ∀ {i}, mutb H' i → mutb H (src i) := fun ⟨t, cs', h⟩ => by
    obtain ⟨cs, h0, -⟩ := hH.row _ t false cs' h
    exact ⟨_, _, h0⟩
  have hI : ∀ b, Im F β H w b → Im F β' H' w b := fun b hb => ⟨hb.1, hb.2.1, fun ⟨id, s, hm, e⟩ => hb.2.2 ⟨src id, s, mu hm, e⟩⟩
  have hN : ∀ i, noMap H (src i) → noMap H' i := fun i h t fz cs' h' => by
    obtain ⟨cs, h0, -⟩ := hH.row _ t fz cs' h'
    exact h _ _ _ h0
  have hV : ∀ {a b : AV}, Rn L H'.length src a b → ∀ v, V F β H w a v → V F β' H' w b v := by
    intro a b hf
    induction hf with
    | any a => exact fun v _ => .any v
    | c u =>
      intro v hv
      cases hv with
      | leaf hv => exact hv.elim
      | c hp => exact .c hp
    | bd hb =>
      intro v hv
      refine hv.bd (n := L) hI (fun _ _ => Kept.refl _ _) (fun x u hb hu => ?_) hb
      have hle := hH.le
      cases x <;> try exact hu.elim
      case own id off n k =>
        cases hb with
        | own hb =>
          refine ⟨by omega, ⟨hu.2.1.1, hN id (by rw [hH.low id hb]; exact hu.2.1.2)⟩, fun t fz cs' h' => ?_⟩
          obtain ⟨cs, h0, h1, -⟩ := hH.row _ t fz cs' h'
          rw [hH.low id hb] at h0
          have := hu.2.2 t fz cs h0
          rw [h1]
          show _ ∧ _ ∧ (_ ∨ ∃ b s cap, β (src id) = _ ∧ _)
          rw [hH.low id hb]
          exact this
      case ptr id off =>
        cases hb with
        | ptr hb =>
          refine ⟨by omega, ⟨hu.2.1.1, hN id (by rw [hH.low id hb]; exact hu.2.1.2)⟩, fun t fz cs' h' => ?_⟩
          obtain ⟨cs, h0, h1, -⟩ := hH.row _ t fz cs' h'
          rw [hH.low id hb] at h0
          have := hu.2.2 t fz cs h0
          show ∃ b s, β (src id) = _ ∧ _
          rw [hH.low id hb]
          exact this
      case mh id =>
        cases hb with
        | mh hb =>
          refine ⟨by omega, hu.2.1, fun t fz cs' h' => ?_⟩
          obtain ⟨cs, h0, h1, -⟩ := hH.row _ t fz cs' h'
          rw [hH.low id hb] at h0
          have := hu.2.2 t fz cs h0
          show _ ∧ ∃ b s, β (src id) = _ ∧ _
          rw [hH.low id hb]
          exact this
    | own i off n k hi =>
      intro v hv
      cases hv with
      | leaf hv =>
        refine .leaf ⟨hi, ⟨hv.2.1.1, hN i hv.2.1.2⟩, fun t fz cs' h' => ?_⟩
        obtain ⟨cs, h0, h1, -⟩ := hH.row _ t fz cs' h'
        rw [h1]
        exact hv.2.2 t fz cs h0
    | ptr i off hi =>
      intro v hv
      cases hv with
      | leaf hv =>
        refine .leaf ⟨hi, ⟨hv.2.1.1, hN i hv.2.1.2⟩, fun t fz cs' h' => ?_⟩
        obtain ⟨cs, h0, h1, -⟩ := hH.row _ t fz cs' h'
        exact hv.2.2 t fz cs h0
    | mh i hi =>
      intro v hv
      cases hv with
      | leaf hv =>
        refine .leaf ⟨hi, hv.2.1, fun t fz cs' h' => ?_⟩
        obtain ⟨cs, h0, h1, -⟩ := hH.row _ t fz cs' h'
        exact hv.2.2 t fz cs h0
    | @agg az bs hl _ ih =>
      intro v hv
      cases hv with
      | leaf hv => exact hv.elim
      | agg hl' ho hv =>
        refine .agg (by rw [hl]; exact hl') ho (fun i b u hb hu => ?_)
        have hlt : i < az.length := by rw [← hl]; exact (List.getElem?_eq_some_iff.1 hb).1
        exact ih i _ b (List.getElem?_eq_getElem hlt) hb u (hv i _ u (List.getElem?_eq_getElem hlt) hu)
    | @tup az bs hl _ ih =>
      intro v hv
      cases hv with
      | leaf hv => exact hv.elim
      | tup hl' hv =>
        refine .tup (by rw [hl]; exact hl') (fun i b u hb hu => ?_)
        have hlt : i < az.length := by rw [← hl]; exact (List.getElem?_eq_some_iff.1 hb).1
        exact ih i _ b (List.getElem?_eq_getElem hlt) hb u (hv i _ u (List.getElem?_eq_getElem hlt) hu)
    | ifc _ ih =>
      intro v hv
      cases hv with
      | leaf hv => exact hv.elim
      | ifc hv => exact .ifc (ih _ hv)
    | itr _ ih =>
      intro v hv
      cases hv with
      | leaf hv => exact hv.elim
      | itr hb hh hv => exact .itr (hI _ hb) hh (ih _ hv)
    | @fn f az bs hl _ ih =>
      intro v hv
      cases hv with
      | leaf hv => exact hv.elim
      | fn hl' hv =>
        refine .fn (by rw [hl]; exact hl') (fun i b u hb hu => ?_)
        have hlt : i < az.length := by rw [← hl]; exact (List.getElem?_eq_some_iff.1 hb).1
        exact ih i _ b (List.getElem?_eq_getElem hlt) hb u (hv i _ u (List.getElem?_eq_getElem hlt) hu)
  refine ⟨β', ⟨hr.far, fun id t fz cs' hi => ?_, fun i j ai aj b s s' h1 h2 => hH.inj i j (alive_lt ai) (alive_lt aj) (hr.inj _ _ (al ai) (al aj) b s s' h1 h2)⟩, ⟨hx.upd, by have := hH.le; omega, fun id hid ha => ?_, fun id t fz cs t' fz' cs' h1 h2 => ?_, fun b ⟨id, s, hm, e⟩ hb => hx.new b ⟨src id, s, mu hm, e⟩ hb⟩, fun i a a' v h1 h2 hv => hV (he i a a' h1 h2) v hv⟩
  · obtain ⟨cs, h0, h3, h4⟩ := hH.row id t fz cs' hi
    rcases hr.row _ t fz cs h0 with ⟨h, h'⟩ | ⟨b, C, vs, r1, r2, r3, r4, r5, r6, r7⟩
    · subst h
      exact .inl ⟨List.eq_nil_of_length_eq_zero (by simpa using h3), h'⟩
    · refine .inr ⟨b, C, vs, r1, r2, r3, by omega, r5, r6, fun i a v ha hv => ?_⟩
      have hlt : i < cs.length := by rw [← h3]; exact (List.getElem?_eq_some_iff.1 ha).1
      exact hV (h4 i _ a (List.getElem?_eq_getElem hlt) ha) v (r7 i _ v (List.getElem?_eq_getElem hlt) hv)
  · have := hx.keep id hid (by have := al ha; rwa [hH.low id (by omega)] at this)
    exact ⟨this.1, by show β (src id) = _; rw [hH.low id (by omega)]; exact this.2⟩
  · obtain ⟨cs0, h0, h3, -⟩ := hH.row id t' fz' cs' h2
    have hid := (List.getElem?_eq_some_iff.1 h1).1
    rw [hH.low id (by omega)] at h0
    rw [h3]
    exact hx.size id _ _ _ _ _ _ h1 h0

/-- Handles of object id (its cells: cs) turned into immutable slices. -/
inductive Fz (id : Nat) (cs : List AV) : AV → AV → Prop
  | same (a : AV) : Fz id cs a a
  | any (a : AV) : Fz id cs a .any
  | own {off n k : Nat} {es : List AV} (hk : ∀ e ∈ es, e.cells.length = k) (hn : es.length = n) (hf : flat es = (cs.drop off).take (n * k)) : Fz id cs (.own id off n k) (.ls k es)
  | agg {az bs : List AV} (hl : bs.length = az.length) (h : ∀ (i : Nat) (a b : AV), az[i]? = some a → bs[i]? = some b → Fz id cs a b) : Fz id cs (.agg az) (.agg bs)
  | tup {az bs : List AV} (hl : bs.length = az.length) (h : ∀ (i : Nat) (a b : AV), az[i]? = some a → bs[i]? = some b → Fz id cs a b) : Fz id cs (.tup az) (.tup bs)
/-- The objects once object id is an immutable one. -/
structure FzH (id : Nat) (cs : List AV) (H H' : List AObj) : Prop where
  len : H'.length = H.length
  at_ : H'[id]? = some .dead
  row : ∀ (j : Nat) (t : TypeId) (fz : Bool) (cs' : List AV), H'[j]? = some (.row t fz cs') → ∃ cs0, H[j]? = some (.row t fz cs0) ∧ cs'.length = cs0.length ∧ ∀ (i : Nat) (a b : AV), cs0[i]? = some a → cs'[i]? = some b → Fz id cs a b
theorem View.freeze {L : Nat} {env env' : List AV} {H H' : List AObj} {id : Nat} {t : TypeId} {fz : Bool} {cs : List AV} (hi : H[id]? = some (.row t fz cs)) (hH : FzH id cs H H') (hl : env'.length = env.length) (he : ∀ (i : Nat) (a b : AV), env[i]? = some a → env'[i]? = some b → Fz id cs a b) : View L env H env' H' := by
  have back : ∀ {j : Nat}, alive H' j → alive H j ∧ j ≠ id := by
    intro j ⟨t', fz', cs', hj⟩
    obtain ⟨cs0, h0, -, -⟩ := hH.row j t' fz' cs' hj
    exact ⟨⟨_, _, _, h0⟩, fun e => by subst e; rw [hH.at_] at hj; cases hj⟩
  have backm : ∀ {j : Nat}, mutb H' j → mutb H j := by
    intro j ⟨t', cs', hj⟩
    obtain ⟨cs0, h0, -, -⟩ := hH.row j t' false cs' hj
    exact ⟨_, _, h0⟩
  refine ⟨hl, fun h => by rw [hH.len]; exact h, fun F β0 H0 w0 β w hl0 hL hr hx => ?_⟩
  have hxH : Ext β H w β H' w := by
    refine ⟨Upd.refl _ _, by rw [hH.len]; exact Nat.le_refl _, fun j _ ha => ⟨(back ha).1, rfl⟩, fun j t1 f1 c1 t2 f2 c2 h1 h2 => ?_, fun b ⟨j, s, hm, e⟩ _ => ⟨j, s, backm hm, e⟩⟩
    obtain ⟨cs0, h0, h3, -⟩ := hH.row j t2 f2 c2 h2
    rw [h1] at h0
    cases h0
    exact ⟨rfl, fun _ => by omega⟩
  have hV : ∀ {a b : AV}, Fz id cs a b → ∀ v, V F β H w a v → V F β H' w b v := by
    intro a b hf
    induction hf with
    | same a => exact fun v hv => hv.ext hxH
    | any a => exact fun v _ => .any v
    | own hk hn hflat =>
      rename_i off n k es
      intro v hv
      cases hv with
      | leaf hv =>
        obtain ⟨k1, k2, k3⟩ := hv.2.2 _ _ _ hi
        rcases k3 with ⟨rfl, a, rfl⟩ | ⟨b, s, cap, hb, rfl, k4, k5, k6⟩
        · have : es = [] := List.eq_nil_of_length_eq_zero hn
          subst this
          exact .ls0 a (Nat.zero_le _)
        · obtain ⟨C, vs, -, hF, hB, q1, q2, q3, q4, q5⟩ := (hr.row id _ _ _ hi).at_ hb (hv.2.1.2 _ _ _ hi)
          have hIm : Im F β H' w b := by
            refine ⟨hB.1.lt, hF, fun ⟨j, s', hm, e⟩ => ?_⟩
            obtain ⟨ha, hne⟩ := back hm.alive
            exact hne (hr.inj j id ha ⟨_, _, _, hi⟩ b s' s e hb)
          subst hn
          have := VR.ls (I := Im F β H' w) (w := w) (L := LV β H') (k := k) (es := es) (vs := (vs.drop off).take (es.length * k)) (b := b) (o := off) (cap := cap) hIm hk k4 k5 (by rw [hflat, sub_len (by omega), sub_len (by omega)]) (q3.sub _ _) (by
            have := rangeAt_sub q5 off (es.length * k)
            rwa [Nat.zero_add] at this) (fun j a v ha hv' => by
            rw [hflat] at ha
            exact (q4 _ a v (sub_get ha) (sub_get hv')).ext hxH)
          exact this
    | @agg az bs hl _ ih =>
      intro v hv
      cases hv with
      | leaf hv => exact hv.elim
      | agg hl' ho hv =>
        refine .agg (by rw [hl]; exact hl') ho (fun i b u hb hu => ?_)
        have hlt : i < az.length := by rw [← hl]; exact (List.getElem?_eq_some_iff.1 hb).1
        exact ih i _ b (List.getElem?_eq_getElem hlt) hb u (hv i _ u (List.getElem?_eq_getElem hlt) hu)
    | @tup az bs hl _ ih =>
      intro v hv
      cases hv with
      | leaf hv => exact hv.elim
      | tup hl' hv =>
        refine .tup (by rw [hl]; exact hl') (fun i b u hb hu => ?_)
        have hlt : i < az.length := by rw [← hl]; exact (List.getElem?_eq_some_iff.1 hb).1
        exact ih i _ b (List.getElem?_eq_getElem hlt) hb u (hv i _ u (List.getElem?_eq_getElem hlt) hu)
  refine ⟨β, ⟨hr.far, fun j t' fz' cs' hj => ?_, fun i j ai aj => hr.inj i j (back ai).1 (back aj).1⟩, hx.trans hxH, fun i a a' v h1 h2 hv => hV (he i a a' h1 h2) v hv⟩
  obtain ⟨cs0, h0, h3, h4⟩ := hH.row j t' fz' cs' hj
  rcases hr.row j t' fz' cs0 h0 with ⟨h, h'⟩ | ⟨b, C, vs, r1, r2, r3, r4, r5, r6, r7⟩
  · subst h
    exact .inl ⟨List.eq_nil_of_length_eq_zero (by simpa using h3), h'⟩
  · refine .inr ⟨b, C, vs, r1, r2, r3, by omega, r5, r6, fun i a v ha hv => ?_⟩
    have hlt : i < cs0.length := by rw [← h3]; exact (List.getElem?_eq_some_iff.1 ha).1
    exact hV (h4 i _ a (List.getElem?_eq_getElem hlt) ha) v (r7 i _ v (List.getElem?_eq_getElem hlt) hv)
end

/-- The checks of a body's drawn regions (n slots). -/
def chk (n : Nat) : Code → Bool
  | .region _ ops true => acycB 0 ops.toList && distinctB ops.toList && statOk ops.toList && (ops.toList.all fun o => match o.dst with | some d => decide (d < n) | none => true)
  | .seq x y => chk n x && chk n y
  | .cond _ x y => chk n x && chk n y
  | .block _ c => chk n c
  | .scope c => chk n c
  | .loop c => chk n c
  | _ => true

/-- The relation of a loop holds of another view. -/
def VI (L : Nat) (I : Nat → Env → List AObj → Prop) (n : Nat) (env : Env) (H : List AObj) : Prop := ∃ env' H', View L env H env' H' ∧ I n env' H'
/-- What must hold of slots and objects ahead of a piece of code. -/
def W (P : Program) (L : Nat) : Code → (Exit → Env → List AObj → Prop) → Env → List AObj → Prop
  | .skip, Q, env, H => Q .normal env H
  | .region _ ops false, Q, env, H => wops P ops.toList ops.toList (Q .normal) env H
  | .region _ ops true, Q, env, H => if ordAll ops.toList = true then wopsD P ops.toList ops.toList (Q .normal) env H else dops P ops.toList ops.size 0 ops.toList (Q .normal) [] [] env H
  | .seq x y, Q, env, H => W P L x (thenA (W P L y Q) Q) env H
  | .cond c x y, Q, env, H => match evA env c with
    | .c (.bool t) => (t = true → W P L x Q env H) ∧ (t = false → W P L y Q env H)
    | _ => False
  | .block id c, Q, env, H => W P L c (blockA id Q) env H
  | .scope c, Q, env, H => W P L c (noG Q) env H
  | .loop c, Q, env, H => ∃ (I : Nat → Env → List AObj → Prop) (n : Nat), VI L I n env H ∧ ∀ n env H, I n env H → W P L c (thenA (fun env' H' => ∃ m, m < n ∧ VI L I m env' H') Q) env H
  | .exit id, Q, env, H => Q (.exit id) env H
  | .ret, Q, env, H => Q .ret env H
  | .label _, Q, env, H => Q .normal env H
  | _, _, _, _ => False

section
variable {P : Program} {B : Bs} {F : Nat → Prop} {β β' : Loc} {H H' : List AObj} {w w' : World} {env : Env}

theorem putE_len (env : Env) (d : Option Tmp) (a : AV) : (putE env d a).length = env.length := by cases d <;> simp [putE]
theorem stepK_mono {s : Option StepA} {Kv Kv' : AV → List AObj → Prop} {Kc Kc' : FuncId → List AV → Prop} (h : stepK s Kv Kc) (hv : ∀ a H, Kv a H → Kv' a H) (hc : ∀ f az, Kc f az → Kc' f az) : stepK s Kv' Kc' := by
  unfold stepK at *
  split at h
  · exact hv _ _ h
  · exact hc _ _ h
  · exact h.elim
theorem wops_len {all : List Oper} {K : Env → List AObj → Prop} : ∀ (l : List Oper) (env : Env) (H : List AObj), wops P all l K env H → wops P all l (fun env' H' => env'.length = env.length ∧ K env' H') env H
  | [], env, H, h => ⟨rfl, h⟩
  | o :: rest, env, H, h => by
    have rec_ : ∀ a H', wops P all rest K (putE env o.dst a) H' → wops P all rest (fun env' H' => env'.length = env.length ∧ K env' H') (putE env o.dst a) H' := by
      intro a H' h'
      have := wops_len rest _ H' h'
      rw [putE_len] at this
      exact this
    have st : stepK (opA P H (evA env) o) (fun a H' => wops P all rest K (putE env o.dst a) H') (fun f args => PCall P f args H fun r H' => wops P all rest K (putE env o.dst r) H') → stepK (opA P H (evA env) o) (fun a H' => wops P all rest (fun env' H' => env'.length = env.length ∧ K env' H') (putE env o.dst a) H') (fun f args => PCall P f args H fun r H' => wops P all rest (fun env' H' => env'.length = env.length ∧ K env' H') (putE env o.dst r) H') :=
      fun h' => stepK_mono h' (fun a H' => rec_ a H') (fun f az hc => hc.mono (fun r H' => rec_ r H'))
    simp only [wops] at h ⊢
    split at h
    · exact st h
    · split at h
      · split at h
        · exact ⟨fun e => st (h.1 e), fun e => rec_ _ _ (h.2 e)⟩
        · exact rec_ _ _ h
        · exact h.elim
      · exact h.elim
theorem dops_len {all : List Oper} {N : Nat} {K : Env → List AObj → Prop} : ∀ (l : List Oper) (i : Nat) (effs : List (Nat × List AObj)) (pend : Pend) (env : Env) (H : List AObj), dops P all N i l K effs pend env H → dops P all N i l (fun env' H' => env'.length = env.length ∧ K env' H') effs pend env H
  | [], _, _, _, env, H, h => ⟨rfl, h⟩
  | o :: rest, i, effs, pend, env, H, h => by
    have rec_ : ∀ a H' effs' pend', dops P all N (i + 1) rest K effs' pend' (putE env o.dst a) H' → dops P all N (i + 1) rest (fun env' H' => env'.length = env.length ∧ K env' H') effs' pend' (putE env o.dst a) H' := by
      intro a H' effs' pend' h'
      have := dops_len rest (i + 1) effs' pend' _ H' h'
      rw [putE_len] at this
      exact this
    have st : ∀ {K1 K2 : Env → List AObj → Prop}, (∀ a H' effs' pend', dops P all N (i + 1) rest K1 effs' pend' (putE env o.dst a) H' → dops P all N (i + 1) rest K2 effs' pend' (putE env o.dst a) H') → stepK (opA P H (evA env) o)
      (fun a H' => if effOp o.op = true then
          listAll (fun p => depF all N i p.1 = true) effs ∧ listAll (fun p => stays P (depF all N i p.1) H' p.2.1 p.2.2.1 p.2.2.2) pend ∧ dops P all N (i + 1) rest K1 ((i, H) :: effs) pend (putE env o.dst a) H'
        else H' = H ∧ listAll (fun p => stays P (depF all N i p.1) p.2 o env a) effs ∧ dops P all N (i + 1) rest K1 effs ((i, o, env, a) :: pend) (putE env o.dst a) H)
      (fun f args => (∃ r, (∀ H0, PCall P f args H0 fun r' H' => r' = r ∧ H' = H0) ∧ dops P all N (i + 1) rest K1 effs pend (putE env o.dst r) H) ∨ ∃ r H', (PCall P f args H fun x H1 => x = r ∧ H1 = H') ∧ listAll (fun p => depF all N i p.1 = true) effs ∧ listAll (fun p => stays P (depF all N i p.1) H' p.2.1 p.2.2.1 p.2.2.2) pend ∧ dops P all N (i + 1) rest K1 ((i, H) :: effs) pend (putE env o.dst r) H') → stepK (opA P H (evA env) o)
      (fun a H' => if effOp o.op = true then
          listAll (fun p => depF all N i p.1 = true) effs ∧ listAll (fun p => stays P (depF all N i p.1) H' p.2.1 p.2.2.1 p.2.2.2) pend ∧ dops P all N (i + 1) rest K2 ((i, H) :: effs) pend (putE env o.dst a) H'
        else H' = H ∧ listAll (fun p => stays P (depF all N i p.1) p.2 o env a) effs ∧ dops P all N (i + 1) rest K2 effs ((i, o, env, a) :: pend) (putE env o.dst a) H)
      (fun f args => (∃ r, (∀ H0, PCall P f args H0 fun r' H' => r' = r ∧ H' = H0) ∧ dops P all N (i + 1) rest K2 effs pend (putE env o.dst r) H) ∨ ∃ r H', (PCall P f args H fun x H1 => x = r ∧ H1 = H') ∧ listAll (fun p => depF all N i p.1 = true) effs ∧ listAll (fun p => stays P (depF all N i p.1) H' p.2.1 p.2.2.1 p.2.2.2) pend ∧ dops P all N (i + 1) rest K2 ((i, H) :: effs) pend (putE env o.dst r) H') := by
      intro K1 K2 hK h'
      refine stepK_mono h' (fun a H' hh => ?_) (fun f az hh => hh.imp (fun ⟨r, h1, h2⟩ => ⟨r, h1, hK _ _ _ _ h2⟩) (fun ⟨r, H', h1, h2, h3, h4⟩ => ⟨r, H', h1, h2, h3, hK _ _ _ _ h4⟩))
      split
      · rename_i hq
        rw [if_pos hq] at hh
        exact ⟨hh.1, hh.2.1, hK _ _ _ _ hh.2.2⟩
      · rename_i hq
        rw [if_neg hq] at hh
        exact ⟨hh.1, hh.2.1, hK _ _ _ _ hh.2.2⟩
    simp only [dops] at h ⊢
    split at h
    · exact st rec_ h
    · split at h
      · split at h
        · exact ⟨fun e => st rec_ (h.1 e), fun e => rec_ _ _ _ _ (h.2 e)⟩
        · exact rec_ _ _ _ _ h
        · exact h.elim
      · exact h.elim

theorem StE.view {L : Nat} {env' : Env} {a : Act} (hB : B.H.length = L) (h : StE B env H a w) (hv : View L env H env' H') : StE B env' H' a w := by
  obtain ⟨β, hr, her, hb, hd⟩ := h
  obtain ⟨β', r1, x1, v1⟩ := hv.2.2 B.F B.β B.H B.w β w (by omega) (by have := hb.len; omega) hr hb
  refine ⟨β', r1, ⟨hv.1.trans her.1, fun i a' v h1 h2 => ?_⟩, x1, hd⟩
  have hlt : i < env.length := by rw [← hv.1]; exact (List.getElem?_eq_some_iff.1 h1).1
  exact v1 i _ a' v (List.getElem?_eq_getElem hlt) h1 (her.2 i _ v (List.getElem?_eq_getElem hlt) h2)
theorem PW.view {L : Nat} {c : Code} {Q : Exit → Env → List AObj → Prop} {env' : Env} (hB : B.H.length = L) (hv : View L env H env' H') (h : PW P B c Q env' H') : PW P B c Q env H := fun a w hs => h a w (hs.view hB hv)
/-- A loop whose relation holds of views. -/
theorem PW.loopV {L : Nat} {c : Code} {Q : Exit → Env → List AObj → Prop} (hB : B.H.length = L) (I : Nat → Env → List AObj → Prop) {n : Nat} (h0 : VI L I n env H) (hround : ∀ n env H, I n env H → PW P B c (thenA (fun env' H' => ∃ m, m < n ∧ VI L I m env' H') Q) env H) : PW P B (.loop c) Q env H := by
  refine PW.loop (VI L I) h0 (fun n env H ⟨env', H', hv, hI⟩ => PW.view hB hv (hround n env' H' hI))
theorem PW.of_W (hm : P.follows .mixedOrders = true) {n L : Nat} (hB : B.H.length = L) : ∀ (c : Code) (Q : Exit → Env → List AObj → Prop) (env : Env) (H : List AObj), chk n c = true → env.length = n → W P L c Q env H → PW P B c (fun e env' H' => env'.length = n ∧ Q e env' H') env H := by
  intro c
  induction c with
  | skip => intro Q env H _ hl h; exact PW.skip ⟨hl, h⟩
  | region id ops draw =>
    intro Q env H hc hl h
    have hops : ops = ops.toList.toArray := by simp
    cases draw with
    | false =>
      rw [hops]
      refine PW.region ?_
      have := wops_len _ _ _ h
      rw [hl] at this
      exact this
    | true =>
      simp only [chk, Bool.and_eq_true] at hc
      rw [hops]
      refine PW.regionD ops.size hm hc.1.1.1 hc.1.1.2 hc.1.2 (by rw [hl]; exact hc.2) ?_
      have h1 : dops P ops.toList ops.size 0 ops.toList (Q .normal) [] [] env H := by
        simp only [W] at h
        split at h
        · rename_i hord
          exact dops_of_ord hord ops.toList 0 [] [] env H (fun j o hj => by rw [Nat.zero_add]; exact hj) (fun p hp => by cases hp) (fun p hp => by cases hp) h
        · exact h
      have := dops_len _ _ _ _ _ _ h1
      rw [hl] at this
      exact this
  | seq x y ihx ihy =>
    intro Q env H hc hl h
    simp only [chk, Bool.and_eq_true] at hc
    refine PW.seq ((ihx _ env H hc.1 hl h).mono (fun e env' H' ⟨h1, h2⟩ => ?_))
    cases e with
    | normal => exact ihy Q env' H' hc.2 h1 h2
    | _ => exact ⟨h1, h2⟩
  | cond c x y ihx ihy =>
    intro Q env H hc hl h
    simp only [chk, Bool.and_eq_true] at hc
    simp only [W] at h
    split at h
    · rename_i t ht
      exact PW.cond ht (fun e => ihx Q env H hc.1 hl (h.1 e)) (fun e => ihy Q env H hc.2 hl (h.2 e))
    · exact h.elim
  | scope c ih =>
    intro Q env H hc hl h
    refine PW.scope ((ih _ env H hc hl h).mono (fun e env' H' ⟨h1, h2⟩ => ?_))
    cases e with
    | goto l => exact h2
    | _ => exact ⟨h1, h2⟩
  | block id c ih =>
    intro Q env H hc hl h
    refine PW.block ((ih _ env H hc hl h).mono (fun e env' H' ⟨h1, h2⟩ => ?_))
    cases e with
    | exit i =>
      simp only [blockA] at h2 ⊢
      split
      · rw [if_pos (by assumption)] at h2; exact ⟨h1, h2⟩
      · rw [if_neg (by assumption)] at h2; exact ⟨h1, h2⟩
    | _ => exact ⟨h1, h2⟩
  | loop c ih =>
    intro Q env H hc hl h
    obtain ⟨I, m, h0, hround⟩ := h
    refine PW.loopV (n := m) hB (fun k env' H' => env'.length = n ∧ I k env' H') ?_ (fun k env' H' ⟨l1, hI⟩ => ?_)
    · obtain ⟨e0, H0, hv, hI⟩ := h0
      exact ⟨e0, H0, hv, hv.1.trans hl, hI⟩
    refine (ih _ env' H' hc l1 (hround k env' H' hI)).mono (fun e env2 H2 ⟨h1, h2⟩ => ?_)
    cases e with
    | normal => obtain ⟨k', hk, e0, H0, hv, hI'⟩ := h2; exact ⟨k', hk, e0, H0, hv, hv.1.trans h1, hI'⟩
    | _ => exact ⟨h1, h2⟩
  | exit id => intro Q env H _ hl h; exact PW.exit ⟨hl, h⟩
  | ret => intro Q env H _ hl h; exact PW.ret ⟨hl, h⟩
  | label l => intro Q env H _ hl h; exact PW.label ⟨hl, h⟩
  | _ => intro Q env H _ _ h; exact h.elim


/-- What a body owes at its end: results, in some view. -/
def retV (P : Program) (L : Nat) (fn : Func) (Q : AV → List AObj → Prop) : Exit → Env → List AObj → Prop
  | .normal, env, H => ∃ l, resA P H env fn.results.toList = some l ∧ ∃ r H', View L [joinR l] H [r] H' ∧ Q r H'
  | .ret, env, H => ∃ l, resA P H env fn.results.toList = some l ∧ ∃ r H', View L [joinR l] H [r] H' ∧ Q r H'
  | _, _, _ => False
/-- A contract out of a body. -/
theorem PCall.of_W (hm : P.follows .mixedOrders = true) {f : FuncId} {fn : Func} {c : Code} {args : List AV} {Q : AV → List AObj → Prop} (hf : P.funcs[f]? = some fn) (hb : fn.body = some c) (ha : args.length ≤ fn.ntmps) (hc : chk fn.ntmps c = true) (h : W P H.length c (retV P H.length fn Q) (args ++ List.replicate (fn.ntmps - args.length) .any) H) : PCall P f args H Q := by
  intro F β w vs hr hvl
  have key : PCall P f args H (fun x H1 => ∃ r H', View H.length [x] H1 [r] H' ∧ Q r H') := PCall.of_body hf hb (fun B hB => (PW.of_W (n := fn.ntmps) hm (by rw [hB]) c _ _ H hc (by simp; omega) h).mono (fun e env' H' ⟨_, h2⟩ => by
    cases e <;> first | exact h2 | exact h2.elim))
  refine CallsX.mono (key F β w vs hr hvl) (fun e w' ⟨x, H1, β', v, h1, ⟨r, H', h2, h3⟩, h4, h5, h6⟩ => ?_)
  obtain ⟨β2, r1, x1, v1⟩ := h2.2.2 F β H w β' w' (Nat.le_refl _) h5.len h4 h5
  exact ⟨r, H', β2, v, h1, h3, r1, x1, v1 0 x r v rfl rfl h6⟩
/-- A call that knows no objects leaves the caller's as they are. -/
theorem PCall.pure_ {f : FuncId} {args : List AV} {Q : AV → Prop} (h : PCall P f args [] (fun r _ => Bd 0 r ∧ Q r)) (ha : ∀ a ∈ args, Bd 0 a) (H : List AObj) : PCall P f args H (fun r H' => Q r ∧ H' = H) := by
  intro F β w vs hr hvl
  have hr0 : Rep (fun b => F b ∨ MB β H b) β [] w := ⟨fun b hb => hb.elim (hr.far b) (fun h => (hr.mb_lt h).1), fun id t fz cs hi => by simp at hi, fun i j ⟨t, fz, cs, hi⟩ => by simp at hi⟩
  have hI : ∀ b, Im F β H w b → Im (fun b => F b ∨ MB β H b) β [] w b := fun b hb => ⟨hb.1, fun h => h.elim hb.2.1 hb.2.2, fun ⟨id, s, ⟨t, cs, hi⟩, _⟩ => by simp at hi⟩
  have hvl0 : VL (fun b => F b ∨ MB β H b) β [] w args vs := ⟨hvl.1, fun i a v h1 h2 => (hvl.2 i a v h1 h2).bd (n := 0) hI (fun _ _ => Kept.refl _ _) (fun x v hb hl => (hb.no_leaf hl).elim) (ha a (List.mem_of_getElem? h1))⟩
  refine CallsX.mono (h _ β w vs hr0 hvl0) (fun e w' ⟨r, H2, β2, v, e1, ⟨e2, e3⟩, e4, e5, e6⟩ => ?_)
  have hu : Upd NoF w w' := e5.upd.mono (fun k _ ⟨id, s, ⟨t, cs, hi⟩, _⟩ => by simp at hi)
  refine ⟨r, H, β, v, e1, ⟨e3, rfl⟩, hr.upd hu, Ext.of_upd hu hr, ?_⟩
  exact e6.bd (n := 0) (fun b hb => ⟨hb.1, fun f => hb.2.1 (.inl f), fun m => hb.2.1 (.inr m)⟩) (fun _ _ => Kept.refl _ _) (fun x v hb hl => (hb.no_leaf hl).elim) e2
theorem PCall.det {f : FuncId} {args : List AV} {r : AV} (h : PCall P f args [] (fun x _ => Bd 0 x ∧ x = r)) (ha : ∀ a ∈ args, Bd 0 a) : ∀ H, PCall P f args H (fun x H' => x = r ∧ H' = H) := fun H => PCall.pure_ (Q := fun x => x = r) h ha H
end
end
end Go.Proofs.YthknobbilcolnaaGreat
