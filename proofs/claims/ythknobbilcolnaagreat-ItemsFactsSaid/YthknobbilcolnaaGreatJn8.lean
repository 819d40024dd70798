/- The rule of text Rgv where an edge that does not bind may point forward. No condition. Regions that draw their order, on abstract values: walked in the text's order, with what must not change beside. No condition. Regions that draw their order: the walk in the text's order, with its checks, serves for every order. No condition. -/
import Derived.Test.YthknobbilcolnaaGreatJn7
namespace Go.Proofs.YthknobbilcolnaaGreat
section
open Go.RowKit
section
variable {P : Program} {l : List Oper} {R : Nat → Value → World → Prop} {St : (Nat → Bool) → World → World → Prop} {W : (Nat → Bool) → (Operand → Value) → World → Prop} {a0 : Act}
theorem RgAtV.anyVB (st_refl : ∀ L w, St L w w) (keep : ∀ L i v w w', L i = true → R i v w → St L w w' → R i v w') (hac : acycB 0 l = true) (hdi : distinctB l = true) (hdst : ∀ o ∈ l, ∀ d, o.dst = some d → d < a0.tmps.size) {Q : Exit → Act → World → Prop} (hops : AllOpsV P l R St W a0.eval 0 l) (hend : ∀ (vs : Nat → Value) (w : World) (L : Nat → Bool), (∀ i, i < l.length → L i = true) → W L (putAll l vs 0 a0).eval w → (∀ (i : Nat) o, l[i]? = some o → R i (leftV o (vs i)) w) → Q .normal (putAll l vs 0 a0) w) :
    ∀ (fuel : Nat) (listed : Array Bool) (a : Act) (w : World), unl listed.toList ≤ fuel → RgAtV l R W a0 listed a w → wpAny P .any l.toArray Q fuel listed a w := by
  have fin : ∀ (listed : Array Bool) (a : Act) (w : World), RgAtV l R W a0 listed a w → Region.ready .any l.toArray listed = [] → Q .normal a w := by
    intro listed a w h hr
    have hn := not_readyB hac h.ls hr
    obtain ⟨vs, rfl, hv⟩ := h.toAt.fin hdi (fun b hb => by
      obtain ⟨i, hi⟩ := List.getElem?_of_mem hb
      have hlt : i < l.length := by rw [← h.ls]; have := (List.getElem?_eq_some_iff.1 hi).1; simpa using this
      have := hn i hlt
      have hi' : listed[i]? = some b := by simpa using hi
      rw [hi'] at this
      exact Option.some.inj this)
    exact hend vs w (lst listed) (fun i hi => by unfold lst; rw [beq_iff_eq]; exact hn i hi) h.st hv
  intro fuel
  induction fuel with
  | zero =>
    intro listed a w hu h
    have hz := unl_zero _ (by omega : unl listed.toList = 0)
    have hr : Region.ready .any l.toArray listed = [] := by
      apply List.eq_nil_iff_forall_not_mem.2
      intro i hi
      obtain ⟨o, _, h2, _⟩ := ready_iff h.ls hi
      have := hz false (List.mem_of_getElem? (i := i) (by simpa using h2))
      cases this
    exact ⟨hr, fin listed a w h hr⟩
  | succ fuel ih =>
    intro listed a w hu h
    refine ⟨fun hr => fin listed a w h hr, fun i hi => ?_⟩
    obtain ⟨o, h1, h2, h3⟩ := ready_iff h.ls hi
    have hs := h.stepV st_refl keep hdi hdst (Q := Q) hops h1 h2 h3
    have hun : unl (listed.setIfInBounds i true).toList ≤ fuel := by
      have := unl_set listed.toList i (by simpa using h2)
      rw [Array.toList_setIfInBounds]
      omega
    unfold wpOp
    simp only [List.getElem?_toArray, h1]
    split
    · rename_i hw
      rw [if_pos hw] at hs
      exact .inl (Oper.wp_mono (fun a' w' h' => ih _ a' w' hun h') hs)
    · rename_i hw
      rw [if_neg hw] at hs
      exact ih _ _ _ hun hs
end


theorem wp_region_rgvB {P : Program} {l : List Oper} {a0 : Act} {w0 : World} {Q : Exit → Act → World → Prop} {id : Nat} (R : Nat → Value → World → Prop) (St : (Nat → Bool) → World → World → Prop) (W : (Nat → Bool) → (Operand → Value) → World → Prop) (hm : P.follows .mixedOrders = true) (hac : acycB 0 l = true) (hdi : distinctB l = true) (hdst : (l.all fun o => match o.dst with | some d => decide (d < a0.tmps.size) | none => true) = true)
    (st_refl : ∀ L w, St L w w) (keep : ∀ L i v w w', L i = true → R i v w → St L w w' → R i v w') (hW : W (fun _ => false) a0.eval w0.drew)
    (hops : AllOpsV P l R St W a0.eval 0 l) (hend : ∀ (vs : Nat → Value) (w : World) (L : Nat → Bool), (∀ i, i < l.length → L i = true) → W L (putAll l vs 0 a0).eval w → (∀ (i : Nat) o, l[i]? = some o → R i (leftV o (vs i)) w) → Q .normal (putAll l vs 0 a0) w) : (Code.region id l.toArray true).wp P Q a0 w0 := by
  have hdst' : ∀ o ∈ l, ∀ d, o.dst = some d → d < a0.tmps.size := fun o ho d hd => by
    have := List.all_eq_true.1 hdst o ho
    rw [hd] at this
    simpa using this
  have hl0 : lst (Array.replicate l.length false) = fun _ => false := by
    funext j
    unfold lst
    rw [Array.getElem?_replicate]
    split <;> rfl
  refine wp_region_any hm ?_
  refine RgAtV.anyVB (R := R) (St := St) (W := W) (a0 := a0) st_refl keep hac hdi hdst' hops hend _ _ _ _ ?_ ?_
  · simp [unl_replicate]
  · refine ⟨by simp, rfl, rfl, by simp only [List.size_toArray]; rw [hl0]; exact hW, fun j oj _ h => ?_, fun _ _ => rfl, fun j k h => ?_⟩
    · rw [Array.getElem?_replicate] at h
      split at h
      · cases h
      · cases h
    · rw [Array.getElem?_replicate] at h
      split at h
      · cases h
      · cases h
end

section
open Go.RowKit

/-- Op i waits for op j, also through others. -/
inductive DepS (l : List Oper) : Nat → Nat → Prop
  | one {i j : Nat} (h : depOn l i j = true) : DepS l i j
  | more {i j k : Nat} (h : depOn l i j = true) (h' : DepS l j k) : DepS l i k
def depF (l : List Oper) : Nat → Nat → Nat → Bool
  | 0, _, _ => false
  | n + 1, i, j => match l[i]? with
    | none => false
    | some o => (o.after.toList.any fun e => Region.binds .any e && e.on == j) || (o.after.toList.any fun e => Region.binds .any e && depF l n e.on j)
theorem depF_sound {l : List Oper} : ∀ (n i j : Nat), depF l n i j = true → DepS l i j
  | 0, _, _, h => by cases h
  | n + 1, i, j, h => by
    simp only [depF] at h
    split at h
    · cases h
    · rename_i o ho
      have hd : ∀ e ∈ o.after.toList, Region.binds .any e = true → depOn l i e.on = true := by
        intro e he h1
        unfold depOn
        rw [ho]
        simp only
        rw [Array.any_eq_true']
        exact ⟨e, by simpa using he, by simp [h1]⟩
      rw [Bool.or_eq_true, List.any_eq_true, List.any_eq_true] at h
      rcases h with ⟨e, he, h⟩ | ⟨e, he, h⟩
      · simp only [Bool.and_eq_true, beq_iff_eq] at h
        obtain ⟨h1, rfl⟩ := h
        exact .one (hd e he h1)
      · simp only [Bool.and_eq_true] at h
        exact .more (hd e he h.1) (depF_sound n _ _ h.2)
theorem DepS.in_ {l : List Oper} {L : Nat → Bool} (hc : ∀ j k, L j = true → depOn l j k = true → L k = true) {i j : Nat} (h : DepS l i j) (hi : L i = true) : L j = true := by
  induction h with
  | one h => exact hc _ _ hi h
  | more h _ ih => exact ih (hc _ _ hi h)
theorem DepS.of_deps {l : List Oper} {L : Nat → Bool} (hc : ∀ j k, L j = true → depOn l j k = true → L k = true) {i j : Nat} (h : DepS l i j) (hi : ∀ k, depOn l i k = true → L k = true) : L j = true := by
  cases h with
  | one h => exact hi _ h
  | more h h' => exact h'.in_ hc (hi _ h)

/-- Does it turn the objects (by its kind)? -/
def effOp : Op → Bool
  | .alloc _ | .box _ _ | .buildSlice _ _ _ | .makeSlice _ _ _ | .store _ _ _ | .makeMap _ _ | .mapUpdate _ _ _ _ | .insert _ _ _ _ => true
  | .call { callee := .builtin b, .. } => match b with | .append | .copy | .delete | .clear => true | _ => false
  | _ => false
def listAll {α : Type} (Q : α → Prop) : List α → Prop
  | [] => True
  | x :: l => Q x ∧ listAll Q l
theorem listAll_mem {α : Type} {Q : α → Prop} : ∀ {l : List α}, listAll Q l → ∀ x ∈ l, Q x
  | [], _, x, h => by cases h
  | y :: l, h, x, hx => by
    cases hx with
    | head => exact h.1
    | tail _ hx => exact listAll_mem h.2 x hx

abbrev Pend := List (Nat × Oper × Env × AV)
def stays (P : Program) (b : Bool) (H : List AObj) (o : Oper) (env : Env) (a : AV) : Prop := b = true ∨ opA P H (evA env) o = some (.val a H)
/-- The text's order, with checks: effs are the operations that turned objects so far (and the objects before), pend those that did not. -/
def dops (P : Program) (all : List Oper) (N : Nat) : Nat → List Oper → (Env → List AObj → Prop) → List (Nat × List AObj) → Pend → Env → List AObj → Prop
  | _, [], K, _, _, env, H => K env H
  | i, o :: rest, K, effs, pend, env, H =>
    let step : Prop := stepK (opA P H (evA env) o)
      (fun a H' => if effOp o.op = true then
          listAll (fun p => depF all N i p.1 = true) effs ∧ listAll (fun p => stays P (depF all N i p.1) H' p.2.1 p.2.2.1 p.2.2.2) pend ∧ dops P all N (i + 1) rest K ((i, H) :: effs) pend (putE env o.dst a) H'
        else H' = H ∧ listAll (fun p => stays P (depF all N i p.1) p.2 o env a) effs ∧ dops P all N (i + 1) rest K effs ((i, o, env, a) :: pend) (putE env o.dst a) H)
      (fun f args => (∃ r, (∀ H0, PCall P f args H0 fun r' H' => r' = r ∧ H' = H0) ∧ dops P all N (i + 1) rest K effs pend (putE env o.dst r) H) ∨
        ∃ r H', (PCall P f args H fun x H1 => x = r ∧ H1 = H') ∧ listAll (fun p => depF all N i p.1 = true) effs ∧ listAll (fun p => stays P (depF all N i p.1) H' p.2.1 p.2.2.1 p.2.2.2) pend ∧ dops P all N (i + 1) rest K ((i, H) :: effs) pend (putE env o.dst r) H')
    match o.guard with
    | none => step
    | some (g, b) => match (all[g]?).bind (·.dst) with
      | some d => match env.getD d .any with
        | .c (.bool x) => (x = b → step) ∧ (x ≠ b → dops P all N (i + 1) rest K effs pend (putE env o.dst (.tup [])) H)
        | .tup [] => dops P all N (i + 1) rest K effs pend (putE env o.dst (.tup [])) H
        | _ => False
      | none => False

/-- Operands of op i: written by an operation that it waits for, or from outside. -/
def tmpsOf (o : Oper) : List Nat := o.op.operands.toList.filterMap fun | .tmp t => some t | _ => none
def statOk (l : List Oper) : Bool :=
  (List.range l.length).all fun i => match l[i]? with
    | none => true
    | some o => ((tmpsOf o).all fun t => extOk l i t || (List.range i).any fun j => depOn l i j && (match l[j]? with | some oj => oj.dst == some t | none => false)) &&
      (match o.guard with | none => true | some (g, _) => decide (g < i) && depOn l i g)

inductive Kd where
  | skip | val | call | eff
  deriving DecidableEq
/-- What happened at one place of the text. -/
structure Rc where
  i : Nat
  o : Oper
  env : Env
  H : List AObj
  a : AV
  kd : Kd
  H' : List AObj
def Wn (all : List Oper) (r : Rc) : Prop := ∀ g b, r.o.guard = some (g, b) → ∃ d, (all[g]?).bind (·.dst) = some d ∧ r.env.getD d .any = .c (.bool b)
def RcOk (P : Program) (all : List Oper) (r : Rc) : Prop := match r.kd with
  | .skip => (∃ g b d, r.o.guard = some (g, b) ∧ (all[g]?).bind (·.dst) = some d ∧ ((∃ x, r.env.getD d .any = .c (.bool x) ∧ x ≠ b) ∨ r.env.getD d .any = .tup [])) ∧ r.a = .tup [] ∧ r.H' = r.H
  | .val => Wn all r ∧ opA P r.H (evA r.env) r.o = some (.val r.a r.H) ∧ r.H' = r.H
  | .eff => Wn all r ∧ (opA P r.H (evA r.env) r.o = some (.val r.a r.H') ∨ ∃ f args, opA P r.H (evA r.env) r.o = some (.call f args) ∧ PCall P f args r.H fun x H1 => x = r.a ∧ H1 = r.H')
  | .call => Wn all r ∧ (∃ f args, opA P r.H (evA r.env) r.o = some (.call f args) ∧ ∀ H0, PCall P f args H0 fun r' H' => r' = r.a ∧ H' = H0) ∧ r.H' = r.H
structure Pairs (P : Program) (all : List Oper) (N : Nat) (r s : Rc) : Prop where
  ee : r.kd = .eff → s.kd = .eff → depF all N s.i r.i = true
  ev : r.kd = .eff → s.kd = .val → stays P (depF all N s.i r.i) r.H s.o s.env s.a
  ve : r.kd = .val → s.kd = .eff → stays P (depF all N s.i r.i) s.H' r.o r.env r.a
def Ch : Env → List AObj → List Rc → Env → List AObj → Prop
  | env, H, [], env', H' => env' = env ∧ H' = H
  | env, H, r :: l, env', H' => r.env = env ∧ r.H = H ∧ Ch (putE env r.o.dst r.a) r.H' l env' H'

section
variable {P : Program}
theorem dops_recs {all : List Oper} {N : Nat} {K : Env → List AObj → Prop} : ∀ (rest : List Oper) (i : Nat) (done : List Rc) (effs : List (Nat × List AObj)) (pend : Pend) (env : Env) (H : List AObj), (∀ r ∈ done, r.kd = .eff → (r.i, r.H) ∈ effs) → (∀ r ∈ done, r.kd = .val → (r.i, r.o, r.env, r.a) ∈ pend) → dops P all N i rest K effs pend env H →
    ∃ recs env' H', recs.map (·.o) = rest ∧ (∀ (j : Nat) (r : Rc), recs[j]? = some r → r.i = i + j) ∧ Ch env H recs env' H' ∧ (∀ r ∈ recs, RcOk P all r) ∧ (∀ r ∈ done, ∀ s ∈ recs, Pairs P all N r s) ∧ recs.Pairwise (Pairs P all N) ∧ K env' H'
  | [], i, done, effs, pend, env, H, _, _, h => ⟨[], env, H, rfl, fun j r h => by simp at h, ⟨rfl, rfl⟩, (fun r h => by cases h), (fun r _ s h => by cases h), List.Pairwise.nil, h⟩
  | o :: rest, i, done, effs, pend, env, H, he, hp, h => by
    -- one record, then the rest
    have glue : ∀ (rc : Rc), rc.i = i → rc.o = o → rc.env = env → rc.H = H → RcOk P all rc → (∀ r ∈ done, Pairs P all N r rc) → ∀ effs' pend', (rc.kd = .eff → (rc.i, rc.H) ∈ effs') → (rc.kd = .val → (rc.i, rc.o, rc.env, rc.a) ∈ pend') → (∀ x ∈ effs, x ∈ effs') → (∀ x ∈ pend, x ∈ pend') → dops P all N (i + 1) rest K effs' pend' (putE env o.dst rc.a) rc.H' →
        ∃ recs env' H', recs.map (·.o) = o :: rest ∧ (∀ (j : Nat) (r : Rc), recs[j]? = some r → r.i = i + j) ∧ Ch env H recs env' H' ∧ (∀ r ∈ recs, RcOk P all r) ∧ (∀ r ∈ done, ∀ s ∈ recs, Pairs P all N r s) ∧ recs.Pairwise (Pairs P all N) ∧ K env' H' := by
      intro rc e1 e2 e3 e4 hok hpr effs' pend' h1 h2 h3 h4 hd
      obtain ⟨recs, env', H', r1, r2, r3, r4, r5, r6, r7⟩ := dops_recs rest (i + 1) (rc :: done) effs' pend' _ _ (fun r hr hk => by
        cases hr with
        | head => exact h1 hk
        | tail _ hr => exact h3 _ (he r hr hk)) (fun r hr hk => by
        cases hr with
        | head => exact h2 hk
        | tail _ hr => exact h4 _ (hp r hr hk)) hd
      refine ⟨rc :: recs, env', H', by simp [r1, e2], fun j r hj => ?_, ⟨e3, e4, by rw [e2]; exact r3⟩, fun r hr => ?_, fun r hr s hs => ?_, List.pairwise_cons.2 ⟨fun s hs => r5 rc List.mem_cons_self s hs, r6⟩, r7⟩
      · cases j with
        | zero => simp at hj; subst hj; exact e1
        | succ j =>
          have := r2 j r (by simpa using hj)
          omega
      · cases hr with
        | head => exact hok
        | tail _ hr => exact r4 r hr
      · cases hs with
        | head => exact hpr r hr
        | tail _ hs => exact r5 r (List.mem_cons_of_mem _ hr) s hs
    -- a step that is taken
    have step : Wn all ⟨i, o, env, H, .any, .skip, H⟩ → stepK (opA P H (evA env) o)
      (fun a H' => if effOp o.op = true then
          listAll (fun p => depF all N i p.1 = true) effs ∧ listAll (fun p => stays P (depF all N i p.1) H' p.2.1 p.2.2.1 p.2.2.2) pend ∧ dops P all N (i + 1) rest K ((i, H) :: effs) pend (putE env o.dst a) H'
        else H' = H ∧ listAll (fun p => stays P (depF all N i p.1) p.2 o env a) effs ∧ dops P all N (i + 1) rest K effs ((i, o, env, a) :: pend) (putE env o.dst a) H)
      (fun f args => (∃ r, (∀ H0, PCall P f args H0 fun r' H' => r' = r ∧ H' = H0) ∧ dops P all N (i + 1) rest K effs pend (putE env o.dst r) H) ∨
        ∃ r H', (PCall P f args H fun x H1 => x = r ∧ H1 = H') ∧ listAll (fun p => depF all N i p.1 = true) effs ∧ listAll (fun p => stays P (depF all N i p.1) H' p.2.1 p.2.2.1 p.2.2.2) pend ∧ dops P all N (i + 1) rest K ((i, H) :: effs) pend (putE env o.dst r) H') →
        ∃ recs env' H', recs.map (·.o) = o :: rest ∧ (∀ (j : Nat) (r : Rc), recs[j]? = some r → r.i = i + j) ∧ Ch env H recs env' H' ∧ (∀ r ∈ recs, RcOk P all r) ∧ (∀ r ∈ done, ∀ s ∈ recs, Pairs P all N r s) ∧ recs.Pairwise (Pairs P all N) ∧ K env' H' := by
      intro hw hs
      unfold stepK at hs
      split at hs
      · rename_i a H' hop
        split at hs
        · obtain ⟨s1, s2, s3⟩ := hs
          refine glue ⟨i, o, env, H, a, .eff, H'⟩ rfl rfl rfl rfl ⟨hw, .inl hop⟩ (fun r hr => ⟨fun hk _ => listAll_mem s1 _ (he r hr hk), (fun _ h => by cases h), fun hk _ => listAll_mem s2 _ (hp r hr hk)⟩) _ _ (fun _ => List.mem_cons_self) (fun h => by cases h) (fun x hx => List.mem_cons_of_mem _ hx) (fun x hx => hx) s3
        · obtain ⟨s1, s2, s3⟩ := hs
          subst s1
          refine glue ⟨i, o, env, H', a, .val, H'⟩ rfl rfl rfl rfl ⟨hw, hop, rfl⟩ (fun r hr => ⟨(fun _ h => by cases h), fun hk _ => listAll_mem s2 _ (he r hr hk), (fun _ h => by cases h)⟩) _ _ (fun h => by cases h) (fun _ => List.mem_cons_self) (fun x hx => hx) (fun x hx => List.mem_cons_of_mem _ hx) s3
      · rename_i f args hop
        rcases hs with ⟨r, s1, s2⟩ | ⟨r, H', s0, s1, s2, s3⟩
        · exact glue ⟨i, o, env, H, r, .call, H⟩ rfl rfl rfl rfl ⟨hw, ⟨f, args, hop, s1⟩, rfl⟩ (fun r hr => ⟨(fun _ h => by cases h), (fun _ h => by cases h), (fun _ h => by cases h)⟩) _ _ (fun h => by cases h) (fun h => by cases h) (fun x hx => hx) (fun x hx => hx) s2
        · exact glue ⟨i, o, env, H, r, .eff, H'⟩ rfl rfl rfl rfl ⟨hw, .inr ⟨f, args, hop, s0⟩⟩ (fun r hr => ⟨fun hk _ => listAll_mem s1 _ (he r hr hk), (fun _ h => by cases h), fun hk _ => listAll_mem s2 _ (hp r hr hk)⟩) _ _ (fun _ => List.mem_cons_self) (fun h => by cases h) (fun x hx => List.mem_cons_of_mem _ hx) (fun x hx => hx) s3
      · exact hs.elim
    simp only [dops] at h
    cases hg : o.guard with
    | none =>
      rw [hg] at h
      exact step (fun g b h => by rw [hg] at h; cases h) h
    | some p =>
      obtain ⟨g, b⟩ := p
      rw [hg] at h
      simp only at h
      split at h
      · rename_i d hd
        split at h
        · rename_i x hx
          by_cases hxb : x = b
          · refine step (fun g' b' h' => ?_) (h.1 hxb)
            rw [hg] at h'
            cases h'
            exact ⟨d, hd, by rw [hx, hxb]⟩
          · exact glue ⟨i, o, env, H, .tup [], .skip, H⟩ rfl rfl rfl rfl ⟨⟨g, b, d, hg, hd, .inl ⟨x, hx, hxb⟩⟩, rfl, rfl⟩ (fun r hr => ⟨(fun _ h => by cases h), (fun _ h => by cases h), (fun _ h => by cases h)⟩) _ _ (fun h => by cases h) (fun h => by cases h) (fun x hx => hx) (fun x hx => hx) (h.2 hxb)
        · rename_i hx
          exact glue ⟨i, o, env, H, .tup [], .skip, H⟩ rfl rfl rfl rfl ⟨⟨g, b, d, hg, hd, .inr hx⟩, rfl, rfl⟩ (fun r hr => ⟨(fun _ h => by cases h), (fun _ h => by cases h), (fun _ h => by cases h)⟩) _ _ (fun h => by cases h) (fun h => by cases h) (fun x hx => hx) (fun x hx => hx) h
        · exact h.elim
      · exact h.elim

/-- The objects before place j, and the slots. -/
def hpA (recs : List Rc) (H : List AObj) : Nat → List AObj
  | 0 => H
  | j + 1 => match recs[j]? with | some r => r.H' | none => H
def enA (recs : List Rc) (env : Env) : Nat → Env
  | 0 => env
  | j + 1 => match recs[j]? with | some r => putE r.env r.o.dst r.a | none => env
theorem Ch.at_ : ∀ {recs : List Rc} {env : Env} {H : List AObj} {env' : Env} {H' : List AObj}, Ch env H recs env' H' → (∀ (j : Nat) (r : Rc), recs[j]? = some r → r.H = hpA recs H j ∧ r.env = enA recs env j) ∧ H' = hpA recs H recs.length ∧ env' = enA recs env recs.length
  | [], env, H, env', H', h => ⟨fun j r h => by simp at h, h.2, h.1⟩
  | x :: l, env, H, env', H', h => by
    obtain ⟨h1, h2, h3⟩ := h
    obtain ⟨i1, i2, i3⟩ := Ch.at_ h3
    have sh : ∀ j, hpA (x :: l) H (j + 1) = hpA l x.H' j ∨ l.length < j := by
      intro j
      cases j with
      | zero => left; rfl
      | succ j =>
        by_cases hj : j < l.length
        · left; simp [hpA, List.getElem?_eq_getElem hj]
        · right; omega
    have se : ∀ j, enA (x :: l) env (j + 1) = enA l (putE env x.o.dst x.a) j ∨ l.length < j := by
      intro j
      cases j with
      | zero => left; simp [enA, h1]
      | succ j =>
        by_cases hj : j < l.length
        · left; simp [enA, List.getElem?_eq_getElem hj]
        · right; omega
    refine ⟨fun j r hj => ?_, ?_, ?_⟩
    · cases j with
      | zero => simp at hj; subst hj; exact ⟨h2, h1⟩
      | succ j =>
        have hj' : l[j]? = some r := by simpa using hj
        have hlt := (List.getElem?_eq_some_iff.1 hj').1
        obtain ⟨e1, e2⟩ := i1 j r hj'
        exact ⟨by rw [e1]; exact ((sh j).resolve_right (by omega)).symm, by rw [e2]; exact ((se j).resolve_right (by omega)).symm⟩
    · rw [List.length_cons, (sh l.length).resolve_right (by omega)]; exact i2
    · rw [List.length_cons, (se l.length).resolve_right (by omega)]; exact i3

/-- Between two places the objects are as they were, or an operation in between found them so. -/
theorem hp_between {all : List Oper} {recs : List Rc} {H : List AObj} (hok : ∀ r ∈ recs, RcOk P all r) (hat : ∀ (j : Nat) (r : Rc), recs[j]? = some r → r.H = hpA recs H j) (a : Nat) : ∀ (d : Nat), a + d ≤ recs.length → hpA recs H (a + d) = hpA recs H a ∨ ∃ q t, a ≤ q ∧ q < a + d ∧ recs[q]? = some t ∧ t.kd = .eff ∧ t.H = hpA recs H a
  | 0, _ => .inl rfl
  | d + 1, h => by
    rcases hp_between hok hat a d (by omega) with h1 | ⟨q, t, q1, q2, q3⟩
    · obtain ⟨r, hr⟩ : ∃ r, recs[a + d]? = some r := ⟨_, List.getElem?_eq_getElem (by omega)⟩
      have hrH := hat _ r hr
      by_cases hk : r.kd = .eff
      · exact .inr ⟨a + d, r, by omega, by omega, hr, hk, by rw [hrH, h1]⟩
      · left
        have hok' := hok r (List.mem_of_getElem? hr)
        have hsame : r.H' = r.H := by
          unfold RcOk at hok'
          split at hok'
          · exact hok'.2.2
          · exact hok'.2.2
          · rename_i hq; exact absurd hq hk
          · exact hok'.2.2
        have hn : hpA recs H (a + (d + 1)) = r.H' := by
          show hpA recs H (a + d + 1) = _
          simp only [hpA, hr]
        rw [hn, hsame, hrH, h1]
    · exact .inr ⟨q, t, q1, by omega, q3⟩

/-- The objects once the operations in L have run. -/
def PosH (recs : List Rc) (H : List AObj) (L : Nat → Bool) (h : List AObj) : Prop :=
  (∃ (k : Nat) (s : Rc), recs[k]? = some s ∧ s.kd = .eff ∧ L k = true ∧ (∀ (k' : Nat) (s' : Rc), recs[k']? = some s' → s'.kd = .eff → L k' = true → k' ≤ k) ∧ h = s.H') ∨ ((∀ (k : Nat) (s : Rc), recs[k]? = some s → s.kd = .eff → L k = false) ∧ h = H)
end
end

section
open Go.RowKit

section
variable {P : Program} {B : Bs} {F : Nat → Prop} {β β' : Loc} {H H' : List AObj} {w w' : World} {env : Env}

theorem map_congr_ops {ρ ρ' : Operand → AV} {l : List Operand} (h : ∀ x ∈ l, ρ x = ρ' x) : l.map ρ = l.map ρ' := List.map_congr_left h
theorem opA_congr {ρ ρ' : Operand → AV} {o : Oper} (h : ∀ x ∈ o.op.operands.toList, ρ x = ρ' x) : opA P H ρ o = opA P H ρ' o := by
  have parts : ∀ (ps : Array (Nat × Operand)), (∀ x ∈ (ps.toList.map (·.2)), ρ x = ρ' x) → (ps.toList.map fun p => (p.1, ρ p.2)) = ps.toList.map fun p => (p.1, ρ' p.2) := by
    intro ps hp
    refine List.map_congr_left (fun p hm => ?_)
    rw [hp p.2 (List.mem_map.2 ⟨p, hm, rfl⟩)]
  have opt : ∀ (x : Option Operand), (∀ y ∈ x.toArray.toList, ρ y = ρ' y) → x.map ρ = x.map ρ' := by
    intro x hx
    cases x with
    | none => rfl
    | some y => simp [hx y (by simp)]
  unfold opA
  cases ho : o.op <;> simp only [ho, Op.operands] at h ⊢
  case build t ps => rw [parts ps (by simpa using h)]
  case buildSlice t n ps => rw [parts ps (by simpa using h)]
  case makeMap t r => rw [opt r (fun y hy => h y (by simpa using hy))]
  case makeFunc fn first caps =>
    cases fn <;> simp only []
    rw [map_congr_ops (l := caps.toList) (fun x hx => h x (by simp; exact .inr (by simpa using hx)))]
  case slice t x lo hi mx =>
    have h0 := h x (by simp)
    rw [h0, opt lo (fun y hy => h y (by simp at hy ⊢; simp [hy])), opt hi (fun y hy => h y (by simp at hy ⊢; simp [hy])), opt mx (fun y hy => h y (by simp at hy ⊢; simp [hy]))]
  case call c =>
    simp only [Call.operands] at h
    have ha : c.args.toList.map ρ = c.args.toList.map ρ' := map_congr_ops (fun x hx => h x (by simp at hx ⊢; exact .inr hx))
    rw [ha]
    cases hc : c.callee with
    | builtin b => rfl
    | invoke r m => rfl
    | value f =>
      simp only
      unfold calleeA
      rw [h f (by rw [hc]; simp)]
  all_goals first
    | rfl
    | (have h0 := fun x hx => h x hx
       simp at h0
       simp [h0])
theorem opA_call {ρ : Operand → AV} {o : Oper} {f : FuncId} {args : List AV} (h : opA P H ρ o = some (.call f args)) (H0 : List AObj) : opA P H0 ρ o = some (.call f args) := by
  unfold opA at h ⊢
  have no : ∀ {x : Option AV}, ¬ x.map (StepA.val · H) = some (.call f args) := fun {x} hx => by
    obtain ⟨a, _, h2⟩ := Option.map_eq_some_iff.1 hx
    cases h2
  have no2 : ∀ {x : Option (AV × List AObj)}, ¬ x.map (fun p => StepA.val p.1 p.2) = some (.call f args) := fun {x} hx => by
    obtain ⟨a, _, h2⟩ := Option.map_eq_some_iff.1 hx
    cases h2
  cases ho : o.op <;> simp only [ho] at h ⊢
  case call c =>
    cases hc : c.callee with
    | builtin b => rw [hc] at h; exact (no2 h).elim
    | invoke r m => rw [hc] at h; cases h
    | value g => rw [hc] at h; exact h
  all_goals exfalso
  all_goals first
    | exact no h
    | exact no2 h
    | (cases h; done)
    | skip
  case pick => split at h <;> first | exact no h | cases h
  case store =>
    obtain ⟨a, _, h2⟩ := Option.map_eq_some_iff.1 h
    cases h2
  case insert =>
    obtain ⟨a, _, h2⟩ := Option.map_eq_some_iff.1 h
    cases h2
  case mapUpdate =>
    obtain ⟨a, _, h2⟩ := Option.map_eq_some_iff.1 h
    cases h2
  case nilCheck => split at h <;> first | exact no h | cases h
  case unOp => split at h <;> first | exact no h | cases h
  case makeFunc fn first caps => cases fn <;> simp only [] at h <;> first | (cases h; done) | (split at h <;> first | exact no h | cases h)
  case slice => split at h <;> first | exact no h | cases h
  case fieldAddr => split at h <;> first | exact no h | cases h
  case indexAddr => split at h <;> first | exact no h | cases h
  case index =>
    split at h
    · split at h
      · split at h
        · exact no h
        · cases h
      · cases h
    · exact no h
  case extract => split at h <;> first | exact no h | cases h

theorem enA_len {recs : List Rc} (h : ∀ (j : Nat) (r : Rc), recs[j]? = some r → r.env = enA recs env j) : ∀ j, j ≤ recs.length → (enA recs env j).length = env.length
  | 0, _ => rfl
  | j + 1, hj => by
    have hlt : j < recs.length := by omega
    have hr := List.getElem?_eq_getElem hlt
    have e : enA recs env (j + 1) = putE recs[j].env recs[j].o.dst recs[j].a := by
      show (match recs[j]? with | some r => putE r.env r.o.dst r.a | none => env) = _
      rw [hr]
    rw [e]
    have ih := enA_len h j (by omega)
    rw [h j _ hr]
    cases recs[j].o.dst with
    | none => exact ih
    | some d => simp only [putE, List.length_set]; exact ih
theorem enA_get {recs : List Rc} (h : ∀ (j : Nat) (r : Rc), recs[j]? = some r → r.env = enA recs env j) (hdi : distinctB (recs.map (·.o)) = true) {t : Nat} (ht : t < env.length) : ∀ i, i ≤ recs.length →
    ((∀ (j : Nat) (r : Rc), j < i → recs[j]? = some r → r.o.dst ≠ some t) → (enA recs env i).getD t .any = env.getD t .any) ∧ (∀ (j : Nat) (r : Rc), j < i → recs[j]? = some r → r.o.dst = some t → (enA recs env i).getD t .any = r.a)
  | 0, _ => ⟨fun _ => rfl, fun j r hj => by omega⟩
  | i + 1, hi => by
    have hlt : i < recs.length := by omega
    have hr := List.getElem?_eq_getElem hlt
    have e : enA recs env (i + 1) = putE (enA recs env i) recs[i].o.dst recs[i].a := by
      show (match recs[i]? with | some r => putE r.env r.o.dst r.a | none => env) = _
      rw [hr]
      simp only
      rw [h i _ hr]
    obtain ⟨ih1, ih2⟩ := enA_get h hdi ht i (by omega)
    have hl := enA_len h i (by omega)
    by_cases hd : recs[i].o.dst = some t
    · have hv : (enA recs env (i + 1)).getD t .any = recs[i].a := by
        rw [e, hd]
        simp only [putE, List.getD_eq_getElem?_getD]
        rw [List.getElem?_set_self (by rw [hl]; exact ht)]
        rfl
      refine ⟨fun hn => absurd hd (hn i _ (by omega) hr), fun j r hj hjr hjd => ?_⟩
      have : j = i := distinct_get hdi (by rw [List.getElem?_map, hjr]; rfl) (by rw [List.getElem?_map, hr]; rfl) hjd hd
      subst this
      rw [hr] at hjr
      cases hjr
      exact hv
    · have hv : (enA recs env (i + 1)).getD t .any = (enA recs env i).getD t .any := by
        rw [e]
        cases hq : recs[i].o.dst with
        | none => rfl
        | some d =>
          simp only [putE, List.getD_eq_getElem?_getD]
          rw [List.getElem?_set_ne (fun e => hd (by rw [hq, e]))]
      rw [hv]
      refine ⟨fun hn => ih1 (fun j r hj => hn j r (by omega)), fun j r hj hjr hjd => ?_⟩
      by_cases e' : j = i
      · subst e'
        rw [hr] at hjr
        cases hjr
        exact absurd hjd hd
      · exact ih2 j r (by omega) hjr hjd

theorem allOpsV_of {l : List Oper} {R : Nat → Value → World → Prop} {St : (Nat → Bool) → World → World → Prop} {W : (Nat → Bool) → (Operand → Value) → World → Prop} {ρ0 : Operand → Value} (h : ∀ (i : Nat) (o : Oper), l[i]? = some o → OpStepV P l R St W ρ0 i o) : ∀ (r : List Oper) (k : Nat), (∀ (j : Nat) o, r[j]? = some o → l[k + j]? = some o) → AllOpsV P l R St W ρ0 k r
  | [], _, _ => trivial
  | o :: r, k, hr => ⟨h k o (by simpa using hr 0 o rfl), allOpsV_of h r (k + 1) (fun j o' hj => by rw [show k + 1 + j = k + (j + 1) by omega]; exact hr (j + 1) o' (by simpa using hj))⟩

/-- The objects where op i comes up, in whatever order: as the text has them, or as an earlier one of the turning operations had them. -/
theorem posH_at {all : List Oper} {N : Nat} {recs : List Rc} {h : List AObj} {L : Nat → Bool} (hok : ∀ r ∈ recs, RcOk P all r) (hat : ∀ (j : Nat) (r : Rc), recs[j]? = some r → r.H = hpA recs H j) (hidx : ∀ (j : Nat) (r : Rc), recs[j]? = some r → r.i = j) (hpos : PosH recs H L h) (hc : ∀ j k, L j = true → depOn all j k = true → L k = true) {i : Nat} {r : Rc} (hr : recs[i]? = some r) (hLi : L i = false) (hd : ∀ k, depOn all i k = true → L k = true)
    (hpair : ∀ (j k : Nat) (a b : Rc), recs[j]? = some a → recs[k]? = some b → j < k → Pairs P all N a b) : (r.kd = .eff → h = r.H ∧ ∀ (k : Nat) (s : Rc), recs[k]? = some s → s.kd = .eff → L k = true → k ≤ i) ∧ (r.kd = .val → opA P r.H (evA r.env) r.o = some (.val r.a r.H) → opA P h (evA r.env) r.o = some (.val r.a h)) := by
  have hi := (List.getElem?_eq_some_iff.1 hr).1
  have hrH := hat i r hr
  -- from place a on, where the objects are h and no turning operation before a is left out
  have from_ : ∀ a, a ≤ i → hpA recs H a = h → (∀ (k : Nat) (s : Rc), recs[k]? = some s → s.kd = .eff → a ≤ k → L k = false) → (r.kd = .eff → h = r.H) ∧ (r.kd = .val → opA P r.H (evA r.env) r.o = some (.val r.a r.H) → opA P h (evA r.env) r.o = some (.val r.a h)) := by
    intro a ha hh hno
    rcases hp_between hok hat a (i - a) (by omega) with h1 | ⟨q, t, q1, q2, q3, q4, q5⟩
    · rw [show a + (i - a) = i by omega] at h1
      refine ⟨fun _ => by rw [hrH, h1, hh], fun _ ho => ?_⟩
      rw [hrH, h1, hh] at ho
      exact ho
    · have hp := hpair q i t r q3 hr (by omega)
      have hLq := hno q t q3 q4 q1
      have hdq : depF all N r.i t.i = true → False := by
        intro hdep
        rw [hidx i r hr, hidx q t q3] at hdep
        have := (depF_sound _ _ _ hdep).of_deps hc hd
        rw [hLq] at this
        cases this
      refine ⟨fun hk => (hdq (hp.ee q4 hk)).elim, fun hk _ => ?_⟩
      rcases hp.ev q4 hk with hdep | ho
      · exact (hdq hdep).elim
      · rw [q5, hh] at ho
        exact ho
  rcases hpos with ⟨k, s, k1, k2, k3, k4, k5⟩ | ⟨k1, k2⟩
  · have hne : k ≠ i := fun e => by subst e; rw [hLi] at k3; cases k3
    by_cases hki : k < i
    · have hh : hpA recs H (k + 1) = h := by
        rw [k5]
        show (match recs[k]? with | some r => r.H' | none => H) = _
        rw [k1]
      obtain ⟨f1, f2⟩ := from_ (k + 1) (by omega) hh (fun k' s' e1 e2 e3 => by
        cases hq : L k' with
        | false => rfl
        | true => exact absurd (k4 k' s' e1 e2 hq) (by omega))
      exact ⟨fun hk => ⟨f1 hk, fun k' s' e1 e2 e3 => by have := k4 k' s' e1 e2 e3; omega⟩, f2⟩
    · have hp := hpair i k r s hr k1 (by omega)
      have hdi : depF all N s.i r.i = true → False := by
        intro hdep
        rw [hidx k s k1, hidx i r hr] at hdep
        have := (depF_sound _ _ _ hdep).in_ hc k3
        rw [hLi] at this
        cases this
      refine ⟨fun hk => (hdi (hp.ee hk k2)).elim, fun hk _ => ?_⟩
      rcases hp.ve hk k2 with hdep | ho
      · exact (hdi hdep).elim
      · rw [k5]; exact ho
  · obtain ⟨f1, f2⟩ := from_ 0 (Nat.zero_le _) k2.symm (fun k s e1 e2 _ => k1 k s e1 e2)
    refine ⟨fun hk => ⟨f1 hk, fun k s e1 e2 e3 => ?_⟩, f2⟩
    rw [k1 k s e1 e2] at e3
    cases e3

theorem PW.regionD {Q : Exit → Env → List AObj → Prop} {id : Nat} {l : List Oper} (N : Nat) (hm : P.follows .mixedOrders = true) (hac : acycB 0 l = true) (hdi : distinctB l = true) (hst : statOk l = true) (hdst : (l.all fun o => match o.dst with | some d => decide (d < env.length) | none => true) = true)
    (h : dops P l N 0 l (Q .normal) [] [] env H) : PW P B (.region id l.toArray true) Q env H := by
  rintro a w ⟨β, hr, her, hb, hdf⟩
  obtain ⟨recs, env', H', r1, r2, r3, r4, -, r6, r7⟩ := dops_recs l 0 [] [] [] env H (fun r hr => by cases hr) (fun r hr => by cases hr) h
  obtain ⟨c1, c2, c3⟩ := r3.at_
  have hlen : recs.length = l.length := by rw [← r1, List.length_map]
  have hat : ∀ (j : Nat) (r : Rc), recs[j]? = some r → r.H = hpA recs H j := fun j r hj => (c1 j r hj).1
  have hen : ∀ (j : Nat) (r : Rc), recs[j]? = some r → r.env = enA recs env j := fun j r hj => (c1 j r hj).2
  have hidx : ∀ (j : Nat) (r : Rc), recs[j]? = some r → r.i = j := fun j r hj => by rw [r2 j r hj]; omega
  have hdi' : distinctB (recs.map (·.o)) = true := by rw [r1]; exact hdi
  have hopr : ∀ (j : Nat) (r : Rc), recs[j]? = some r → l[j]? = some r.o := fun j r hj => by rw [← r1, List.getElem?_map, hj]; rfl
  have hpair : ∀ (j k : Nat) (x y : Rc), recs[j]? = some x → recs[k]? = some y → j < k → Pairs P l N x y := by
    intro j k x y hj hk hjk
    obtain ⟨l1, rfl⟩ := List.getElem?_eq_some_iff.1 hj
    obtain ⟨l2, rfl⟩ := List.getElem?_eq_some_iff.1 hk
    exact List.pairwise_iff_getElem.1 r6 j k l1 l2 hjk
  have hdl : ∀ (j : Nat) (r : Rc) (d : Nat), recs[j]? = some r → r.o.dst = some d → d < env.length := by
    intro j r d hj hd
    have := List.all_eq_true.1 hdst r.o (List.mem_of_getElem? (hopr j r hj))
    rw [hd] at this
    simpa using this
  let Wd : (Nat → Bool) → (Operand → Value) → World → Prop := fun L ρ w' => ∃ β' h, PosH recs H L h ∧ Rep B.F β' h w' ∧ Ext β H w β' h w' ∧ (∀ (j : Nat) (r : Rc) (d : Nat), recs[j]? = some r → L j = true → r.o.dst = some d → V B.F β' h w' r.a (ρ (.tmp d))) ∧ ∀ t, (∀ (j : Nat) (r : Rc), recs[j]? = some r → r.o.dst = some t → L j = false) → ρ (.tmp t) = a.eval (.tmp t)
  have drew : Rep B.F β H w.drew ∧ Ext β H w β H w.drew := ⟨hr.upd ((Upd.refl _ w).drew), Ext.of_upd ((Upd.refl _ w).drew) hr⟩
  refine wp_region_rgvB (fun _ _ _ => True) (fun _ _ _ => True) Wd hm hac hdi ?_ (fun _ _ => trivial) (fun _ _ _ _ _ _ _ _ => trivial) ?_ ?_ ?_
  · rw [her.1] at hdst; exact hdst
  · exact ⟨β, H, .inr ⟨fun _ _ _ _ => rfl, rfl⟩, drew.1, drew.2, (fun j r d _ h => by cases h), fun t _ => rfl⟩
  · refine allOpsV_of (fun i o ho => ?_) l 0 (fun j o h => by simpa using h)
    intro ρ w1 L hW hLi hcl hd _ hext hcst hglob hfn
    obtain ⟨β1, h1, hpos, p1, p2, p3, p4⟩ := hW
    have hi : i < recs.length := by rw [hlen]; exact (List.getElem?_eq_some_iff.1 ho).1
    obtain ⟨r, hri⟩ : ∃ r, recs[i]? = some r := ⟨_, List.getElem?_eq_getElem hi⟩
    obtain rfl : r.o = o := by have := hopr i r hri; rw [ho] at this; exact (Option.some.inj this).symm
    have hk := r4 r (List.mem_of_getElem? hri)
    obtain ⟨pe, pv'⟩ := posH_at r4 hat hidx hpos hcl hri hLi hd hpair
    have dep_lt : ∀ {j k : Nat}, depOn l j k = true → k < j := by
      intro j k hjk
      unfold depOn at hjk
      split at hjk
      · cases hjk
      · rename_i oj hoj
        rw [Array.any_eq_true'] at hjk
        obtain ⟨e, he, hjk⟩ := hjk
        simp only [Bool.and_eq_true, beq_iff_eq] at hjk
        have := acycB_get hac hoj e he hjk.2
        omega
    have hs := List.all_eq_true.1 hst i (List.mem_range.2 (by omega))
    rw [hopr i r hri] at hs
    simp only [Bool.and_eq_true] at hs
    have opnd : ∀ x ∈ r.o.op.operands.toList, V B.F β1 h1 w1 (evA r.env x) (ρ x) := by
      intro x hx
      cases x with
      | const v => rw [hcst]; exact V.fromV v
      | global g => exact .any _
      | func f => rw [hfn]; exact VR.fn (cs := []) (vs := []) rfl (fun i a v h => by simp at h)
      | tmp t =>
        simp only [evA]
        by_cases htl : t < env.length
        · obtain ⟨g1, g2⟩ := enA_get hen hdi' htl i (by omega)
          rw [hen i r hri]
          have hq := List.all_eq_true.1 hs.1 t (List.mem_filterMap.2 ⟨_, hx, rfl⟩)
          simp only [Bool.or_eq_true, List.any_eq_true, List.mem_range, Bool.and_eq_true] at hq
          rcases hq with he | ⟨j, hji, hdj, hwj⟩
          · have he' := hext t he
            rw [he', g1 (fun j r' hj hr' hd' => ?_)]
            · exact (her.eval (a := a) (.tmp t)).ext p2
            · have hdep := extFrom_get he (j := j) (hopr j r' hr') hd'
              have := dep_lt hdep
              omega
          · obtain ⟨rj, hrj⟩ : ∃ rj, recs[j]? = some rj := ⟨_, List.getElem?_eq_getElem (by omega)⟩
            rw [hopr j rj hrj] at hwj
            simp only [beq_iff_eq] at hwj
            rw [g2 j rj hji hrj hwj]
            exact p3 j rj t hrj (hd j hdj) hwj
        · have : r.env.length = env.length := by rw [hen i r hri]; exact enA_len hen _ (by omega)
          rw [List.getD_eq_getElem?_getD, List.getElem?_eq_none (show r.env.length ≤ t by rw [this]; exact Nat.le_of_not_lt htl)]
          exact .any _
    have guardA : ∀ g b d, r.o.guard = some (g, b) → (l[g]?).bind (·.dst) = some d → V B.F β1 h1 w1 (r.env.getD d .any) (ρ (.tmp d)) := by
      intro g b d hg hd'
      have hs2 := hs.2
      rw [hg] at hs2
      simp only [Bool.and_eq_true, decide_eq_true_eq] at hs2
      obtain ⟨rg, hrg⟩ : ∃ rg, recs[g]? = some rg := ⟨_, List.getElem?_eq_getElem (by omega)⟩
      have hdg : rg.o.dst = some d := by
        rw [hopr g rg hrg] at hd'
        exact hd'
      have hdl' := hdl g rg d hrg hdg
      obtain ⟨-, g2⟩ := enA_get hen hdi' hdl' i (by omega)
      rw [hen i r hri, g2 g rg hs2.1 hrg hdg]
      exact p3 g rg d hrg (hd g hs2.2) hdg
    have guardV : ∀ g b d x, r.o.guard = some (g, b) → (l[g]?).bind (·.dst) = some d → r.env.getD d .any = .c (.bool x) → wantedR l r.o ρ = (x == b) := by
      intro g b d x hg hd' hx
      have hv := guardA g b d hg hd'
      rw [hx] at hv
      have hb' : ρ (.tmp d) = .bool x := by
        generalize ρ (.tmp d) = u at hv
        cases hv with
        | leaf h => exact h.elim
        | c h => rfl
      unfold wantedR
      rw [hg]
      simp only
      rw [hd']
      simp only
      rw [hb']
    have guardU : ∀ g b d, r.o.guard = some (g, b) → (l[g]?).bind (·.dst) = some d → r.env.getD d .any = .tup [] → wantedR l r.o ρ = false := by
      intro g b d hg hd' hx
      have hv := guardA g b d hg hd'
      rw [hx] at hv
      have hb' := hv.undef_
      unfold wantedR
      rw [hg]
      simp only
      rw [hd']
      simp only
      rw [hb']
    have wn : Wn l r → wantedR l r.o ρ = true := by
      intro hw
      cases hg : r.o.guard with
      | none => unfold wantedR; rw [hg]
      | some p =>
        obtain ⟨g, b⟩ := p
        obtain ⟨d, hd', hx⟩ := hw g b hg
        rw [guardV g b d b hg hd' hx]
        simp
    have nextW : ∀ {v : Value} {w2 : World} {β2 : Loc} {h2 : List AObj}, PosH recs H (fun j => j == i || L j) h2 → Rep B.F β2 h2 w2 → Ext β1 h1 w1 β2 h2 w2 → V B.F β2 h2 w2 r.a v → ∀ ρ' : Operand → Value, (∀ t, r.o.dst ≠ some t → ρ' (.tmp t) = ρ (.tmp t)) → (∀ d, r.o.dst = some d → ρ' (.tmp d) = v) → Wd (fun j => j == i || L j) ρ' w2 := by
      intro v w2 β2 h2 q1 q2 q3 q4 ρ' q5 q6
      refine ⟨β2, h2, q1, q2, p2.trans q3, fun j rj d hj hL hd' => ?_, fun t ht => ?_⟩
      · by_cases e : j = i
        · subst e
          rw [hri] at hj
          cases hj
          rw [q6 d hd']
          exact q4
        · have hLj : L j = true := by simpa [e] using hL
          rw [q5 d (fun hd2 => e (distinct_get hdi (hopr j rj hj) (hopr i r hri) hd' hd2))]
          exact (p3 j rj d hj hLj hd').ext q3
      · have h1 : r.o.dst ≠ some t := fun e => by
          have := ht i r hri e
          simp at this
        rw [q5 t h1]
        refine p4 t (fun j rj hj hd' => ?_)
        have := ht j rj hj hd'
        simp only [Bool.or_eq_false_iff] at this
        exact this.2
    have posKeep : r.kd ≠ .eff → PosH recs H (fun j => j == i || L j) h1 := by
      intro hne
      have back : ∀ (k : Nat) (s : Rc), recs[k]? = some s → s.kd = .eff → (k == i || L k) = true → L k = true := by
        intro k s e1 e2 e3
        by_cases e : k = i
        · subst e; rw [hri] at e1; cases e1; exact absurd e2 hne
        · simpa [e] using e3
      rcases hpos with ⟨k, s, k1, k2, k3, k4, k5⟩ | ⟨k1, k2⟩
      · exact .inl ⟨k, s, k1, k2, by simp [k3], fun k' s' e1 e2 e3 => k4 k' s' e1 e2 (back k' s' e1 e2 e3), k5⟩
      · refine .inr ⟨fun k s e1 e2 => ?_, k2⟩
        cases hq : (k == i || L k) with
        | false => exact hq
        | true => have := back k s e1 e2 hq; rw [k1 k s e1 e2] at this; cases this
    have hVA : ∀ x, V B.F β1 h1 w1 ((fun x => open Classical in if x ∈ r.o.op.operands.toList then evA r.env x else .any) x) (ρ x) := by
      intro x
      simp only
      split
      · exact opnd x (by assumption)
      · exact .any _
    have hcon : ∀ hh, opA P hh (fun x => open Classical in if x ∈ r.o.op.operands.toList then evA r.env x else .any) r.o = opA P hh (evA r.env) r.o := fun hh => opA_congr (fun x hx => if_pos hx)
    cases hkd : r.kd with
    | skip =>
      unfold RcOk at hk
      rw [hkd] at hk
      obtain ⟨⟨g, b, d, hg, hd', hx⟩, ha, -⟩ := hk
      have hwt : ¬ wantedR l r.o ρ = true := by
        rcases hx with ⟨x, hx, hn⟩ | hx
        · rw [guardV g b d x hg hd' hx]
          simpa using hn
        · rw [guardU g b d hg hd' hx]
          decide
      rw [if_neg hwt]
      exact ⟨trivial, nextW (posKeep (by rw [hkd]; simp)) p1 (Ext.refl _ _ _) (by rw [ha]; exact VR.undef)⟩
    | val =>
      unfold RcOk at hk
      rw [hkd] at hk
      obtain ⟨hw, hop, -⟩ := hk
      rw [if_pos (wn hw)]
      have hop' := pv' hkd hop
      rw [← hcon] at hop'
      obtain ⟨v, w2, β2, hrun, s1, s2, s3⟩ := op_ok (P := P) p1 hVA hop'
      have fin := nextW (v := v) (posKeep (by rw [hkd]; simp)) s1 s2 s3
      unfold OpDone
      rcases hrun with hrun | ⟨hrun, rfl⟩
      · rw [hrun]; exact ⟨trivial, trivial, fin⟩
      · rw [hrun]; exact ⟨trivial, trivial, fin⟩
    | eff =>
      unfold RcOk at hk
      rw [hkd] at hk
      obtain ⟨hw, hop⟩ := hk
      rw [if_pos (wn hw)]
      obtain ⟨e1, e2⟩ := pe hkd
      have hpos' : PosH recs H (fun j => j == i || L j) r.H' := by
        refine .inl ⟨i, r, hri, hkd, by simp, fun k' s' f1 f2 f3 => ?_, rfl⟩
        by_cases e : k' = i
        · omega
        · exact e2 k' s' f1 f2 (by simpa [e] using f3)
      rcases hop with hop | ⟨f, args, hop, hcall⟩
      · have hop' : opA P h1 (evA r.env) r.o = some (.val r.a r.H') := by rw [e1]; exact hop
        rw [← hcon] at hop'
        obtain ⟨v, w2, β2, hrun, s1, s2, s3⟩ := op_ok (P := P) p1 hVA hop'
        have fin := nextW (v := v) hpos' s1 s2 s3
        unfold OpDone
        rcases hrun with hrun | ⟨hrun, rfl⟩
        · rw [hrun]; exact ⟨trivial, trivial, fin⟩
        · rw [hrun]; exact ⟨trivial, trivial, fin⟩
      · have hop' : opA P h1 (evA r.env) r.o = some (.call f args) := by rw [e1]; exact hop
        rw [← hcon] at hop'
        obtain ⟨us, hrun, s1, s2⟩ := op_ok (P := P) p1 hVA hop'
        rw [← e1] at hcall
        unfold OpDone
        rcases hrun.cases_ (hcall B.F β1 w1 us p1 ⟨s1, s2⟩) with ⟨hrun, hcs⟩ | ⟨v0, w2, hrun, hp⟩
        case inr =>
          rw [hrun]
          obtain ⟨x, h2, β2, v, q1, ⟨q2, q3⟩, q4, q5, q6⟩ := hp
          cases q1
          subst q2
          subst q3
          exact ⟨trivial, trivial, nextW hpos' q4 q5 q6⟩
        rw [hrun]
        refine Calls.mono hcs (fun e w2 ⟨x, h2, β2, v, q1, ⟨q2, q3⟩, q4, q5, q6⟩ => ?_)
        subst q2
        subst q3
        exact ⟨v, q1, trivial, trivial, nextW hpos' q4 q5 q6⟩
    | call =>
      unfold RcOk at hk
      rw [hkd] at hk
      obtain ⟨hw, ⟨f, args, hop, hcall⟩, -⟩ := hk
      rw [if_pos (wn hw)]
      have hop' := opA_call hop h1
      rw [← hcon] at hop'
      obtain ⟨us, hrun, s1, s2⟩ := op_ok (P := P) p1 hVA hop'
      unfold OpDone
      rcases hrun.cases_ (hcall h1 B.F β1 w1 us p1 ⟨s1, s2⟩) with ⟨hrun, hcs⟩ | ⟨v0, w2, hrun, hp⟩
      case inr =>
        rw [hrun]
        obtain ⟨x, h2, β2, v, q1, ⟨q2, q3⟩, q4, q5, q6⟩ := hp
        cases q1
        subst q2
        subst q3
        exact ⟨trivial, trivial, nextW (posKeep (by rw [hkd]; simp)) q4 q5 q6⟩
      rw [hrun]
      refine Calls.mono hcs (fun e w2 ⟨x, h2, β2, v, q1, ⟨q2, q3⟩, q4, q5, q6⟩ => ?_)
      subst q2
      subst q3
      exact ⟨v, q1, trivial, trivial, nextW (posKeep (by rw [hkd]; simp)) q4 q5 q6⟩
  · intro vs w1 L hall hW _
    obtain ⟨β1, h1, hpos, p1, p2, p3, p4⟩ := hW
    have hh : h1 = hpA recs H recs.length := by
      have fin : ∀ a, a ≤ recs.length → hpA recs H a = h1 → (∀ (k : Nat) (s : Rc), recs[k]? = some s → s.kd = .eff → ¬ a ≤ k) → h1 = hpA recs H recs.length := by
        intro a ha e hno
        rcases hp_between r4 hat a (recs.length - a) (by omega) with h | ⟨q, t, q1, q2, q3, q4, -⟩
        · rw [show a + (recs.length - a) = recs.length by omega] at h
          rw [h, e]
        · exact absurd q1 (hno q t q3 q4)
      rcases hpos with ⟨k, s, k1, k2, k3, k4, k5⟩ | ⟨k1, k2⟩
      · refine fin (k + 1) (by have := (List.getElem?_eq_some_iff.1 k1).1; omega) ?_ (fun k' s' e1 e2 => ?_)
        · rw [k5]
          show (match recs[k]? with | some r => r.H' | none => H) = _
          rw [k1]
        · have := k4 k' s' e1 e2 (hall k' (by rw [← hlen]; exact (List.getElem?_eq_some_iff.1 e1).1))
          omega
      · refine fin 0 (Nat.zero_le _) k2.symm (fun k s e1 e2 _ => ?_)
        have := k1 k s e1 e2
        rw [hall k (by rw [← hlen]; exact (List.getElem?_eq_some_iff.1 e1).1)] at this
        cases this
    refine ⟨env', H', r7, β1, by rw [c2, ← hh]; exact p1, ⟨?_, fun t x v hx hv => ?_⟩, by rw [c2, ← hh]; exact hb.trans p2, by rw [putAll_defers]; exact hdf⟩
    · rw [c3, enA_len hen _ (Nat.le_refl _), her.1, putAll_size]
    · rw [c2, ← hh]
      have ht : t < env.length := by
        have := (List.getElem?_eq_some_iff.1 hx).1
        rwa [c3, enA_len hen _ (Nat.le_refl _)] at this
      obtain ⟨g1, g2⟩ := enA_get hen hdi' ht recs.length (Nat.le_refl _)
      have hxe : (enA recs env recs.length).getD t .any = x := by rw [← c3, List.getD_eq_getElem?_getD, hx]; rfl
      have hve : (putAll l vs 0 a).eval (.tmp t) = v := by simp only [Act.eval, Array.getD_eq_getD_getElem?, hv]; rfl
      by_cases hw : ∃ (j : Nat) (r : Rc), recs[j]? = some r ∧ r.o.dst = some t
      · obtain ⟨j, r, hj, hjd⟩ := hw
        have hjl := (List.getElem?_eq_some_iff.1 hj).1
        have := p3 j r t hj (hall j (by omega)) hjd
        rw [hve, ← g2 j r hjl hj hjd, hxe] at this
        exact this
      · have hn : ∀ (j : Nat) (r : Rc), recs[j]? = some r → r.o.dst ≠ some t := fun j r hj hd => hw ⟨j, r, hj, hd⟩
        have e1 := g1 (fun j r _ hj => hn j r hj)
        rw [hxe] at e1
        have e2 := p4 t (fun j r hj hd => absurd hd (hn j r hj))
        rw [hve] at e2
        have := her.eval (a := a) (.tmp t)
        rw [e1, e2]
        exact this.ext p2
end
end
end Go.Proofs.YthknobbilcolnaaGreat
