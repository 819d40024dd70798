/- A region, in whatever order its operations come up: one goal for each operation, and one for what stands behind it. No condition. What a piece of code does, on abstract values: weakest preconditions of regions, code and calls over lists of slots and objects. No condition. The rule of text Rg with a relation of worlds that looks at the operations that have run. No condition. The rule of text Rgl with a predicate of the world that looks at the slots too. No condition. The rule of text Rgl where an edge that does not bind may point forward. No condition. -/
import Derived.Orders
import Derived.Below
import Derived.Deep.Draws
import Derived.Test.YthknobbilcolnaaGreatJn6
import Derived.LoopN
import Derived.Scope
namespace Go.Proofs.YthknobbilcolnaaGreat
section
open Go.RowKit

/-- Operation o, its operands read by ρ, runs to its end and leaves a value and a world that 'post' holds of. -/
def OpDone (P : Program) (o : Oper) (ρ : Operand → Value) (w : World) (post : Value → World → Prop) : Prop :=
  match (execOp ρ o).run P w with
  | .ok (.value v) w' => post v w'
  | .ok .skip w' => post undef w'
  | .ok (.enter f args) w' => Calls P f args w' fun e w'' => ∃ v, e = .returned v ∧ post v w''
  | _ => False

theorem OpDone.wp {P : Program} {o : Oper} {a : Act} {w : World} {post : Value → World → Prop} {K : Act → World → Prop} {Q : Exit → Act → World → Prop} (h : OpDone P o a.eval w post) (hk : ∀ v w', post v w' → K (a.put o.dst v) w') : o.wp P a w K Q := by
  unfold OpDone at h
  unfold Oper.wp
  generalize (execOp a.eval o).run P w = r at *
  cases r with
  | ok n w' =>
    cases n with
    | value v => exact hk _ _ h
    | skip => exact hk _ _ h
    | enter f args => exact Calls.mono h (fun e w'' ⟨v, he, hp⟩ => by subst he; exact hk _ _ hp)
    | _ => exact h.elim
  | halt x w' => exact h.elim

theorem OpDone.mono {P : Program} {o : Oper} {ρ : Operand → Value} {w : World} {post post' : Value → World → Prop} (h : OpDone P o ρ w post) (hp : ∀ v w', post v w' → post' v w') : OpDone P o ρ w post' := by
  unfold OpDone at *
  generalize (execOp ρ o).run P w = r at *
  cases r with
  | ok n w' =>
    cases n with
    | value v => exact hp _ _ h
    | skip => exact hp _ _ h
    | enter f args => exact Calls.mono h (fun e w'' ⟨v, he, hq⟩ => ⟨v, he, hp _ _ hq⟩)
    | _ => exact h.elim
  | halt x w' => exact h.elim

/-- Op i waits for op j. -/
def depOn (l : List Oper) (i j : Nat) : Bool := match l[i]? with | none => false | some o => o.after.any fun e => e.on == j && Region.binds .any e
/-- Whoever writes slot t waits for op i. -/
def extFrom (l : List Oper) (i t : Nat) : Nat → List Oper → Bool
  | _, [] => true
  | j, o :: r => (o.dst != some t || depOn l j i) && extFrom l i t (j + 1) r
def extOk (l : List Oper) (i t : Nat) : Bool := extFrom l i t 0 l
def acycFrom : Nat → List Oper → Bool
  | _, [] => true
  | k, o :: l => o.after.all (fun e => decide (e.on < k)) && acycFrom (k + 1) l
def distinctB : List Oper → Bool
  | [] => true
  | o :: l => (match o.dst with | none => true | some d => l.all fun p => p.dst != some d) && distinctB l
def slotV (ρ : Operand → Value) (o : Oper) : Value := match o.dst with | some d => ρ (.tmp d) | none => undef
def leftV (o : Oper) (v : Value) : Value := match o.dst with | some _ => v | none => undef
def wantedR (l : List Oper) (o : Oper) (ρ : Operand → Value) : Bool := match o.guard with
  | none => true
  | some (g, b) => match (l[g]?).bind (·.dst) with
    | none => false
    | some d => match ρ (.tmp d) with | .bool c => c == b | _ => false
/-- What op number i is owed: L says which operations have run; W what the world is like then. -/
def OpStep (P : Program) (l : List Oper) (R : Nat → Value → World → Prop) (St : World → World → Prop) (W : (Nat → Bool) → World → Prop) (ρ0 : Operand → Value) (i : Nat) (o : Oper) : Prop :=
  ∀ (ρ : Operand → Value) (w : World) (L : Nat → Bool), W L w → L i = false → (∀ j k, L j = true → depOn l j k = true → L k = true) → (∀ k, depOn l i k = true → L k = true) → (∀ j oj, l[j]? = some oj → depOn l i j = true → R j (slotV ρ oj) w) → (∀ t, extOk l i t = true → ρ (.tmp t) = ρ0 (.tmp t)) → (∀ v, ρ (.const v) = v) → (∀ g, ρ (.global g) = .pointer (some ⟨g, 0, none⟩)) → (∀ f, ρ (.func f) = .func (.func f) #[] #[]) →
    if wantedR l o ρ = true then OpDone P o ρ w (fun v w' => R i (leftV o v) w' ∧ St w w' ∧ W (fun j => j == i || L j) w') else R i undef w ∧ W (fun j => j == i || L j) w
theorem OpStep.plain {P : Program} {l : List Oper} {R : Nat → Value → World → Prop} {St : World → World → Prop} {w0 : World} {ρ0 : Operand → Value} {i : Nat} {o : Oper} (st_trans : ∀ {x y z}, St x y → St y z → St x z) (hg : o.guard = none)
    (h : ∀ (ρ : Operand → Value) (w : World), St w0 w → (∀ j oj, l[j]? = some oj → depOn l i j = true → R j (slotV ρ oj) w) → (∀ t, extOk l i t = true → ρ (.tmp t) = ρ0 (.tmp t)) → (∀ v, ρ (.const v) = v) → (∀ g, ρ (.global g) = .pointer (some ⟨g, 0, none⟩)) → (∀ f, ρ (.func f) = .func (.func f) #[] #[]) → OpDone P o ρ w (fun v w' => R i (leftV o v) w' ∧ St w w')) : OpStep P l R St (fun _ w => St w0 w) ρ0 i o := by
  intro ρ w L h1 _ _ _ h2 h3 h4 h5 h6
  rw [if_pos (by unfold wantedR; rw [hg])]
  exact (h ρ w h1 h2 h3 h4 h5 h6).mono (fun v w' ⟨a, b⟩ => ⟨a, b, st_trans h1 b⟩)
def AllOps (P : Program) (l : List Oper) (R : Nat → Value → World → Prop) (St : World → World → Prop) (W : (Nat → Bool) → World → Prop) (ρ0 : Operand → Value) : Nat → List Oper → Prop
  | _, [] => True
  | i, o :: r => OpStep P l R St W ρ0 i o ∧ AllOps P l R St W ρ0 (i + 1) r
def putAll : List Oper → (Nat → Value) → Nat → Act → Act
  | [], _, _, a => a
  | o :: l, vs, k, a => putAll l vs (k + 1) (a.put o.dst (vs k))

section
variable {P : Program} {l : List Oper} {R : Nat → Value → World → Prop} {St : World → World → Prop} {W : (Nat → Bool) → World → Prop} {a0 : Act}

theorem AllOps.get {ρ0 : Operand → Value} : ∀ {r : List Oper} {k : Nat}, AllOps P l R St W ρ0 k r → ∀ {i : Nat} {o : Oper}, r[i]? = some o → OpStep P l R St W ρ0 (k + i) o
  | [], _, _, i, o, h => by cases h
  | x :: r, k, h, 0, o, hi => by
    simp at hi
    subst hi
    exact h.1
  | x :: r, k, h, i + 1, o, hi => by
    have := AllOps.get h.2 (i := i) (o := o) (by simpa using hi)
    rw [show k + (i + 1) = k + 1 + i by omega]
    exact this
theorem extFrom_get {i t : Nat} : ∀ {r : List Oper} {k : Nat}, extFrom l i t k r = true → ∀ {j : Nat} {o : Oper}, r[j]? = some o → o.dst = some t → depOn l (k + j) i = true
  | [], _, _, j, o, h, _ => by cases h
  | x :: r, k, h, 0, o, hi, hd => by
    simp at hi
    subst hi
    simp only [extFrom, Bool.and_eq_true, Bool.or_eq_true] at h
    rcases h.1 with e | e
    · rw [hd] at e; simp at e
    · exact e
  | x :: r, k, h, j + 1, o, hi, hd => by
    simp only [extFrom, Bool.and_eq_true] at h
    have := extFrom_get h.2 (j := j) (o := o) (by simpa using hi) hd
    rw [show k + (j + 1) = k + 1 + j by omega]
    exact this
theorem acyc_get : ∀ {r : List Oper} {k : Nat}, acycFrom k r = true → ∀ {i : Nat} {o : Oper}, r[i]? = some o → ∀ e ∈ o.after, e.on < k + i
  | [], _, _, i, o, h => by cases h
  | x :: r, k, h, 0, o, hi => by
    simp at hi
    subst hi
    simp only [acycFrom, Bool.and_eq_true] at h
    intro e he
    have := Array.all_eq_true_iff_forall_mem.1 h.1 e he
    simpa using this
  | x :: r, k, h, i + 1, o, hi => by
    simp only [acycFrom, Bool.and_eq_true] at h
    intro e he
    have := acyc_get h.2 (i := i) (o := o) (by simpa using hi) e he
    omega
theorem distinct_get : ∀ {r : List Oper}, distinctB r = true → ∀ {i j : Nat} {x y : Oper} {d : Nat}, r[i]? = some x → r[j]? = some y → x.dst = some d → y.dst = some d → i = j
  | [], _, i, j, x, y, d, h, _, _, _ => by cases h
  | o :: r, h, 0, 0, x, y, d, _, _, _, _ => rfl
  | o :: r, h, 0, j + 1, x, y, d, hx, hy, dx, dy => by
    simp at hx
    subst hx
    simp only [distinctB, dx, Bool.and_eq_true, List.all_eq_true] at h
    have := h.1 y (List.mem_of_getElem? (by simpa using hy))
    rw [dy] at this
    simp at this
  | o :: r, h, i + 1, 0, x, y, d, hx, hy, dx, dy => by
    simp at hy
    subst hy
    simp only [distinctB, dy, Bool.and_eq_true, List.all_eq_true] at h
    have := h.1 x (List.mem_of_getElem? (by simpa using hx))
    rw [dx] at this
    simp at this
  | o :: r, h, i + 1, j + 1, x, y, d, hx, hy, dx, dy => by
    simp only [distinctB, Bool.and_eq_true] at h
    have := distinct_get h.2 (i := i) (j := j) (x := x) (y := y) (by simpa using hx) (by simpa using hy) dx dy
    omega
theorem put_size (a : Act) (d : Option Tmp) (v : Value) : (a.put d v).tmps.size = a.tmps.size := by cases d <;> simp [Act.put]
theorem put_defers (a : Act) (d : Option Tmp) (v : Value) : (a.put d v).defers = a.defers := by cases d <;> rfl
theorem put_get_ne (a : Act) {d : Option Tmp} {v : Value} {t : Nat} (h : d ≠ some t) : (a.put d v).tmps[t]? = a.tmps[t]? := by
  cases d with
  | none => rfl
  | some d => simp [Act.put, Array.getElem?_setIfInBounds_ne (show d ≠ t from fun e => h (by rw [e]))]
theorem put_get_same (a : Act) {v : Value} {t : Nat} (h : t < a.tmps.size) : (a.put (some t) v).tmps[t]? = some v := by simp [Act.put, h]
theorem putAll_size : ∀ (r : List Oper) (vs : Nat → Value) (k : Nat) (a : Act), (putAll r vs k a).tmps.size = a.tmps.size
  | [], _, _, _ => rfl
  | o :: r, vs, k, a => by rw [putAll, putAll_size, put_size]
theorem putAll_defers : ∀ (r : List Oper) (vs : Nat → Value) (k : Nat) (a : Act), (putAll r vs k a).defers = a.defers
  | [], _, _, _ => rfl
  | o :: r, vs, k, a => by rw [putAll, putAll_defers, put_defers]
theorem putAll_none : ∀ (r : List Oper) (vs : Nat → Value) (k : Nat) (a : Act) (t : Nat), (∀ o ∈ r, o.dst ≠ some t) → (putAll r vs k a).tmps[t]? = a.tmps[t]?
  | [], _, _, _, _, _ => rfl
  | o :: r, vs, k, a, t, h => by rw [putAll, putAll_none r vs (k + 1) _ t (fun x hx => h x (by simp [hx])), put_get_ne a (h o (by simp))]
theorem putAll_some : ∀ (r : List Oper) (vs : Nat → Value) (k : Nat) (a : Act) (t i : Nat) (o : Oper), distinctB r = true → r[i]? = some o → o.dst = some t → t < a.tmps.size → (putAll r vs k a).tmps[t]? = some (vs (k + i))
  | [], _, _, _, _, _, _, _, h, _, _ => by cases h
  | x :: r, vs, k, a, t, 0, o, hd, hi, ho, ht => by
    simp at hi
    subst hi
    rw [putAll, putAll_none, ho, put_get_same a ht]
    · rfl
    · intro y hy e
      simp only [distinctB, ho, Bool.and_eq_true, List.all_eq_true] at hd
      have := hd.1 y hy
      rw [e] at this
      simp at this
  | x :: r, vs, k, a, t, i + 1, o, hd, hi, ho, ht => by
    simp only [distinctB, Bool.and_eq_true] at hd
    rw [putAll, putAll_some r vs (k + 1) _ t i o hd.2 (by simpa using hi) ho (by rw [put_size]; exact ht)]
    congr 2
    omega
theorem Act.ext' {a b : Act} (h1 : a.tmps = b.tmps) (h2 : a.defers = b.defers) : a = b := by cases a; cases b; simp_all

def unl : List Bool → Nat
  | [] => 0
  | b :: l => (if b then 0 else 1) + unl l
theorem unl_set : ∀ (l : List Bool) (i : Nat), l[i]? = some false → unl (l.set i true) + 1 = unl l
  | [], _, h => by cases h
  | b :: l, 0, h => by simp at h; subst h; simp [unl]; omega
  | b :: l, i + 1, h => by
    have := unl_set l i (by simpa using h)
    simp only [List.set_cons_succ, unl]
    omega
theorem unl_zero : ∀ (l : List Bool), unl l = 0 → ∀ b ∈ l, b = true
  | [], _, _, h => by cases h
  | b :: l, h, c, hc => by
    simp only [unl] at h
    rcases List.mem_cons.1 hc with rfl | hc
    · cases c
      · simp at h
      · rfl
    · exact unl_zero l (by omega) c hc
theorem unl_replicate : ∀ n, unl (List.replicate n false) = n
  | 0 => rfl
  | n + 1 => by rw [List.replicate_succ, unl, unl_replicate n]; simp; omega

theorem wanted_eq (o : Oper) (a : Act) : Region.wanted o (yielded l.toArray a.tmps) = wantedR l o a.eval := by
  unfold Region.wanted wantedR
  cases o.guard with
  | none => rfl
  | some p =>
    obtain ⟨g, b⟩ := p
    simp only [yielded, List.getElem?_toArray]
    cases (l[g]?).bind (·.dst) with
    | none => simp
    | some d =>
      simp only [Option.bind_some, Act.eval]
      rw [Array.getD_eq_getD_getElem?]
      cases a.tmps[d]? with
      | none => simp [undef]
      | some v => cases v <;> simp

/-- Where the region stands. -/
def lst (listed : Array Bool) : Nat → Bool := fun j => listed[j]? == some true
structure RgAt (l : List Oper) (R : Nat → Value → World → Prop) (W : (Nat → Bool) → World → Prop) (a0 : Act) (listed : Array Bool) (a : Act) (w : World) : Prop where
  ls : listed.size = l.length
  size : a.tmps.size = a0.tmps.size
  defers : a.defers = a0.defers
  st : W (lst listed) w
  done : ∀ (j : Nat) oj, l[j]? = some oj → listed[j]? = some true → R j (slotV a.eval oj) w
  ext : ∀ t, (∀ (j : Nat) oj, l[j]? = some oj → oj.dst = some t → listed[j]? = some false) → a.tmps[t]? = a0.tmps[t]?
  closed : ∀ (j k : Nat), listed[j]? = some true → depOn l j k = true → listed[k]? = some true

theorem RgAt.step (st_refl : ∀ w, St w w) (keep : ∀ i v w w', R i v w → St w w' → R i v w') (hdi : distinctB l = true) (hdst : ∀ o ∈ l, ∀ d, o.dst = some d → d < a0.tmps.size) {Q : Exit → Act → World → Prop} (hops : AllOps P l R St W a0.eval 0 l) {listed : Array Bool} {a : Act} {w : World} (h : RgAt l R W a0 listed a w) {i : Nat} {o : Oper} (ho : l[i]? = some o) (hun : listed[i]? = some false) (hrdy : ∀ k, depOn l i k = true → listed[k]? = some true) :
    if Region.wanted o (yielded l.toArray a.tmps) then o.wp P a w (fun a' w' => RgAt l R W a0 (listed.setIfInBounds i true) a' w') Q else RgAt l R W a0 (listed.setIfInBounds i true) (a.put o.dst undef) w := by
  have hi : i < listed.size := (Array.getElem?_eq_some_iff.1 hun).1
  have hs := (hops.get ho) a.eval w (lst listed) h.st (by simp [lst, hun]) (fun j k hj hk => by unfold lst at hj ⊢; rw [beq_iff_eq] at hj ⊢; exact h.closed j k hj hk) (fun k hk => by unfold lst; rw [beq_iff_eq]; exact hrdy k (by simpa using hk)) (fun j oj hj hd => h.done j oj hj (hrdy j (by simpa using hd))) (fun t ht => by
    have hx := h.ext t (fun j oj hj hd => by
      have hdep := extFrom_get ht hj hd
      rw [Nat.zero_add, Nat.zero_add] at hdep
      have hjl : j < listed.size := by rw [h.ls]; exact (List.getElem?_eq_some_iff.1 hj).1
      rw [Array.getElem?_eq_getElem hjl]
      cases hb : listed[j] with
      | false => rfl
      | true =>
        have := h.closed j i (by rw [Array.getElem?_eq_getElem hjl, hb]) hdep
        rw [hun] at this
        cases this)
    simp only [Act.eval, Array.getD_eq_getD_getElem?, hx]) (fun _ => rfl) (fun _ => rfl) (fun _ => rfl)
  rw [Nat.zero_add] at hs
  have hlst : lst (listed.setIfInBounds i true) = fun j => j == i || lst listed j := by
    funext j
    unfold lst
    by_cases hji : j = i
    · subst hji; simp [hi]
    · rw [Array.getElem?_setIfInBounds_ne (fun e => hji e.symm)]; simp [hji]
  have next : ∀ v w', R i (leftV o v) w' → St w w' → W (fun j => j == i || lst listed j) w' → RgAt l R W a0 (listed.setIfInBounds i true) (a.put o.dst v) w' := by
    intro v w' hv hst hW
    have hset : ∀ j, j ≠ i → (listed.setIfInBounds i true)[j]? = listed[j]? := fun j hj => Array.getElem?_setIfInBounds_ne (fun e => hj e.symm)
    have hseti : (listed.setIfInBounds i true)[i]? = some true := by simp [hi]
    refine ⟨by simp [h.ls], by rw [put_size, h.size], by rw [put_defers, h.defers], by rw [hlst]; exact hW, ?_, ?_, ?_⟩
    · intro j oj hj hl
      by_cases hji : j = i
      · subst hji
        have e := ho.symm.trans hj
        have e := Option.some.inj e
        subst e
        have : slotV (a.put o.dst v).eval o = leftV o v := by
          unfold slotV leftV
          cases hd : o.dst with
          | none => rfl
          | some d =>
            have hlt : d < a.tmps.size := by rw [h.size]; exact hdst o (List.mem_of_getElem? ho) d hd
            simp only [Act.eval, Array.getD_eq_getD_getElem?, put_get_same a hlt]
            rfl
        rw [this]
        exact hv
      · rw [hset j hji] at hl
        have hr := h.done j oj hj hl
        have e : slotV (a.put o.dst v).eval oj = slotV a.eval oj := by
          unfold slotV
          cases hd : oj.dst with
          | none => rfl
          | some d =>
            have : o.dst ≠ some d := fun e => hji (distinct_get hdi hj ho hd e)
            simp only [Act.eval, Array.getD_eq_getD_getElem?, put_get_ne a this]
        rw [e]
        exact keep _ _ _ _ hr hst
    · intro t ht
      have hne : o.dst ≠ some t := fun e => by
        have := ht i o ho e
        rw [hseti] at this
        cases this
      rw [put_get_ne a hne]
      refine h.ext t (fun j oj hj hd => ?_)
      have := ht j oj hj hd
      by_cases hji : j = i
      · subst hji; rw [hseti] at this; cases this
      · rw [hset j hji] at this; exact this
    · intro j k hj hd
      by_cases hji : j = i
      · subst hji
        have := hrdy k hd
        by_cases hki : k = j
        · subst hki; exact hseti
        · rw [hset k hki]; exact this
      · rw [hset j hji] at hj
        have := h.closed j k hj hd
        by_cases hki : k = i
        · subst hki; exact hseti
        · rw [hset k hki]; exact this
  rw [wanted_eq]
  by_cases hw : wantedR l o a.eval = true
  · rw [if_pos hw] at hs ⊢
    exact hs.wp (fun v w' ⟨h1, h2, h3⟩ => next v w' h1 h2 h3)
  · rw [if_neg hw] at hs ⊢
    have e : leftV o undef = undef := by unfold leftV; cases o.dst <;> rfl
    exact next undef w (by rw [e]; exact hs.1) (st_refl w) hs.2

theorem RgAt.fin (hdi : distinctB l = true) {listed : Array Bool} {a : Act} {w : World} (h : RgAt l R W a0 listed a w) (hall : ∀ b ∈ listed.toList, b = true) :
    ∃ vs : Nat → Value, a = putAll l vs 0 a0 ∧ ∀ (i : Nat) o, l[i]? = some o → R i (leftV o (vs i)) w := by
  refine ⟨fun i => match l[i]? with | some o => slotV a.eval o | none => undef, ?_, ?_⟩
  · refine Act.ext' ?_ (by rw [putAll_defers, h.defers])
    apply Array.ext_getElem?
    intro t
    by_cases ht : t < a.tmps.size
    · by_cases hd : ∃ (i : Nat) (o : Oper), l[i]? = some o ∧ o.dst = some t
      · obtain ⟨i, o, ho, hd⟩ := hd
        rw [putAll_some l _ 0 a0 t i o hdi ho hd (by rw [← h.size]; exact ht), Nat.zero_add]
        simp only [ho]
        unfold slotV
        simp only [hd, Act.eval, Array.getD_eq_getD_getElem?]
        rw [Array.getElem?_eq_getElem ht]
        rfl
      · rw [putAll_none l _ 0 a0 t (fun o ho e => by
          obtain ⟨i, hi⟩ := List.getElem?_of_mem ho
          exact hd ⟨i, o, hi, e⟩)]
        exact h.ext t (fun j oj hj e => absurd ⟨j, oj, hj, e⟩ hd)
    · rw [Array.getElem?_eq_none (by omega), Array.getElem?_eq_none (by rw [putAll_size, ← h.size]; omega)]
  · intro i o ho
    have hi : i < listed.size := by rw [h.ls]; exact (List.getElem?_eq_some_iff.1 ho).1
    have := h.done i o ho (by rw [Array.getElem?_eq_getElem hi, hall listed[i] (by simp)])
    simp only [ho]
    unfold leftV
    cases hd : o.dst with
    | none => unfold slotV at this; rw [hd] at this; exact this
    | some d => exact this

theorem ready_iff {listed : Array Bool} (hs : listed.size = l.length) {i : Nat} (h : i ∈ Region.ready .any l.toArray listed) : ∃ o, l[i]? = some o ∧ listed[i]? = some false ∧ ∀ k, depOn l i k = true → listed[k]? = some true := by
  unfold Region.ready at h
  obtain ⟨h1, h2⟩ := List.mem_filter.1 h
  have hi : i < l.length := by simpa using h1
  have hil : i < listed.size := by omega
  refine ⟨l[i], List.getElem?_eq_getElem hi, ?_, ?_⟩
  · simp only [Bool.and_eq_true] at h2
    have := h2.1
    rw [Array.getD_eq_getD_getElem?, Array.getElem?_eq_getElem hil] at this
    rw [Array.getElem?_eq_getElem hil]
    simpa using this
  · intro k hk
    simp only [Bool.and_eq_true] at h2
    have h3 := h2.2
    unfold depOn at hk
    rw [List.getElem?_eq_getElem hi] at hk
    obtain ⟨q, hq, hk⟩ := Array.any_eq_true.1 hk
    simp only [Bool.and_eq_true, beq_iff_eq] at hk
    simp only [List.getElem?_toArray, List.getElem?_eq_getElem hi, Option.map_some, Option.getD_some] at h3
    have h4 := Array.all_eq_true.1 h3 q hq
    rw [hk.2, hk.1] at h4
    simp only [Bool.not_true, Bool.false_or] at h4
    rw [Array.getD_eq_getD_getElem?] at h4
    cases hl : listed[k]? with
    | none => rw [hl] at h4; cases h4
    | some b => rw [hl] at h4; simp at h4; rw [h4]
theorem not_ready (hac : acycFrom 0 l = true) {listed : Array Bool} (hs : listed.size = l.length) (h : Region.ready .any l.toArray listed = []) : ∀ i, i < l.length → listed[i]? = some true := by
  intro i
  induction i using Nat.strongRecOn with
  | ind i ih =>
    intro hi
    have hil : i < listed.size := by omega
    rw [Array.getElem?_eq_getElem hil]
    cases hb : listed[i] with
    | true => rfl
    | false =>
      exfalso
      have : i ∈ Region.ready .any l.toArray listed := by
        unfold Region.ready
        refine List.mem_filter.2 ⟨by simpa using hi, ?_⟩
        rw [Array.getD_eq_getD_getElem?, Array.getElem?_eq_getElem hil, hb]
        simp only [List.getElem?_toArray, List.getElem?_eq_getElem hi, Option.map_some, Option.getD_some, Bool.not_false, Bool.true_and]
        refine Array.all_eq_true.2 (fun q hq => ?_)
        have hlt := acyc_get hac (List.getElem?_eq_getElem hi) _ (Array.getElem_mem hq)
        rw [Nat.zero_add] at hlt
        have := ih _ hlt (by omega)
        rw [Array.getD_eq_getD_getElem?, this]
        simp
      rw [h] at this
      cases this

theorem RgAt.any (st_refl : ∀ w, St w w) (keep : ∀ i v w w', R i v w → St w w' → R i v w') (hac : acycFrom 0 l = true) (hdi : distinctB l = true) (hdst : ∀ o ∈ l, ∀ d, o.dst = some d → d < a0.tmps.size) {Q : Exit → Act → World → Prop} (hops : AllOps P l R St W a0.eval 0 l) (hend : ∀ (vs : Nat → Value) (w : World) (L : Nat → Bool), (∀ i, i < l.length → L i = true) → W L w → (∀ (i : Nat) o, l[i]? = some o → R i (leftV o (vs i)) w) → Q .normal (putAll l vs 0 a0) w) :
    ∀ (fuel : Nat) (listed : Array Bool) (a : Act) (w : World), unl listed.toList ≤ fuel → RgAt l R W a0 listed a w → wpAny P .any l.toArray Q fuel listed a w := by
  have fin : ∀ (listed : Array Bool) (a : Act) (w : World), RgAt l R W a0 listed a w → Region.ready .any l.toArray listed = [] → Q .normal a w := by
    intro listed a w h hr
    have hn := not_ready hac h.ls hr
    obtain ⟨vs, rfl, hv⟩ := h.fin hdi (fun b hb => by
      obtain ⟨i, hi⟩ := List.getElem?_of_mem hb
      have hlt : i < l.length := by rw [← h.ls]; have := (List.getElem?_eq_some_iff.1 hi).1; simpa using this
      have := hn i hlt
      have hi' : listed[i]? = some b := by simpa using hi
      rw [hi'] at this
      exact Option.some.inj this)
    exact hend vs w (lst listed) (fun i hi => by unfold lst; rw [beq_iff_eq]; exact hn i hi) h.st hv
  intro fuel
  induction fuel with
  | zero =>
    intro listed a w hu h
    have hz := unl_zero _ (by omega : unl listed.toList = 0)
    have hr : Region.ready .any l.toArray listed = [] := by
      apply List.eq_nil_iff_forall_not_mem.2
      intro i hi
      obtain ⟨o, _, h2, _⟩ := ready_iff h.ls hi
      have := hz false (List.mem_of_getElem? (i := i) (by simpa using h2))
      cases this
    exact ⟨hr, fin listed a w h hr⟩
  | succ fuel ih =>
    intro listed a w hu h
    refine ⟨fun hr => fin listed a w h hr, fun i hi => ?_⟩
    obtain ⟨o, h1, h2, h3⟩ := ready_iff h.ls hi
    have hs := h.step st_refl keep hdi hdst (Q := Q) hops h1 h2 h3
    have hun : unl (listed.setIfInBounds i true).toList ≤ fuel := by
      have := unl_set listed.toList i (by simpa using h2)
      rw [Array.toList_setIfInBounds]
      omega
    unfold wpOp
    simp only [List.getElem?_toArray, h1]
    split
    · rename_i hw
      rw [if_pos hw] at hs
      exact .inl (Oper.wp_mono (fun a' w' h' => ih _ a' w' hun h') hs)
    · rename_i hw
      rw [if_neg hw] at hs
      exact ih _ _ _ hun hs
end
end

section
open Go.RowKit

abbrev Env := List AV
def evA (env : Env) : Operand → AV
  | .tmp t => env.getD t .any
  | .const v => constA v
  | .global _ => .any
  | .func f => .fn f []
def putE (env : Env) (d : Option Tmp) (a : AV) : Env := match d with
  | some d => env.set d a
  | none => env
def ER (F : Nat → Prop) (β : Loc) (H : List AObj) (w : World) (env : Env) (ts : Array Value) : Prop := env.length = ts.size ∧ ∀ (i : Nat) (a : AV) (v : Value), env[i]? = some a → ts[i]? = some v → V F β H w a v
def VL (F : Nat → Prop) (β : Loc) (H : List AObj) (w : World) (az : List AV) (vs : List Value) : Prop := vs.length = az.length ∧ ∀ (i : Nat) (a : AV) (v : Value), az[i]? = some a → vs[i]? = some v → V F β H w a v

/-- Where a function's body began: foreign blocks, places, objects, world. -/
structure Bs where
  F : Nat → Prop
  β : Loc
  H : List AObj
  w : World

/-- A call of function f ends with a value, and objects, of which Q holds. -/
def PCall (P : Program) (f : FuncId) (args : List AV) (H : List AObj) (Q : AV → List AObj → Prop) : Prop :=
  ∀ (F : Nat → Prop) (β : Loc) (w : World) (vs : List Value), Rep F β H w → VL F β H w args vs → CallsX P f vs.toArray w fun e w' => ∃ r H' β' v, e = .returned v ∧ Q r H' ∧ Rep F β' H' w' ∧ Ext β H w β' H' w' ∧ V F β' H' w' r v
/-- The state (env, H) holds of a and w, reached from where the body began. -/
def StE (B : Bs) (env : Env) (H : List AObj) (a : Act) (w : World) : Prop := ∃ β, Rep B.F β H w ∧ ER B.F β H w env a.tmps ∧ Ext B.β B.H B.w β H w ∧ a.defers = []
def PW (P : Program) (B : Bs) (c : Code) (Q : Exit → Env → List AObj → Prop) (env : Env) (H : List AObj) : Prop :=
  ∀ a w, StE B env H a w → c.wp P (fun e a' w' => ∃ env' H', Q e env' H' ∧ StE B env' H' a' w') a w

section
variable {P : Program} {B : Bs} {F : Nat → Prop} {β β' : Loc} {H H' : List AObj} {w w' : World} {env : Env}

theorem ER.eval {a : Act} (h : ER F β H w env a.tmps) (x : Operand) : V F β H w (evA env x) (a.eval x) := by
  cases x with
  | const v => exact V.fromV v
  | global g => exact .any _
  | func f =>
    have := VR.fn (I := Im F β H w) (w := w) (L := LV β H) (f := f) (cs := []) (vs := []) rfl (fun i a v h => by simp at h)
    exact this
  | tmp t =>
    simp only [evA, Act.eval, List.getD_eq_getElem?_getD, Array.getD_eq_getD_getElem?]
    cases ht : env[t]? with
    | none => exact .any _
    | some x =>
      have hl := (List.getElem?_eq_some_iff.1 ht).1
      rw [h.1] at hl
      rw [Array.getElem?_eq_getElem hl]
      exact h.2 t x _ ht (Array.getElem?_eq_getElem hl)
theorem ER.ext {ts : Array Value} (h : ER F β H w env ts) (e : Ext β H w β' H' w') : ER F β' H' w' env ts := ⟨h.1, fun i a v h1 h2 => (h.2 i a v h1 h2).ext e⟩
theorem ER.put {a : Act} (h : ER F β H w env a.tmps) {x : AV} {v : Value} (hv : V F β H w x v) (d : Option Tmp) : ER F β H w (putE env d x) (a.put d v).tmps := by
  cases d with
  | none => exact h
  | some d =>
    refine ⟨by simp [putE, Act.put, h.1], fun i a' v' h1 h2 => ?_⟩
    simp only [putE] at h1
    simp only [Act.put] at h2
    by_cases e : d = i
    · subst e
      have hl : d < env.length := by
        have := (List.getElem?_eq_some_iff.1 h1).1
        simpa using this
      rw [List.getElem?_set_self hl] at h1
      rw [Array.getElem?_setIfInBounds_self_of_lt (by rw [← h.1]; exact hl)] at h2
      cases h1; cases h2
      exact hv
    · rw [List.getElem?_set_ne e] at h1
      rw [Array.getElem?_setIfInBounds_ne e] at h2
      exact h.2 i a' v' h1 h2
theorem StE.put {a : Act} (h : StE B env H a w) {x : AV} {v : Value} {w' : World} {β1 β' : Loc} (_hr0 : Rep B.F β1 H w) (her : ER B.F β1 H w env a.tmps) (hb : Ext B.β B.H B.w β1 H w) (hr : Rep B.F β' H' w') (he : Ext β1 H w β' H' w') (hv : V B.F β' H' w' x v) (d : Option Tmp) : StE B (putE env d x) H' (a.put d v) w' := by
  obtain ⟨-, -, -, -, hd⟩ := h
  exact ⟨β', hr, (her.ext he).put hv d, hb.trans he, by rw [put_defers]; exact hd⟩

/-! ### regions in the order of the text -/
/-- What a slot holds whose operation was passed over. -/
theorem VR.undef {I : Nat → Prop} {w : World} {L : AV → Value → Prop} : VR I w L (.tup []) undef := VR.tup (vs := []) rfl (fun i a v h => by simp at h)
theorem VR.undef_ {F : Nat → Prop} {β : Loc} {H : List AObj} {w : World} {u : Value} (h : V F β H w (.tup []) u) : u = .tuple #[] := by
  cases h with
  | leaf h => exact h.elim
  | tup hl h => rename_i vs; obtain rfl : vs = [] := List.eq_nil_of_length_eq_zero hl; rfl
/-- What is owed to a step: it is taken, and what comes behind it holds. -/
def stepK (s : Option StepA) (Kv : AV → List AObj → Prop) (Kc : FuncId → List AV → Prop) : Prop :=
  match s with
  | some (.val a H) => Kv a H
  | some (.call f args) => Kc f args
  | none => False
def wops (P : Program) (all : List Oper) : List Oper → (Env → List AObj → Prop) → Env → List AObj → Prop
  | [], K, env, H => K env H
  | o :: rest, K, env, H =>
    match o.guard with
    | none => stepK (opA P H (evA env) o) (fun a H' => wops P all rest K (putE env o.dst a) H') (fun f args => PCall P f args H fun r H' => wops P all rest K (putE env o.dst r) H')
    | some (g, b) => match (all[g]?).bind (·.dst) with
      | some d => match env.getD d .any with
        | .c (.bool x) => (x = b → stepK (opA P H (evA env) o) (fun a H' => wops P all rest K (putE env o.dst a) H') (fun f args => PCall P f args H fun r H' => wops P all rest K (putE env o.dst r) H')) ∧ (x ≠ b → wops P all rest K (putE env o.dst (.tup [])) H)
        | .tup [] => wops P all rest K (putE env o.dst (.tup [])) H
        | _ => False
      | none => False

theorem wops_ok {all : List Oper} {Q : Exit → Act → World → Prop} {K : Env → List AObj → Prop} (hQ : ∀ env H a w, K env H → StE B env H a w → Q .normal a w) : ∀ (l : List Oper) (env : Env) (H : List AObj) (a : Act) (w : World), wops P all l K env H → StE B env H a w → wpList P all.toArray Q l a w
  | [], env, H, a, w, h, hs => hQ env H a w h hs
  | o :: rest, env, H, a, w, h, hs => by
    obtain ⟨β, hr, her, hb, hd⟩ := hs
    have hstep : stepK (opA P H (evA env) o) (fun a H' => wops P all rest K (putE env o.dst a) H') (fun f args => PCall P f args H fun r H' => wops P all rest K (putE env o.dst r) H') → o.wp P a w (wpList P all.toArray Q rest) Q := by
      intro h0
      obtain ⟨st, h1, h2⟩ : ∃ st, opA P H (evA env) o = some st ∧ match st with
        | .val a H' => wops P all rest K (putE env o.dst a) H'
        | .call f args => PCall P f args H fun r H' => wops P all rest K (putE env o.dst r) H' := by
        unfold stepK at h0
        split at h0
        · exact ⟨_, by assumption, h0⟩
        · exact ⟨_, by assumption, h0⟩
        · exact h0.elim
      have hok := op_ok (P := P) hr her.eval h1
      cases st with
      | val x H' =>
        obtain ⟨v, w', β', hrun, r1, r2, r3⟩ := hok
        have hs' := StE.put (B := B) ⟨β, hr, her, hb, hd⟩ hr her hb r1 r2 r3 o.dst
        have ih := wops_ok hQ rest _ H' _ w' h2 hs'
        unfold Oper.wp
        rcases hrun with hrun | ⟨hrun, rfl⟩
        · rw [hrun]; exact ih
        · rw [hrun]; exact ih
      | call f args =>
        obtain ⟨vs, hrun, hl, hv⟩ := hok
        unfold Oper.wp
        rcases hrun.cases_ (h2 B.F β w vs hr ⟨hl, hv⟩) with ⟨hrun, h2⟩ | ⟨v0, w', hrun, hp⟩
        case inr =>
          rw [hrun]
          obtain ⟨r, H', β', v, he, hq, r1, r2, r3⟩ := hp
          cases he
          exact wops_ok hQ rest _ H' _ w' hq (StE.put (B := B) ⟨β, hr, her, hb, hd⟩ hr her hb r1 r2 r3 o.dst)
        rw [hrun]
        refine Calls.mono h2 (fun e w' hp => ?_)
        obtain ⟨r, H', β', v, rfl, hq, r1, r2, r3⟩ := hp
        exact wops_ok hQ rest _ H' _ w' hq (StE.put (B := B) ⟨β, hr, her, hb, hd⟩ hr her hb r1 r2 r3 o.dst)
    unfold wpList
    rw [wanted_eq]
    simp only [wops] at h
    cases hg : o.guard with
    | none =>
      rw [hg] at h
      rw [if_pos (show wantedR all o a.eval = true by unfold wantedR; rw [hg])]
      exact .inl (hstep h)
    | some p =>
      obtain ⟨g, b⟩ := p
      rw [hg] at h
      simp only at h
      split at h
      · rename_i d hdst
        split at h
        · rename_i x hx
          have hv := her.eval (.tmp d)
          simp only [evA] at hv
          rw [hx] at hv
          have hb' : a.eval (.tmp d) = .bool x := by
            generalize a.eval (.tmp d) = u at hv
            cases hv with
            | leaf h => exact h.elim
            | c h => rfl
          have hwt : wantedR all o a.eval = (x == b) := by
            unfold wantedR
            rw [hg]
            simp only
            rw [hdst]
            simp only
            rw [hb']
          rw [hwt]
          simp only [beq_iff_eq]
          by_cases hxb : x = b
          · rw [if_pos hxb]
            exact .inl (hstep (h.1 hxb))
          · rw [if_neg hxb]
            exact wops_ok hQ rest _ H _ w (h.2 hxb) (StE.put (B := B) ⟨β, hr, her, hb, hd⟩ hr her hb hr (Ext.refl _ _ _) VR.undef o.dst)
        · rename_i hx
          have hv := her.eval (.tmp d)
          simp only [evA] at hv
          rw [hx] at hv
          have hb' := hv.undef_
          have hwt : wantedR all o a.eval = false := by
            unfold wantedR
            rw [hg]
            simp only
            rw [hdst]
            simp only
            rw [hb']
          rw [hwt]
          exact wops_ok hQ rest _ H _ w h (StE.put (B := B) ⟨β, hr, her, hb, hd⟩ hr her hb hr (Ext.refl _ _ _) VR.undef o.dst)
        · exact h.elim
      · exact h.elim

/-! ### code -/
def thenA (next : Env → List AObj → Prop) (Q : Exit → Env → List AObj → Prop) : Exit → Env → List AObj → Prop
  | .normal, env, H => next env H
  | e, env, H => Q e env H
def blockA (id : Nat) (Q : Exit → Env → List AObj → Prop) : Exit → Env → List AObj → Prop
  | .exit i, env, H => if i = id then Q .normal env H else Q (.exit i) env H
  | e, env, H => Q e env H

variable {Q : Exit → Env → List AObj → Prop}
theorem PW.region {id : Nat} {l : List Oper} (h : wops P l l (Q .normal) env H) : PW P B (.region id l.toArray false) Q env H := by
  intro a w hs
  exact wp_region_lit (wops_ok (B := B) (Q := fun e a' w' => ∃ env' H', Q e env' H' ∧ StE B env' H' a' w') (fun env H a w hk hs => ⟨env, H, hk, hs⟩) l env H a w h hs)
theorem PW.mono {c : Code} {Q' : Exit → Env → List AObj → Prop} (h : PW P B c Q env H) (hq : ∀ e env H, Q e env H → Q' e env H) : PW P B c Q' env H :=
  fun a w hs => wp_mono (h a w hs) (fun _e _a' _w' ⟨env', H', h1, h2⟩ => ⟨env', H', hq _ _ _ h1, h2⟩)
theorem PW.skip (h : Q .normal env H) : PW P B .skip Q env H := fun _ _ hs => wp_skip ⟨env, H, h, hs⟩
theorem PW.exit {id : Nat} (h : Q (.exit id) env H) : PW P B (.exit id) Q env H := fun _ _ hs => wp_exit ⟨env, H, h, hs⟩
theorem PW.ret (h : Q .ret env H) : PW P B .ret Q env H := fun _ _ hs => wp_ret ⟨env, H, h, hs⟩
/-- No jump to a label. -/
def noG (Q : Exit → Env → List AObj → Prop) : Exit → Env → List AObj → Prop
  | .goto _, _, _ => False
  | e, env, H => Q e env H
theorem PW.scope {c : Code} (h : PW P B c (noG Q) env H) : PW P B (.scope c) Q env H := fun a w hs =>
  wp_scope_straight (wp_mono (h a w hs) (fun e a' w' ⟨env', H', h1, h2⟩ => by
    cases e with
    | goto l => exact h1.elim
    | _ => exact ⟨env', H', h1, h2⟩))
theorem PW.label {l : Nat} (h : Q .normal env H) : PW P B (.label l) Q env H := fun _ _ hs => wp_label ⟨env, H, h, hs⟩
theorem PW.seq {x y : Code} (h : PW P B x (thenA (PW P B y Q) Q) env H) : PW P B (.seq x y) Q env H := fun a w hs =>
  wp_seq (wp_mono (h a w hs) (fun e a' w' ⟨env', H', h1, h2⟩ => by
    cases e with
    | normal => exact h1 a' w' h2
    | _ => exact ⟨env', H', h1, h2⟩))
theorem PW.cond {c : Operand} {x y : Code} {t : Bool} (hc : evA env c = .c (.bool t)) (h1 : t = true → PW P B x Q env H) (h2 : t = false → PW P B y Q env H) : PW P B (.cond c x y) Q env H := fun a w hs => by
  obtain ⟨β, hr, her, hb, hd⟩ := hs
  have hv := her.eval c
  rw [hc] at hv
  have hb' : a.eval c = .bool t := by
    generalize a.eval c = u at hv
    cases hv with
    | leaf h => exact h.elim
    | c h => rfl
  exact wp_cond_split hb' (fun ht => h1 ht a w ⟨β, hr, her, hb, hd⟩) (fun ht => h2 ht a w ⟨β, hr, her, hb, hd⟩)
theorem PW.block {id : Nat} {c : Code} (h : PW P B c (blockA id Q) env H) : PW P B (.block id c) Q env H := fun a w hs =>
  wp_block (wp_mono (h a w hs) (fun e a' w' ⟨env', H', h1, h2⟩ => by
    cases e with
    | exit i =>
      show if i = id then _ else _
      simp only [blockA] at h1
      split
      · rw [if_pos (by assumption)] at h1; exact ⟨env', H', h1, h2⟩
      · rw [if_neg (by assumption)] at h1; exact ⟨env', H', h1, h2⟩
    | _ => exact ⟨env', H', h1, h2⟩))
/-- A loop: I n holds at the head, n is what is left; a round lowers it. -/
theorem PW.loop {c : Code} (I : Nat → Env → List AObj → Prop) {n : Nat} (h0 : I n env H) (hround : ∀ n env H, I n env H → PW P B c (thenA (fun env' H' => ∃ m, m < n ∧ I m env' H') Q) env H) : PW P B (.loop c) Q env H := fun a w hs => by
  refine wp_loop_rounds (n + 1) ?_
  have key : ∀ k n env H a w, n < k → I n env H → StE B env H a w → Code.rounds P c (fun e a' w' => ∃ env' H', Q e env' H' ∧ StE B env' H' a' w') k a w := by
    intro k
    induction k with
    | zero => intro n env H a w hn; omega
    | succ k ih =>
      intro n env H a w hn hI hs
      rw [rounds_succ]
      refine wp_mono (hround n env H hI a w hs) (fun e a' w' ⟨env', H', h1, h2⟩ => ?_)
      cases e with
      | normal =>
        obtain ⟨m, hm, hI'⟩ := h1
        exact ih m env' H' a' w' (by omega) hI' h2
      | _ => exact ⟨env', H', h1, h2⟩
  exact key (n + 1) n env H a w (by omega) h0 hs

/-- Slots forgotten. -/
def weakE (env env' : Env) : Prop := env'.length = env.length ∧ ∀ (i : Nat) (a : AV), env'[i]? = some a → a = .any ∨ env[i]? = some a
/-! ### calls -/
def resA (P : Program) (H : List AObj) (env : Env) : List ResultVar → Option (List AV)
  | [] => some []
  | .tmp t :: r => (resA P H env r).map (env.getD t .any :: ·)
  | .cell a t :: r => match loadA P H t (env.getD a .any), resA P H env r with
    | some x, some l => some (x :: l)
    | _, _ => none
def joinR : List AV → AV
  | [x] => x
  | l => .tup l
def retA (P : Program) (fn : Func) (Q : AV → List AObj → Prop) : Exit → Env → List AObj → Prop
  | .normal, env, H => ∃ l, resA P H env fn.results.toList = some l ∧ Q (joinR l) H
  | .ret, env, H => ∃ l, resA P H env fn.results.toList = some l ∧ Q (joinR l) H
  | _, _, _ => False
theorem cell_ok {x : AV} {v : Value} {t : TypeId} {a : AV} (hr : Rep F β H w) (hx : V F β H w x v) (h : loadA P H t x = some a) : ∃ v', (do loadVar t (← asAddr v)).run P w = .ok v' w ∧ V F β H w a v' := by
  obtain ⟨v', w', β', h1, h2, h3, h4⟩ := load_ok (P := P) hr hx h
  have hp : ∃ b, v = .pointer (some b) := by
    cases x <;> simp only [loadA] at h <;> try cases h
    case ptr id off =>
      split at h
      · exact hx.ptr_form rfl
      · cases h
    case pe e off => exact hx.ptr_form rfl
  obtain ⟨b, rfl⟩ := hp
  obtain ⟨v2, e1, e2⟩ := load_same (P := P) hr hx h
  refine ⟨v2, ?_, e2⟩
  simpa [Instr.loadAt, Instr.sureAddr, asAddr, Sem.run_bind] using e1
def resV (ts : Array Value) : ResultVar → Sem Value
  | .tmp t => pure (ts.getD t undef)
  | .cell a t => do loadVar t (← asAddr (ts.getD a undef))
theorem res_ok (hr : Rep F β H w) {ts : Array Value} (her : ER F β H w env ts) : ∀ {rs : List ResultVar} {l : List AV}, resA P H env rs = some l → ∃ vs : List Value, (rs.mapM (resV ts)).run P w = .ok vs w ∧ VL F β H w l vs
  | [], l, h => by
    simp only [resA] at h
    cases h
    exact ⟨[], rfl, rfl, fun i a v h => by simp at h⟩
  | .tmp t :: rs, l, h => by
    simp only [resA] at h
    obtain ⟨l', h1, rfl⟩ := Option.map_eq_some_iff.1 h
    obtain ⟨vs, e1, e2, e3⟩ := res_ok hr her h1
    have hv := her.eval (a := ⟨ts, []⟩) (.tmp t)
    refine ⟨ts.getD t undef :: vs, by simp [e1, resV], by simp [e2], fun i a v ha hv' => ?_⟩
    cases i with
    | zero => simp at ha hv'; subst ha; subst hv'; simpa [evA, Act.eval] using hv
    | succ i => exact e3 i a v (by simpa using ha) (by simpa using hv')
  | .cell x t :: rs, l, h => by
    simp only [resA] at h
    split at h
    · rename_i y l' h1 h2
      cases h
      obtain ⟨vs, e1, e2, e3⟩ := res_ok hr her h2
      have hv := her.eval (a := ⟨ts, []⟩) (.tmp x)
      obtain ⟨v', f1, f2⟩ := cell_ok (P := P) hr (x := env.getD x .any) (v := ts.getD x undef) (by simpa [evA, Act.eval] using hv) h1
      refine ⟨v' :: vs, ?_, by simp [e2], fun i a v ha hv' => ?_⟩
      · have : (resV ts (.cell x t)).run P w = .ok v' w := f1
        simp only [List.mapM_cons]
        rw [Sem.run_bind, this]
        simp [e1]
      · cases i with
        | zero => simp at ha hv'; subst ha; subst hv'; exact f2
        | succ i => exact e3 i a v (by simpa using ha) (by simpa using hv')
    · cases h
theorem ret_ok (hr : Rep F β H w) {fn : Func} {ts : Array Value} (her : ER F β H w env ts) {l : List AV} (h : resA P H env fn.results.toList = some l) : ∃ v, (results fn ts).run P w = .ok v w ∧ V F β H w (joinR l) v := by
  obtain ⟨vs, e1, e2, e3⟩ := res_ok (P := P) hr her h
  refine ⟨if h : vs.toArray.size = 1 then vs.toArray[0] else .tuple vs.toArray, ?_, ?_⟩
  · have hres : results fn ts = (do let vs ← fn.results.mapM (resV ts); pure (if h : vs.size = 1 then vs[0] else .tuple vs)) := by
      unfold results
      congr 1
    rw [hres, Array.mapM_eq_mapM_toList]
    rw [Sem.run_bind, map_eq_pure_bind, Sem.run_bind]
    rw [e1]
    rfl
  · split
    · rename_i h1
      match vs, e2, e3 with
      | [], _, _ => simp at h1
      | [u], e2, e3 =>
        match l, e2 with
        | [a], _ => exact e3 0 a u rfl rfl
      | _ :: _ :: _, _, _ => simp at h1
    · rename_i h1
      have : joinR l = .tup l := by
        match l, e2 with
        | [], _ => rfl
        | [a], e2 => simp at h1 e2; exact absurd e2 h1
        | _ :: _ :: _, _ => rfl
      rw [this]
      exact .tup e2 e3

/-- A function's contract out of its body. -/
theorem PCall.of_body {f : FuncId} {fn : Func} {c : Code} {args : List AV} {Q : AV → List AObj → Prop} (hf : P.funcs[f]? = some fn) (hb : fn.body = some c) (h : ∀ B : Bs, B.H = H → PW P B c (retA P fn Q) (args ++ List.replicate (fn.ntmps - args.length) .any) H) : PCall P f args H Q := by
  intro F β w vs hr hvl
  refine .inl ⟨⟨fn, c, hf, hb⟩, calls_of_wp hf hb ?_⟩
  have hst : StE ⟨F, β, H, w⟩ (args ++ List.replicate (fn.ntmps - args.length) .any) H { tmps := vs.toArray ++ Array.replicate (fn.ntmps - vs.toArray.size) undef, defers := [] } w := by
    refine ⟨β, hr, ⟨by simp [hvl.1], fun i a v h1 h2 => ?_⟩, Ext.refl _ _ _, rfl⟩
    rw [List.getElem?_append] at h1
    rw [Array.getElem?_append] at h2
    simp only [List.size_toArray, List.getElem?_toArray, hvl.1] at h2
    split at h1
    · rw [if_pos (by assumption)] at h2
      exact hvl.2 i a v h1 h2
    · rw [List.getElem?_replicate] at h1
      split at h1
      · cases h1; exact .any _
      · cases h1
  refine wp_mono (h ⟨F, β, H, w⟩ rfl _ w hst) (fun e a' w' ⟨env', H', h1, β', r1, r2, r3, r4⟩ => ?_)
  cases e <;> simp only [retA] at h1
  case normal =>
    obtain ⟨l, e1, e2⟩ := h1
    obtain ⟨v, f1, f2⟩ := ret_ok (P := P) r1 r2 e1
    exact ⟨r4, v, f1, _, H', β', v, rfl, e2, r1, r3, f2⟩
  case ret =>
    obtain ⟨l, e1, e2⟩ := h1
    obtain ⟨v, f1, f2⟩ := ret_ok (P := P) r1 r2 e1
    exact ⟨r4, v, f1, _, H', β', v, rfl, e2, r1, r3, f2⟩
theorem PCall.mono {f : FuncId} {args : List AV} {Q Q' : AV → List AObj → Prop} (h : PCall P f args H Q) (hq : ∀ r H, Q r H → Q' r H) : PCall P f args H Q' :=
  fun F β w vs hr hv => CallsX.mono (h F β w vs hr hv) (fun _e _w' ⟨r, H', β', v, h1, h2, h3⟩ => ⟨r, H', β', v, h1, hq _ _ h2, h3⟩)
end
end

section
open Go.RowKit

/-- What op number i is owed: L says which operations have run; W what the world is like then. -/
def OpStepL (P : Program) (l : List Oper) (R : Nat → Value → World → Prop) (St : (Nat → Bool) → World → World → Prop) (W : (Nat → Bool) → World → Prop) (ρ0 : Operand → Value) (i : Nat) (o : Oper) : Prop :=
  ∀ (ρ : Operand → Value) (w : World) (L : Nat → Bool), W L w → L i = false → (∀ j k, L j = true → depOn l j k = true → L k = true) → (∀ k, depOn l i k = true → L k = true) → (∀ j oj, l[j]? = some oj → depOn l i j = true → R j (slotV ρ oj) w) → (∀ t, extOk l i t = true → ρ (.tmp t) = ρ0 (.tmp t)) → (∀ v, ρ (.const v) = v) → (∀ g, ρ (.global g) = .pointer (some ⟨g, 0, none⟩)) → (∀ f, ρ (.func f) = .func (.func f) #[] #[]) →
    if wantedR l o ρ = true then OpDone P o ρ w (fun v w' => R i (leftV o v) w' ∧ St L w w' ∧ W (fun j => j == i || L j) w') else R i undef w ∧ W (fun j => j == i || L j) w

def AllOpsL (P : Program) (l : List Oper) (R : Nat → Value → World → Prop) (St : (Nat → Bool) → World → World → Prop) (W : (Nat → Bool) → World → Prop) (ρ0 : Operand → Value) : Nat → List Oper → Prop
  | _, [] => True
  | i, o :: r => OpStepL P l R St W ρ0 i o ∧ AllOpsL P l R St W ρ0 (i + 1) r

section
variable {P : Program} {l : List Oper} {R : Nat → Value → World → Prop} {St : (Nat → Bool) → World → World → Prop} {W : (Nat → Bool) → World → Prop} {a0 : Act}

theorem AllOpsL.get {ρ0 : Operand → Value} : ∀ {r : List Oper} {k : Nat}, AllOpsL P l R St W ρ0 k r → ∀ {i : Nat} {o : Oper}, r[i]? = some o → OpStepL P l R St W ρ0 (k + i) o
  | [], _, _, i, o, h => by cases h
  | x :: r, k, h, 0, o, hi => by
    simp at hi
    subst hi
    exact h.1
  | x :: r, k, h, i + 1, o, hi => by
    have := AllOpsL.get h.2 (i := i) (o := o) (by simpa using hi)
    rw [show k + (i + 1) = k + 1 + i by omega]
    exact this

end


def StbL (St : (Nat → Bool) → World → World → Prop) (i : Nat) (p : Value → World → Prop) : Prop := ∀ L v w w', L i = true → p v w → St L w w' → p v w'
def AllStbL (St : (Nat → Bool) → World → World → Prop) : Nat → List (Value → World → Prop) → Prop
  | _, [] => True
  | i, p :: l => StbL St i p ∧ AllStbL St (i + 1) l
theorem AllStbL.get {St : (Nat → Bool) → World → World → Prop} : ∀ {l : List (Value → World → Prop)} {k i : Nat} {p : Value → World → Prop}, AllStbL St k l → l[i]? = some p → StbL St (k + i) p
  | [], _, _, _, _, h => by cases h
  | x :: l, k, 0, p, h, hi => by simp at hi; subst hi; exact h.1
  | x :: l, k, i + 1, p, h, hi => by
    have := AllStbL.get h.2 (i := i) (p := p) (by simpa using hi)
    rw [show k + (i + 1) = k + 1 + i by omega]
    exact this
end

section
open Go.RowKit

/-- What op number i is owed: L says which operations have run; W what the world is like then. -/
def OpStepV (P : Program) (l : List Oper) (R : Nat → Value → World → Prop) (St : (Nat → Bool) → World → World → Prop) (W : (Nat → Bool) → (Operand → Value) → World → Prop) (ρ0 : Operand → Value) (i : Nat) (o : Oper) : Prop :=
  ∀ (ρ : Operand → Value) (w : World) (L : Nat → Bool), W L ρ w → L i = false → (∀ j k, L j = true → depOn l j k = true → L k = true) → (∀ k, depOn l i k = true → L k = true) → (∀ j oj, l[j]? = some oj → depOn l i j = true → R j (slotV ρ oj) w) → (∀ t, extOk l i t = true → ρ (.tmp t) = ρ0 (.tmp t)) → (∀ v, ρ (.const v) = v) → (∀ g, ρ (.global g) = .pointer (some ⟨g, 0, none⟩)) → (∀ f, ρ (.func f) = .func (.func f) #[] #[]) →
    if wantedR l o ρ = true then OpDone P o ρ w (fun v w' => R i (leftV o v) w' ∧ St L w w' ∧ (∀ ρ' : Operand → Value, (∀ t, o.dst ≠ some t → ρ' (.tmp t) = ρ (.tmp t)) → (∀ d, o.dst = some d → ρ' (.tmp d) = v) → W (fun j => j == i || L j) ρ' w')) else R i undef w ∧ (∀ ρ' : Operand → Value, (∀ t, o.dst ≠ some t → ρ' (.tmp t) = ρ (.tmp t)) → (∀ d, o.dst = some d → ρ' (.tmp d) = undef) → W (fun j => j == i || L j) ρ' w)

def AllOpsV (P : Program) (l : List Oper) (R : Nat → Value → World → Prop) (St : (Nat → Bool) → World → World → Prop) (W : (Nat → Bool) → (Operand → Value) → World → Prop) (ρ0 : Operand → Value) : Nat → List Oper → Prop
  | _, [] => True
  | i, o :: r => OpStepV P l R St W ρ0 i o ∧ AllOpsV P l R St W ρ0 (i + 1) r

structure RgAtV (l : List Oper) (R : Nat → Value → World → Prop) (W : (Nat → Bool) → (Operand → Value) → World → Prop) (a0 : Act) (listed : Array Bool) (a : Act) (w : World) : Prop where
  ls : listed.size = l.length
  size : a.tmps.size = a0.tmps.size
  defers : a.defers = a0.defers
  st : W (lst listed) a.eval w
  done : ∀ (j : Nat) oj, l[j]? = some oj → listed[j]? = some true → R j (slotV a.eval oj) w
  ext : ∀ t, (∀ (j : Nat) oj, l[j]? = some oj → oj.dst = some t → listed[j]? = some false) → a.tmps[t]? = a0.tmps[t]?
  closed : ∀ (j k : Nat), listed[j]? = some true → depOn l j k = true → listed[k]? = some true
theorem RgAtV.toAt {l : List Oper} {R : Nat → Value → World → Prop} {W : (Nat → Bool) → (Operand → Value) → World → Prop} {a0 : Act} {listed : Array Bool} {a : Act} {w : World} (h : RgAtV l R W a0 listed a w) : RgAt l R (fun _ _ => True) a0 listed a w :=
  ⟨h.ls, h.size, h.defers, trivial, h.done, h.ext, h.closed⟩

section
variable {P : Program} {l : List Oper} {R : Nat → Value → World → Prop} {St : (Nat → Bool) → World → World → Prop} {W : (Nat → Bool) → (Operand → Value) → World → Prop} {a0 : Act}

theorem AllOpsV.get {ρ0 : Operand → Value} : ∀ {r : List Oper} {k : Nat}, AllOpsV P l R St W ρ0 k r → ∀ {i : Nat} {o : Oper}, r[i]? = some o → OpStepV P l R St W ρ0 (k + i) o
  | [], _, _, i, o, h => by cases h
  | x :: r, k, h, 0, o, hi => by
    simp at hi
    subst hi
    exact h.1
  | x :: r, k, h, i + 1, o, hi => by
    have := AllOpsV.get h.2 (i := i) (o := o) (by simpa using hi)
    rw [show k + (i + 1) = k + 1 + i by omega]
    exact this

theorem RgAtV.stepV (st_refl : ∀ L w, St L w w) (keep : ∀ L i v w w', L i = true → R i v w → St L w w' → R i v w') (hdi : distinctB l = true) (hdst : ∀ o ∈ l, ∀ d, o.dst = some d → d < a0.tmps.size) {Q : Exit → Act → World → Prop} (hops : AllOpsV P l R St W a0.eval 0 l) {listed : Array Bool} {a : Act} {w : World} (h : RgAtV l R W a0 listed a w) {i : Nat} {o : Oper} (ho : l[i]? = some o) (hun : listed[i]? = some false) (hrdy : ∀ k, depOn l i k = true → listed[k]? = some true) :
    if Region.wanted o (yielded l.toArray a.tmps) then o.wp P a w (fun a' w' => RgAtV l R W a0 (listed.setIfInBounds i true) a' w') Q else RgAtV l R W a0 (listed.setIfInBounds i true) (a.put o.dst undef) w := by
  have hi : i < listed.size := (Array.getElem?_eq_some_iff.1 hun).1
  have hs := (hops.get ho) a.eval w (lst listed) h.st (by simp [lst, hun]) (fun j k hj hk => by unfold lst at hj ⊢; rw [beq_iff_eq] at hj ⊢; exact h.closed j k hj hk) (fun k hk => by unfold lst; rw [beq_iff_eq]; exact hrdy k (by simpa using hk)) (fun j oj hj hd => h.done j oj hj (hrdy j (by simpa using hd))) (fun t ht => by
    have hx := h.ext t (fun j oj hj hd => by
      have hdep := extFrom_get ht hj hd
      rw [Nat.zero_add, Nat.zero_add] at hdep
      have hjl : j < listed.size := by rw [h.ls]; exact (List.getElem?_eq_some_iff.1 hj).1
      rw [Array.getElem?_eq_getElem hjl]
      cases hb : listed[j] with
      | false => rfl
      | true =>
        have := h.closed j i (by rw [Array.getElem?_eq_getElem hjl, hb]) hdep
        rw [hun] at this
        cases this)
    simp only [Act.eval, Array.getD_eq_getD_getElem?, hx]) (fun _ => rfl) (fun _ => rfl) (fun _ => rfl)
  rw [Nat.zero_add] at hs
  have hlst : lst (listed.setIfInBounds i true) = fun j => j == i || lst listed j := by
    funext j
    unfold lst
    by_cases hji : j = i
    · subst hji; simp [hi]
    · rw [Array.getElem?_setIfInBounds_ne (fun e => hji e.symm)]; simp [hji]
  have next : ∀ v w', R i (leftV o v) w' → St (lst listed) w w' → (∀ ρ' : Operand → Value, (∀ t, o.dst ≠ some t → ρ' (.tmp t) = a.eval (.tmp t)) → (∀ d, o.dst = some d → ρ' (.tmp d) = v) → W (fun j => j == i || lst listed j) ρ' w') → RgAtV l R W a0 (listed.setIfInBounds i true) (a.put o.dst v) w' := by
    intro v w' hv hst hW
    have hset : ∀ j, j ≠ i → (listed.setIfInBounds i true)[j]? = listed[j]? := fun j hj => Array.getElem?_setIfInBounds_ne (fun e => hj e.symm)
    have hseti : (listed.setIfInBounds i true)[i]? = some true := by simp [hi]
    refine ⟨by simp [h.ls], by rw [put_size, h.size], by rw [put_defers, h.defers], by
      rw [hlst]
      refine hW _ (fun t ht => ?_) (fun d hd => ?_)
      · simp only [Act.eval, Array.getD_eq_getD_getElem?, put_get_ne a ht]
      · have hlt : d < a.tmps.size := by rw [h.size]; exact hdst o (List.mem_of_getElem? ho) d hd
        rw [hd]
        simp only [Act.eval, Array.getD_eq_getD_getElem?, put_get_same a hlt, Option.getD_some], ?_, ?_, ?_⟩
    · intro j oj hj hl
      by_cases hji : j = i
      · subst hji
        have e := ho.symm.trans hj
        have e := Option.some.inj e
        subst e
        have : slotV (a.put o.dst v).eval o = leftV o v := by
          unfold slotV leftV
          cases hd : o.dst with
          | none => rfl
          | some d =>
            have hlt : d < a.tmps.size := by rw [h.size]; exact hdst o (List.mem_of_getElem? ho) d hd
            simp only [Act.eval, Array.getD_eq_getD_getElem?, put_get_same a hlt]
            rfl
        rw [this]
        exact hv
      · rw [hset j hji] at hl
        have hr := h.done j oj hj hl
        have e : slotV (a.put o.dst v).eval oj = slotV a.eval oj := by
          unfold slotV
          cases hd : oj.dst with
          | none => rfl
          | some d =>
            have : o.dst ≠ some d := fun e => hji (distinct_get hdi hj ho hd e)
            simp only [Act.eval, Array.getD_eq_getD_getElem?, put_get_ne a this]
        rw [e]
        exact keep (lst listed) _ _ _ _ (by unfold lst; rw [hl]; rfl) hr hst
    · intro t ht
      have hne : o.dst ≠ some t := fun e => by
        have := ht i o ho e
        rw [hseti] at this
        cases this
      rw [put_get_ne a hne]
      refine h.ext t (fun j oj hj hd => ?_)
      have := ht j oj hj hd
      by_cases hji : j = i
      · subst hji; rw [hseti] at this; cases this
      · rw [hset j hji] at this; exact this
    · intro j k hj hd
      by_cases hji : j = i
      · subst hji
        have := hrdy k hd
        by_cases hki : k = j
        · subst hki; exact hseti
        · rw [hset k hki]; exact this
      · rw [hset j hji] at hj
        have := h.closed j k hj hd
        by_cases hki : k = i
        · subst hki; exact hseti
        · rw [hset k hki]; exact this
  rw [wanted_eq]
  by_cases hw : wantedR l o a.eval = true
  · rw [if_pos hw] at hs ⊢
    exact hs.wp (fun v w' ⟨h1, h2, h3⟩ => next v w' h1 h2 h3)
  · rw [if_neg hw] at hs ⊢
    have e : leftV o undef = undef := by unfold leftV; cases o.dst <;> rfl
    exact next undef w (by rw [e]; exact hs.1) (st_refl _ w) hs.2


end
end

section
open Go.RowKit

def acycB : Nat → List Oper → Bool
  | _, [] => true
  | k, o :: l => o.after.all (fun e => !Region.binds .any e || decide (e.on < k)) && acycB (k + 1) l
theorem acycB_get : ∀ {r : List Oper} {k : Nat}, acycB k r = true → ∀ {i : Nat} {o : Oper}, r[i]? = some o → ∀ e ∈ o.after, Region.binds .any e = true → e.on < k + i
  | [], _, _, i, o, h => by cases h
  | x :: r, k, h, 0, o, hi => by
    simp at hi
    subst hi
    simp only [acycB, Bool.and_eq_true] at h
    intro e he hb
    have := Array.all_eq_true_iff_forall_mem.1 h.1 e he
    rw [hb] at this
    simpa using this
  | x :: r, k, h, i + 1, o, hi => by
    simp only [acycB, Bool.and_eq_true] at h
    intro e he hb
    have := acycB_get h.2 (i := i) (o := o) (by simpa using hi) e he hb
    omega
theorem not_readyB {l : List Oper} (hac : acycB 0 l = true) {listed : Array Bool} (hs : listed.size = l.length) (h : Region.ready .any l.toArray listed = []) : ∀ i, i < l.length → listed[i]? = some true := by
  intro i
  induction i using Nat.strongRecOn with
  | ind i ih =>
    intro hi
    have hil : i < listed.size := by omega
    rw [Array.getElem?_eq_getElem hil]
    cases hb : listed[i] with
    | true => rfl
    | false =>
      exfalso
      have : i ∈ Region.ready .any l.toArray listed := by
        unfold Region.ready
        refine List.mem_filter.2 ⟨by simpa using hi, ?_⟩
        rw [Array.getD_eq_getD_getElem?, Array.getElem?_eq_getElem hil, hb]
        simp only [List.getElem?_toArray, List.getElem?_eq_getElem hi, Option.map_some, Option.getD_some, Bool.not_false, Bool.true_and]
        refine Array.all_eq_true.2 (fun q hq => ?_)
        cases hbd : Region.binds .any (l[i].after[q]) with
        | false => simp
        | true =>
        have hlt := acycB_get hac (List.getElem?_eq_getElem hi) _ (Array.getElem_mem hq) hbd
        rw [Nat.zero_add] at hlt
        have := ih _ hlt (by omega)
        rw [Array.getD_eq_getD_getElem?, this]
        simp
      rw [h] at this
      cases this

section
variable {P : Program} {l : List Oper} {R : Nat → Value → World → Prop} {St : (Nat → Bool) → World → World → Prop} {W : (Nat → Bool) → World → Prop} {a0 : Act}
end
end
end Go.Proofs.YthknobbilcolnaaGreat
