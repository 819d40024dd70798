/- A region, in whatever order its operations come up: one goal for each operation, and one for what stands behind it. No condition. Single operations over rows of cells: loads, stores, new variables, calls, append, copy. No condition. Decode of package vote and of the reference. Conditions: sizes. Decode of signed votes, of package signed and of the reference. Conditions: sizes. 'ordered' of package snapshot. Conditions: sizes. Encode of package snapshot. Conditions: sizes. Package cursor: New, Uint, Fixed, Bytes, OK, Done. Conditions: sizes. -/
import Derived.Orders
import Derived.Below
import Derived.Deep.Draws
import Derived.Test.YtengcmfdfmnacaaGreatJn1
import Derived.Deep.MidRow
import Derived.Test.YtengcmfdfmnacaaGreatJn4
import Derived.Outline
import Derived.Deep.RegionHeld3
namespace Go.Proofs.YtengcmfdfmnacaaGreat
section
open Go.RowKit

/-- Operation o, its operands read by ρ, runs to its end and leaves a value and a world that 'post' holds of. -/
def OpDone (P : Program) (o : Oper) (ρ : Operand → Value) (w : World) (post : Value → World → Prop) : Prop :=
  match (execOp ρ o).run P w with
  | .ok (.value v) w' => post v w'
  | .ok .skip w' => post undef w'
  | .ok (.enter f args) w' => Calls P f args w' fun e w'' => ∃ v, e = .returned v ∧ post v w''
  | _ => False

theorem OpDone.wp {P : Program} {o : Oper} {a : Act} {w : World} {post : Value → World → Prop} {K : Act → World → Prop} {Q : Exit → Act → World → Prop} (h : OpDone P o a.eval w post) (hk : ∀ v w', post v w' → K (a.put o.dst v) w') : o.wp P a w K Q := by
  unfold OpDone at h
  unfold Oper.wp
  generalize (execOp a.eval o).run P w = r at *
  cases r with
  | ok n w' =>
    cases n with
    | value v => exact hk _ _ h
    | skip => exact hk _ _ h
    | enter f args => exact Calls.mono h (fun e w'' ⟨v, he, hp⟩ => by subst he; exact hk _ _ hp)
    | _ => exact h.elim
  | halt x w' => exact h.elim

theorem OpDone.mono {P : Program} {o : Oper} {ρ : Operand → Value} {w : World} {post post' : Value → World → Prop} (h : OpDone P o ρ w post) (hp : ∀ v w', post v w' → post' v w') : OpDone P o ρ w post' := by
  unfold OpDone at *
  generalize (execOp ρ o).run P w = r at *
  cases r with
  | ok n w' =>
    cases n with
    | value v => exact hp _ _ h
    | skip => exact hp _ _ h
    | enter f args => exact Calls.mono h (fun e w'' ⟨v, he, hq⟩ => ⟨v, he, hp _ _ hq⟩)
    | _ => exact h.elim
  | halt x w' => exact h.elim

/-- Op i waits for op j. -/
def depOn (l : List Oper) (i j : Nat) : Bool := match l[i]? with | none => false | some o => o.after.any fun e => e.on == j && Region.binds .any e
/-- Whoever writes slot t waits for op i. -/
def extFrom (l : List Oper) (i t : Nat) : Nat → List Oper → Bool
  | _, [] => true
  | j, o :: r => (o.dst != some t || depOn l j i) && extFrom l i t (j + 1) r
def extOk (l : List Oper) (i t : Nat) : Bool := extFrom l i t 0 l
def acycFrom : Nat → List Oper → Bool
  | _, [] => true
  | k, o :: l => o.after.all (fun e => decide (e.on < k)) && acycFrom (k + 1) l
def distinctB : List Oper → Bool
  | [] => true
  | o :: l => (match o.dst with | none => true | some d => l.all fun p => p.dst != some d) && distinctB l
def slotV (ρ : Operand → Value) (o : Oper) : Value := match o.dst with | some d => ρ (.tmp d) | none => undef
def leftV (o : Oper) (v : Value) : Value := match o.dst with | some _ => v | none => undef
def wantedR (l : List Oper) (o : Oper) (ρ : Operand → Value) : Bool := match o.guard with
  | none => true
  | some (g, b) => match (l[g]?).bind (·.dst) with
    | none => false
    | some d => match ρ (.tmp d) with | .bool c => c == b | _ => false
/-- What op number i is owed: L says which operations have run; W what the world is like then. -/
def OpStep (P : Program) (l : List Oper) (R : Nat → Value → World → Prop) (St : World → World → Prop) (W : (Nat → Bool) → World → Prop) (ρ0 : Operand → Value) (i : Nat) (o : Oper) : Prop :=
  ∀ (ρ : Operand → Value) (w : World) (L : Nat → Bool), W L w → L i = false → (∀ j k, L j = true → depOn l j k = true → L k = true) → (∀ k, depOn l i k = true → L k = true) → (∀ j oj, l[j]? = some oj → depOn l i j = true → R j (slotV ρ oj) w) → (∀ t, extOk l i t = true → ρ (.tmp t) = ρ0 (.tmp t)) → (∀ v, ρ (.const v) = v) → (∀ g, ρ (.global g) = .pointer (some ⟨g, 0, none⟩)) → (∀ f, ρ (.func f) = .func (.func f) #[] #[]) →
    if wantedR l o ρ = true then OpDone P o ρ w (fun v w' => R i (leftV o v) w' ∧ St w w' ∧ W (fun j => j == i || L j) w') else R i undef w ∧ W (fun j => j == i || L j) w
theorem OpStep.plain {P : Program} {l : List Oper} {R : Nat → Value → World → Prop} {St : World → World → Prop} {w0 : World} {ρ0 : Operand → Value} {i : Nat} {o : Oper} (st_trans : ∀ {x y z}, St x y → St y z → St x z) (hg : o.guard = none)
    (h : ∀ (ρ : Operand → Value) (w : World), St w0 w → (∀ j oj, l[j]? = some oj → depOn l i j = true → R j (slotV ρ oj) w) → (∀ t, extOk l i t = true → ρ (.tmp t) = ρ0 (.tmp t)) → (∀ v, ρ (.const v) = v) → (∀ g, ρ (.global g) = .pointer (some ⟨g, 0, none⟩)) → (∀ f, ρ (.func f) = .func (.func f) #[] #[]) → OpDone P o ρ w (fun v w' => R i (leftV o v) w' ∧ St w w')) : OpStep P l R St (fun _ w => St w0 w) ρ0 i o := by
  intro ρ w L h1 _ _ _ h2 h3 h4 h5 h6
  rw [if_pos (by unfold wantedR; rw [hg])]
  exact (h ρ w h1 h2 h3 h4 h5 h6).mono (fun v w' ⟨a, b⟩ => ⟨a, b, st_trans h1 b⟩)
def AllOps (P : Program) (l : List Oper) (R : Nat → Value → World → Prop) (St : World → World → Prop) (W : (Nat → Bool) → World → Prop) (ρ0 : Operand → Value) : Nat → List Oper → Prop
  | _, [] => True
  | i, o :: r => OpStep P l R St W ρ0 i o ∧ AllOps P l R St W ρ0 (i + 1) r
def putAll : List Oper → (Nat → Value) → Nat → Act → Act
  | [], _, _, a => a
  | o :: l, vs, k, a => putAll l vs (k + 1) (a.put o.dst (vs k))

section
variable {P : Program} {l : List Oper} {R : Nat → Value → World → Prop} {St : World → World → Prop} {W : (Nat → Bool) → World → Prop} {a0 : Act}

theorem AllOps.get {ρ0 : Operand → Value} : ∀ {r : List Oper} {k : Nat}, AllOps P l R St W ρ0 k r → ∀ {i : Nat} {o : Oper}, r[i]? = some o → OpStep P l R St W ρ0 (k + i) o
  | [], _, _, i, o, h => by cases h
  | x :: r, k, h, 0, o, hi => by
    simp at hi
    subst hi
    exact h.1
  | x :: r, k, h, i + 1, o, hi => by
    have := AllOps.get h.2 (i := i) (o := o) (by simpa using hi)
    rw [show k + (i + 1) = k + 1 + i by omega]
    exact this
theorem extFrom_get {i t : Nat} : ∀ {r : List Oper} {k : Nat}, extFrom l i t k r = true → ∀ {j : Nat} {o : Oper}, r[j]? = some o → o.dst = some t → depOn l (k + j) i = true
  | [], _, _, j, o, h, _ => by cases h
  | x :: r, k, h, 0, o, hi, hd => by
    simp at hi
    subst hi
    simp only [extFrom, Bool.and_eq_true, Bool.or_eq_true] at h
    rcases h.1 with e | e
    · rw [hd] at e; simp at e
    · exact e
  | x :: r, k, h, j + 1, o, hi, hd => by
    simp only [extFrom, Bool.and_eq_true] at h
    have := extFrom_get h.2 (j := j) (o := o) (by simpa using hi) hd
    rw [show k + (j + 1) = k + 1 + j by omega]
    exact this
theorem acyc_get : ∀ {r : List Oper} {k : Nat}, acycFrom k r = true → ∀ {i : Nat} {o : Oper}, r[i]? = some o → ∀ e ∈ o.after, e.on < k + i
  | [], _, _, i, o, h => by cases h
  | x :: r, k, h, 0, o, hi => by
    simp at hi
    subst hi
    simp only [acycFrom, Bool.and_eq_true] at h
    intro e he
    have := Array.all_eq_true_iff_forall_mem.1 h.1 e he
    simpa using this
  | x :: r, k, h, i + 1, o, hi => by
    simp only [acycFrom, Bool.and_eq_true] at h
    intro e he
    have := acyc_get h.2 (i := i) (o := o) (by simpa using hi) e he
    omega
theorem distinct_get : ∀ {r : List Oper}, distinctB r = true → ∀ {i j : Nat} {x y : Oper} {d : Nat}, r[i]? = some x → r[j]? = some y → x.dst = some d → y.dst = some d → i = j
  | [], _, i, j, x, y, d, h, _, _, _ => by cases h
  | o :: r, h, 0, 0, x, y, d, _, _, _, _ => rfl
  | o :: r, h, 0, j + 1, x, y, d, hx, hy, dx, dy => by
    simp at hx
    subst hx
    simp only [distinctB, dx, Bool.and_eq_true, List.all_eq_true] at h
    have := h.1 y (List.mem_of_getElem? (by simpa using hy))
    rw [dy] at this
    simp at this
  | o :: r, h, i + 1, 0, x, y, d, hx, hy, dx, dy => by
    simp at hy
    subst hy
    simp only [distinctB, dy, Bool.and_eq_true, List.all_eq_true] at h
    have := h.1 x (List.mem_of_getElem? (by simpa using hx))
    rw [dx] at this
    simp at this
  | o :: r, h, i + 1, j + 1, x, y, d, hx, hy, dx, dy => by
    simp only [distinctB, Bool.and_eq_true] at h
    have := distinct_get h.2 (i := i) (j := j) (x := x) (y := y) (by simpa using hx) (by simpa using hy) dx dy
    omega
theorem put_size (a : Act) (d : Option Tmp) (v : Value) : (a.put d v).tmps.size = a.tmps.size := by cases d <;> simp [Act.put]
theorem put_defers (a : Act) (d : Option Tmp) (v : Value) : (a.put d v).defers = a.defers := by cases d <;> rfl
theorem put_get_ne (a : Act) {d : Option Tmp} {v : Value} {t : Nat} (h : d ≠ some t) : (a.put d v).tmps[t]? = a.tmps[t]? := by
  cases d with
  | none => rfl
  | some d => simp [Act.put, Array.getElem?_setIfInBounds_ne (show d ≠ t from fun e => h (by rw [e]))]
theorem put_get_same (a : Act) {v : Value} {t : Nat} (h : t < a.tmps.size) : (a.put (some t) v).tmps[t]? = some v := by simp [Act.put, h]
theorem putAll_size : ∀ (r : List Oper) (vs : Nat → Value) (k : Nat) (a : Act), (putAll r vs k a).tmps.size = a.tmps.size
  | [], _, _, _ => rfl
  | o :: r, vs, k, a => by rw [putAll, putAll_size, put_size]
theorem putAll_defers : ∀ (r : List Oper) (vs : Nat → Value) (k : Nat) (a : Act), (putAll r vs k a).defers = a.defers
  | [], _, _, _ => rfl
  | o :: r, vs, k, a => by rw [putAll, putAll_defers, put_defers]
theorem putAll_none : ∀ (r : List Oper) (vs : Nat → Value) (k : Nat) (a : Act) (t : Nat), (∀ o ∈ r, o.dst ≠ some t) → (putAll r vs k a).tmps[t]? = a.tmps[t]?
  | [], _, _, _, _, _ => rfl
  | o :: r, vs, k, a, t, h => by rw [putAll, putAll_none r vs (k + 1) _ t (fun x hx => h x (by simp [hx])), put_get_ne a (h o (by simp))]
theorem putAll_some : ∀ (r : List Oper) (vs : Nat → Value) (k : Nat) (a : Act) (t i : Nat) (o : Oper), distinctB r = true → r[i]? = some o → o.dst = some t → t < a.tmps.size → (putAll r vs k a).tmps[t]? = some (vs (k + i))
  | [], _, _, _, _, _, _, _, h, _, _ => by cases h
  | x :: r, vs, k, a, t, 0, o, hd, hi, ho, ht => by
    simp at hi
    subst hi
    rw [putAll, putAll_none, ho, put_get_same a ht]
    · rfl
    · intro y hy e
      simp only [distinctB, ho, Bool.and_eq_true, List.all_eq_true] at hd
      have := hd.1 y hy
      rw [e] at this
      simp at this
  | x :: r, vs, k, a, t, i + 1, o, hd, hi, ho, ht => by
    simp only [distinctB, Bool.and_eq_true] at hd
    rw [putAll, putAll_some r vs (k + 1) _ t i o hd.2 (by simpa using hi) ho (by rw [put_size]; exact ht)]
    congr 2
    omega
theorem Act.ext' {a b : Act} (h1 : a.tmps = b.tmps) (h2 : a.defers = b.defers) : a = b := by cases a; cases b; simp_all

def unl : List Bool → Nat
  | [] => 0
  | b :: l => (if b then 0 else 1) + unl l
theorem unl_set : ∀ (l : List Bool) (i : Nat), l[i]? = some false → unl (l.set i true) + 1 = unl l
  | [], _, h => by cases h
  | b :: l, 0, h => by simp at h; subst h; simp [unl]; omega
  | b :: l, i + 1, h => by
    have := unl_set l i (by simpa using h)
    simp only [List.set_cons_succ, unl]
    omega
theorem unl_zero : ∀ (l : List Bool), unl l = 0 → ∀ b ∈ l, b = true
  | [], _, _, h => by cases h
  | b :: l, h, c, hc => by
    simp only [unl] at h
    rcases List.mem_cons.1 hc with rfl | hc
    · cases c
      · simp at h
      · rfl
    · exact unl_zero l (by omega) c hc
theorem unl_replicate : ∀ n, unl (List.replicate n false) = n
  | 0 => rfl
  | n + 1 => by rw [List.replicate_succ, unl, unl_replicate n]; simp; omega

theorem wanted_eq (o : Oper) (a : Act) : Region.wanted o (yielded l.toArray a.tmps) = wantedR l o a.eval := by
  unfold Region.wanted wantedR
  cases o.guard with
  | none => rfl
  | some p =>
    obtain ⟨g, b⟩ := p
    simp only [yielded, List.getElem?_toArray]
    cases (l[g]?).bind (·.dst) with
    | none => simp
    | some d =>
      simp only [Option.bind_some, Act.eval]
      rw [Array.getD_eq_getD_getElem?]
      cases a.tmps[d]? with
      | none => simp [undef]
      | some v => cases v <;> simp

/-- Where the region stands. -/
def lst (listed : Array Bool) : Nat → Bool := fun j => listed[j]? == some true
structure RgAt (l : List Oper) (R : Nat → Value → World → Prop) (W : (Nat → Bool) → World → Prop) (a0 : Act) (listed : Array Bool) (a : Act) (w : World) : Prop where
  ls : listed.size = l.length
  size : a.tmps.size = a0.tmps.size
  defers : a.defers = a0.defers
  st : W (lst listed) w
  done : ∀ (j : Nat) oj, l[j]? = some oj → listed[j]? = some true → R j (slotV a.eval oj) w
  ext : ∀ t, (∀ (j : Nat) oj, l[j]? = some oj → oj.dst = some t → listed[j]? = some false) → a.tmps[t]? = a0.tmps[t]?
  closed : ∀ (j k : Nat), listed[j]? = some true → depOn l j k = true → listed[k]? = some true

theorem RgAt.step (st_refl : ∀ w, St w w) (keep : ∀ i v w w', R i v w → St w w' → R i v w') (hdi : distinctB l = true) (hdst : ∀ o ∈ l, ∀ d, o.dst = some d → d < a0.tmps.size) {Q : Exit → Act → World → Prop} (hops : AllOps P l R St W a0.eval 0 l) {listed : Array Bool} {a : Act} {w : World} (h : RgAt l R W a0 listed a w) {i : Nat} {o : Oper} (ho : l[i]? = some o) (hun : listed[i]? = some false) (hrdy : ∀ k, depOn l i k = true → listed[k]? = some true) :
    if Region.wanted o (yielded l.toArray a.tmps) then o.wp P a w (fun a' w' => RgAt l R W a0 (listed.setIfInBounds i true) a' w') Q else RgAt l R W a0 (listed.setIfInBounds i true) (a.put o.dst undef) w := by
  have hi : i < listed.size := (Array.getElem?_eq_some_iff.1 hun).1
  have hs := (hops.get ho) a.eval w (lst listed) h.st (by simp [lst, hun]) (fun j k hj hk => by unfold lst at hj ⊢; rw [beq_iff_eq] at hj ⊢; exact h.closed j k hj hk) (fun k hk => by unfold lst; rw [beq_iff_eq]; exact hrdy k (by simpa using hk)) (fun j oj hj hd => h.done j oj hj (hrdy j (by simpa using hd))) (fun t ht => by
    have hx := h.ext t (fun j oj hj hd => by
      have hdep := extFrom_get ht hj hd
      rw [Nat.zero_add, Nat.zero_add] at hdep
      have hjl : j < listed.size := by rw [h.ls]; exact (List.getElem?_eq_some_iff.1 hj).1
      rw [Array.getElem?_eq_getElem hjl]
      cases hb : listed[j] with
      | false => rfl
      | true =>
        have := h.closed j i (by rw [Array.getElem?_eq_getElem hjl, hb]) hdep
        rw [hun] at this
        cases this)
    simp only [Act.eval, Array.getD_eq_getD_getElem?, hx]) (fun _ => rfl) (fun _ => rfl) (fun _ => rfl)
  rw [Nat.zero_add] at hs
  have hlst : lst (listed.setIfInBounds i true) = fun j => j == i || lst listed j := by
    funext j
    unfold lst
    by_cases hji : j = i
    · subst hji; simp [hi]
    · rw [Array.getElem?_setIfInBounds_ne (fun e => hji e.symm)]; simp [hji]
  have next : ∀ v w', R i (leftV o v) w' → St w w' → W (fun j => j == i || lst listed j) w' → RgAt l R W a0 (listed.setIfInBounds i true) (a.put o.dst v) w' := by
    intro v w' hv hst hW
    have hset : ∀ j, j ≠ i → (listed.setIfInBounds i true)[j]? = listed[j]? := fun j hj => Array.getElem?_setIfInBounds_ne (fun e => hj e.symm)
    have hseti : (listed.setIfInBounds i true)[i]? = some true := by simp [hi]
    refine ⟨by simp [h.ls], by rw [put_size, h.size], by rw [put_defers, h.defers], by rw [hlst]; exact hW, ?_, ?_, ?_⟩
    · intro j oj hj hl
      by_cases hji : j = i
      · subst hji
        have e := ho.symm.trans hj
        have e := Option.some.inj e
        subst e
        have : slotV (a.put o.dst v).eval o = leftV o v := by
          unfold slotV leftV
          cases hd : o.dst with
          | none => rfl
          | some d =>
            have hlt : d < a.tmps.size := by rw [h.size]; exact hdst o (List.mem_of_getElem? ho) d hd
            simp only [Act.eval, Array.getD_eq_getD_getElem?, put_get_same a hlt]
            rfl
        rw [this]
        exact hv
      · rw [hset j hji] at hl
        have hr := h.done j oj hj hl
        have e : slotV (a.put o.dst v).eval oj = slotV a.eval oj := by
          unfold slotV
          cases hd : oj.dst with
          | none => rfl
          | some d =>
            have : o.dst ≠ some d := fun e => hji (distinct_get hdi hj ho hd e)
            simp only [Act.eval, Array.getD_eq_getD_getElem?, put_get_ne a this]
        rw [e]
        exact keep _ _ _ _ hr hst
    · intro t ht
      have hne : o.dst ≠ some t := fun e => by
        have := ht i o ho e
        rw [hseti] at this
        cases this
      rw [put_get_ne a hne]
      refine h.ext t (fun j oj hj hd => ?_)
      have := ht j oj hj hd
      by_cases hji : j = i
      · subst hji; rw [hseti] at this; cases this
      · rw [hset j hji] at this; exact this
    · intro j k hj hd
      by_cases hji : j = i
      · subst hji
        have := hrdy k hd
        by_cases hki : k = j
        · subst hki; exact hseti
        · rw [hset k hki]; exact this
      · rw [hset j hji] at hj
        have := h.closed j k hj hd
        by_cases hki : k = i
        · subst hki; exact hseti
        · rw [hset k hki]; exact this
  rw [wanted_eq]
  by_cases hw : wantedR l o a.eval = true
  · rw [if_pos hw] at hs ⊢
    exact hs.wp (fun v w' ⟨h1, h2, h3⟩ => next v w' h1 h2 h3)
  · rw [if_neg hw] at hs ⊢
    have e : leftV o undef = undef := by unfold leftV; cases o.dst <;> rfl
    exact next undef w (by rw [e]; exact hs.1) (st_refl w) hs.2

theorem RgAt.fin (hdi : distinctB l = true) {listed : Array Bool} {a : Act} {w : World} (h : RgAt l R W a0 listed a w) (hall : ∀ b ∈ listed.toList, b = true) :
    ∃ vs : Nat → Value, a = putAll l vs 0 a0 ∧ ∀ (i : Nat) o, l[i]? = some o → R i (leftV o (vs i)) w := by
  refine ⟨fun i => match l[i]? with | some o => slotV a.eval o | none => undef, ?_, ?_⟩
  · refine Act.ext' ?_ (by rw [putAll_defers, h.defers])
    apply Array.ext_getElem?
    intro t
    by_cases ht : t < a.tmps.size
    · by_cases hd : ∃ (i : Nat) (o : Oper), l[i]? = some o ∧ o.dst = some t
      · obtain ⟨i, o, ho, hd⟩ := hd
        rw [putAll_some l _ 0 a0 t i o hdi ho hd (by rw [← h.size]; exact ht), Nat.zero_add]
        simp only [ho]
        unfold slotV
        simp only [hd, Act.eval, Array.getD_eq_getD_getElem?]
        rw [Array.getElem?_eq_getElem ht]
        rfl
      · rw [putAll_none l _ 0 a0 t (fun o ho e => by
          obtain ⟨i, hi⟩ := List.getElem?_of_mem ho
          exact hd ⟨i, o, hi, e⟩)]
        exact h.ext t (fun j oj hj e => absurd ⟨j, oj, hj, e⟩ hd)
    · rw [Array.getElem?_eq_none (by omega), Array.getElem?_eq_none (by rw [putAll_size, ← h.size]; omega)]
  · intro i o ho
    have hi : i < listed.size := by rw [h.ls]; exact (List.getElem?_eq_some_iff.1 ho).1
    have := h.done i o ho (by rw [Array.getElem?_eq_getElem hi, hall listed[i] (by simp)])
    simp only [ho]
    unfold leftV
    cases hd : o.dst with
    | none => unfold slotV at this; rw [hd] at this; exact this
    | some d => exact this

theorem ready_iff {listed : Array Bool} (hs : listed.size = l.length) {i : Nat} (h : i ∈ Region.ready .any l.toArray listed) : ∃ o, l[i]? = some o ∧ listed[i]? = some false ∧ ∀ k, depOn l i k = true → listed[k]? = some true := by
  unfold Region.ready at h
  obtain ⟨h1, h2⟩ := List.mem_filter.1 h
  have hi : i < l.length := by simpa using h1
  have hil : i < listed.size := by omega
  refine ⟨l[i], List.getElem?_eq_getElem hi, ?_, ?_⟩
  · simp only [Bool.and_eq_true] at h2
    have := h2.1
    rw [Array.getD_eq_getD_getElem?, Array.getElem?_eq_getElem hil] at this
    rw [Array.getElem?_eq_getElem hil]
    simpa using this
  · intro k hk
    simp only [Bool.and_eq_true] at h2
    have h3 := h2.2
    unfold depOn at hk
    rw [List.getElem?_eq_getElem hi] at hk
    obtain ⟨q, hq, hk⟩ := Array.any_eq_true.1 hk
    simp only [Bool.and_eq_true, beq_iff_eq] at hk
    simp only [List.getElem?_toArray, List.getElem?_eq_getElem hi, Option.map_some, Option.getD_some] at h3
    have h4 := Array.all_eq_true.1 h3 q hq
    rw [hk.2, hk.1] at h4
    simp only [Bool.not_true, Bool.false_or] at h4
    rw [Array.getD_eq_getD_getElem?] at h4
    cases hl : listed[k]? with
    | none => rw [hl] at h4; cases h4
    | some b => rw [hl] at h4; simp at h4; rw [h4]
theorem not_ready (hac : acycFrom 0 l = true) {listed : Array Bool} (hs : listed.size = l.length) (h : Region.ready .any l.toArray listed = []) : ∀ i, i < l.length → listed[i]? = some true := by
  intro i
  induction i using Nat.strongRecOn with
  | ind i ih =>
    intro hi
    have hil : i < listed.size := by omega
    rw [Array.getElem?_eq_getElem hil]
    cases hb : listed[i] with
    | true => rfl
    | false =>
      exfalso
      have : i ∈ Region.ready .any l.toArray listed := by
        unfold Region.ready
        refine List.mem_filter.2 ⟨by simpa using hi, ?_⟩
        rw [Array.getD_eq_getD_getElem?, Array.getElem?_eq_getElem hil, hb]
        simp only [List.getElem?_toArray, List.getElem?_eq_getElem hi, Option.map_some, Option.getD_some, Bool.not_false, Bool.true_and]
        refine Array.all_eq_true.2 (fun q hq => ?_)
        have hlt := acyc_get hac (List.getElem?_eq_getElem hi) _ (Array.getElem_mem hq)
        rw [Nat.zero_add] at hlt
        have := ih _ hlt (by omega)
        rw [Array.getD_eq_getD_getElem?, this]
        simp
      rw [h] at this
      cases this

theorem RgAt.any (st_refl : ∀ w, St w w) (keep : ∀ i v w w', R i v w → St w w' → R i v w') (hac : acycFrom 0 l = true) (hdi : distinctB l = true) (hdst : ∀ o ∈ l, ∀ d, o.dst = some d → d < a0.tmps.size) {Q : Exit → Act → World → Prop} (hops : AllOps P l R St W a0.eval 0 l) (hend : ∀ (vs : Nat → Value) (w : World) (L : Nat → Bool), (∀ i, i < l.length → L i = true) → W L w → (∀ (i : Nat) o, l[i]? = some o → R i (leftV o (vs i)) w) → Q .normal (putAll l vs 0 a0) w) :
    ∀ (fuel : Nat) (listed : Array Bool) (a : Act) (w : World), unl listed.toList ≤ fuel → RgAt l R W a0 listed a w → wpAny P .any l.toArray Q fuel listed a w := by
  have fin : ∀ (listed : Array Bool) (a : Act) (w : World), RgAt l R W a0 listed a w → Region.ready .any l.toArray listed = [] → Q .normal a w := by
    intro listed a w h hr
    have hn := not_ready hac h.ls hr
    obtain ⟨vs, rfl, hv⟩ := h.fin hdi (fun b hb => by
      obtain ⟨i, hi⟩ := List.getElem?_of_mem hb
      have hlt : i < l.length := by rw [← h.ls]; have := (List.getElem?_eq_some_iff.1 hi).1; simpa using this
      have := hn i hlt
      have hi' : listed[i]? = some b := by simpa using hi
      rw [hi'] at this
      exact Option.some.inj this)
    exact hend vs w (lst listed) (fun i hi => by unfold lst; rw [beq_iff_eq]; exact hn i hi) h.st hv
  intro fuel
  induction fuel with
  | zero =>
    intro listed a w hu h
    have hz := unl_zero _ (by omega : unl listed.toList = 0)
    have hr : Region.ready .any l.toArray listed = [] := by
      apply List.eq_nil_iff_forall_not_mem.2
      intro i hi
      obtain ⟨o, _, h2, _⟩ := ready_iff h.ls hi
      have := hz false (List.mem_of_getElem? (i := i) (by simpa using h2))
      cases this
    exact ⟨hr, fin listed a w h hr⟩
  | succ fuel ih =>
    intro listed a w hu h
    refine ⟨fun hr => fin listed a w h hr, fun i hi => ?_⟩
    obtain ⟨o, h1, h2, h3⟩ := ready_iff h.ls hi
    have hs := h.step st_refl keep hdi hdst (Q := Q) hops h1 h2 h3
    have hun : unl (listed.setIfInBounds i true).toList ≤ fuel := by
      have := unl_set listed.toList i (by simpa using h2)
      rw [Array.toList_setIfInBounds]
      omega
    unfold wpOp
    simp only [List.getElem?_toArray, h1]
    split
    · rename_i hw
      rw [if_pos hw] at hs
      exact .inl (Oper.wp_mono (fun a' w' h' => ih _ a' w' hun h') hs)
    · rename_i hw
      rw [if_neg hw] at hs
      exact ih _ _ _ hun hs
end

/-- A region that draws its order, by phases. -/
theorem wp_region_rgw {P : Program} {l : List Oper} {a0 : Act} {w0 : World} {Q : Exit → Act → World → Prop} {id : Nat} (R : Nat → Value → World → Prop) (St : World → World → Prop) (W : (Nat → Bool) → World → Prop) (hm : P.follows .mixedOrders = true) (hac : acycFrom 0 l = true) (hdi : distinctB l = true) (hdst : (l.all fun o => match o.dst with | some d => decide (d < a0.tmps.size) | none => true) = true)
    (st_refl : ∀ w, St w w) (keep : ∀ i v w w', R i v w → St w w' → R i v w') (hW : W (fun _ => false) w0.drew)
    (hops : AllOps P l R St W a0.eval 0 l) (hend : ∀ (vs : Nat → Value) (w : World) (L : Nat → Bool), (∀ i, i < l.length → L i = true) → W L w → (∀ (i : Nat) o, l[i]? = some o → R i (leftV o (vs i)) w) → Q .normal (putAll l vs 0 a0) w) : (Code.region id l.toArray true).wp P Q a0 w0 := by
  have hdst' : ∀ o ∈ l, ∀ d, o.dst = some d → d < a0.tmps.size := fun o ho d hd => by
    have := List.all_eq_true.1 hdst o ho
    rw [hd] at this
    simpa using this
  have hl0 : lst (Array.replicate l.length false) = fun _ => false := by
    funext j
    unfold lst
    rw [Array.getElem?_replicate]
    split <;> rfl
  refine wp_region_any hm ?_
  refine RgAt.any (R := R) (St := St) (W := W) (a0 := a0) st_refl keep hac hdi hdst' hops hend _ _ _ _ ?_ ?_
  · simp [unl_replicate]
  · refine ⟨by simp, rfl, rfl, by simp only [List.size_toArray]; rw [hl0]; exact hW, fun j oj _ h => ?_, fun _ _ => rfl, fun j k h => ?_⟩
    · rw [Array.getElem?_replicate] at h
      split at h
      · cases h
      · cases h
    · rw [Array.getElem?_replicate] at h
      split at h
      · cases h
      · cases h
end

section
open Go.RowKit

section
variable {g : Nat}
theorem Upd.setCells {F : Nat → Prop} {w0 : World} : ∀ (vs : List Value) (o : Nat) {w : World}, Upd F w0 w → (F g ∨ w0.heap.size ≤ g) → Upd F w0 (w.setCells g o vs)
  | [], _, _, h, _ => h
  | v :: r, o, _, h, hg => Upd.setCells r (o + 1) (h.setCell (p := ⟨g, o, none⟩) hg v) hg
theorem Blk.setCells {t : TypeId} : ∀ (vs : List Value) (o : Nat) {w : World} {cur : Array Value}, Blk w g t cur → ∃ cs', Blk (w.setCells g o vs) g t cs' ∧ cs'.size = cur.size
  | [], _, _, cur, h => ⟨cur, h, rfl⟩
  | v :: r, o, w, cur, h => by
    obtain ⟨cs', h1, h2⟩ := Blk.setCells r (o + 1) (h.put o v)
    exact ⟨cs', h1, by rw [h2]; simp⟩
end
section
variable {w : World} {g : Nat} {t : TypeId}
theorem Blk.there {cur : Array Value} (h : Blk w g t cur) {o n : Nat} (hn : o + n ≤ cur.size) : w.there g o n := fun j hj => by
  refine ⟨?_, h.frozen _⟩
  rw [h.cell, Array.getElem?_eq_getElem (by omega)]
  rfl
theorem Blk.setAll {cur cells : Array Value} (h : Blk w g t cur) (hs : cur.size = cells.size) : Blk (w.setCells g 0 cells.toList) g t cells := by
  obtain ⟨cs', h1, h2⟩ := h.setCells (vs := cells.toList) (o := 0)
  have : cs' = cells := by
    apply Array.ext (by omega)
    intro i hi hj
    have e1 := h1.cell i
    have e2 := World.cell?_setCells_in g cells.toList 0 w (fun j hj => (h.there (o := 0) (n := cells.toList.length) (by simp; omega) j hj).1) i (by simpa using hj)
    rw [Nat.zero_add] at e2
    rw [e2, Array.getElem?_eq_getElem hi] at e1
    have e1 := Option.some.inj e1
    rw [← e1]
    simp
  rw [this] at h1
  exact h1
theorem heap_setCells : ∀ (vs : List Value) (o : Nat) (w : World), (w.setCells g o vs).heap.size = w.heap.size
  | [], _, _ => rfl
  | v :: r, o, w => by rw [World.setCells, heap_setCells r]; simp [World.setCell]
end

section
variable {P : Program} {o : Oper} {ρ : Operand → Value} {w : World} {post : Value → World → Prop}
theorem od_of_run {v : Value} {w' : World} (h : (execOp ρ o).run P w = .ok (.value v) w') (hp : post v w') : OpDone P o ρ w post := by
  unfold OpDone
  rw [h]
  exact hp
theorem od_load_row (ty : TypeId) (x : Operand) (ho : o.op = .load ty x) (b off : Nat) (hx : ρ x = .pointer (some ⟨b, off, none⟩)) (cs : List Value) (d : TypeDesc) (hc : w.rangeAt b off cs) (hu : P.underlying ty = some d) (hd : d.isRow = true) (hi : (P.info? ty).map (·.size) = some cs.length) (hp : post (.agg cs.toArray) w) : OpDone P o ρ w post := by
  unfold OpDone execOp
  simp only [ho, hx, Sem.run_bind, Sem.run_pure, run_loadAt_mid w b off ty cs d hc hu hd hi, Result.andThen_ok]
  exact hp
theorem od_store_row (ty : TypeId) (x y : Operand) (ho : o.op = .store ty x y) (g : Nat) (hx : ρ x = .pointer (some ⟨g, 0, none⟩)) (cells : Array Value) (hy : ρ y = .agg cells) (t : TypeId) (cur : Array Value) (hb : Blk w g t cur) (hs : cur.size = cells.size) (hi : (P.info? ty).map (·.size) = some cells.size) (h1 : cells.all (·.oneCell') = true)
    (hp : ∀ w', Blk w' g t cells → Upd (fun k => k = g) w w' → w'.heap.size = w.heap.size → post undef w') : OpDone P o ρ w post := by
  unfold OpDone execOp
  simp only [ho, hx, hy, Instr.storeAt, Instr.sureAddr, Sem.run_bind, Sem.run_pure, Result.andThen_ok, run_storeVar_mid w g 0 ty cells (hb.there (by omega)) hi h1]
  exact hp _ (hb.setAll hs) ((Upd.refl (fun k => k = g) w).setCells (g := g) _ _ (.inl rfl)) (heap_setCells _ _ _)
theorem od_alloc_row (ty : TypeId) (ho : o.op = .alloc ty) (zs : Array Value) (hz : ∀ w, (Instr.alloc ty true (.tuple #[])).run P w = .ok (.pointer (some ⟨w.heap.size, 0, none⟩)) (w.alloc (.cells zs ty)))
    (hp : ∀ w', Blk w' w.heap.size ty zs → Upd NoF w w' → w'.heap.size = w.heap.size + 1 → post (.pointer (some ⟨w.heap.size, 0, none⟩)) w') : OpDone P o ρ w post := by
  unfold OpDone execOp
  simp only [ho, Sem.run_bind, Sem.run_pure, hz, Result.andThen_ok]
  exact hp _ (Blk.new w ty zs) ((Upd.refl NoF w).alloc _) (by simp)
theorem od_append (s x : Operand) (t : TypeId) (ho : o.op = .call { callee := .builtin .append, args := #[s, x], argTypes := #[t, t] })
    (e : TypeId) (i : TypeInfo) (z : Value) (size bytes : Nat) (ht : P.underlying t = some (.slice e)) (hi : P.info? e = some i) (hz : i.zero = some z) (hsize : i.size = size) (hby : i.bytes = bytes) (hzs : z.cells.size = size)
    (v : Value) (n : Nat) (xs : List Value) (hs : ρ s = v) (hown : Own w e size v n xs) (u : Value) (m : Nat) (ys : List Value) (hx : ρ x = u) (hr : Rd w size u m ys) (h1 : ∀ u ∈ ys, u.oneCell' = true)
    (h63 : n + m ≤ maxLen) (hbytes : (n + m) * bytes ≤ 140737488355328)
    (hp : ∀ A c w', Own w' e size (.slice A (n + m) c) (n + m) (xs ++ ys) → Upd (OwnB v) w w' → (∀ k, OwnB (.slice A (n + m) c) k → OwnB v k ∨ w.heap.size ≤ k) → post (.slice A (n + m) c) w') : OpDone P o ρ w post := by
  obtain ⟨v', w', hrun, h2, h3, h4⟩ := run_append (P := P) w t o.type e i z size bytes ht hi hz hsize hby hzs v n xs hown u m ys hr h1 h63 hbytes
  unfold OpDone execOp
  simp only [ho, resolve, invoke, builtin, Sem.run_bind, Sem.run_pure, Result.andThen_ok, List.map_toArray, List.map_cons, List.map_nil, hs, hx, hrun]
  obtain ⟨A, c, rfl⟩ := h2.form
  exact hp A c w' h2 h3 h4
theorem od_build (ty : TypeId) (ps : Array (Nat × Operand)) (ho : o.op = .build ty ps) (vs : Array (Nat × Value)) (hv : ps.map (fun p => (p.1, ρ p.2)) = vs) {v : Value} {w' : World} (hr : (Instr.build ty vs).run P w = .ok v w') (hp : post v w') : OpDone P o ρ w post := by
  unfold OpDone execOp
  simp only [ho, hv, Sem.run_bind, Sem.run_pure, hr, Result.andThen_ok]
  exact hp
/-- One operation of a region that keeps its order. -/
theorem wpList_od {ops : Array Oper} {rest : List Oper} {a : Act} {Q : Exit → Act → World → Prop} (hgd : o.guard = none) (h : OpDone P o a.eval w post) (hk : ∀ v w', post v w' → wpList P ops Q rest (a.put o.dst v) w') : wpList P ops Q (o :: rest) a w :=
  wpList_plain hgd fun _ hK => h.wp (fun v w' hp => hK _ _ (hk v w' hp))
end

/-- A new variable of a row. -/
theorem wpList_alloc_row {P : Program} {o : Oper} {w : World} {ops : Array Oper} {rest : List Oper} {a : Act} {Q : Exit → Act → World → Prop} (hgd : o.guard = none) (ty : TypeId) (ho : o.op = .alloc ty) (zs : Array Value) (hz : ∀ w, (Instr.alloc ty true (.tuple #[])).run P w = .ok (.pointer (some ⟨w.heap.size, 0, none⟩)) (w.alloc (.cells zs ty)))
    (hk : ∀ w', Blk w' w.heap.size ty zs → Upd NoF w w' → w'.heap.size = w.heap.size + 1 → wpList P ops Q rest (a.put o.dst (.pointer (some ⟨w.heap.size, 0, none⟩))) w') : wpList P ops Q (o :: rest) a w :=
  wpList_od (post := fun v w' => wpList P ops Q rest (a.put o.dst v) w') hgd (od_alloc_row ty ho zs hz hk) (fun _ _ h => h)
/-- A whole row stored into a variable. -/
theorem wpList_store_row {P : Program} {o : Oper} {w : World} {ops : Array Oper} {rest : List Oper} {a : Act} {Q : Exit → Act → World → Prop} (hgd : o.guard = none) (ty : TypeId) (x y : Operand) (ho : o.op = .store ty x y) (g : Nat) (hx : a.eval x = .pointer (some ⟨g, 0, none⟩)) (cells : Array Value) (hy : a.eval y = .agg cells) (t : TypeId) (cur : Array Value) (hb : Blk w g t cur) (hs : cur.size = cells.size) (hi : (P.info? ty).map (·.size) = some cells.size) (h1 : cells.all (·.oneCell') = true)
    (hk : ∀ w', Blk w' g t cells → Upd (fun k => k = g) w w' → w'.heap.size = w.heap.size → wpList P ops Q rest (a.put o.dst undef) w') : wpList P ops Q (o :: rest) a w :=
  wpList_od (post := fun v w' => wpList P ops Q rest (a.put o.dst v) w') hgd (od_store_row ty x y ho g hx cells hy t cur hb hs hi h1 hk) (fun _ _ h => h)

def rgR (ps : List (Value → World → Prop)) (i : Nat) (v : Value) (w : World) : Prop := ps.getD i (fun _ _ => True) v w
def isV (x : Value) : Value → World → Prop := fun v _ => v = x
def anyV : Value → World → Prop := fun _ _ => True
def Stb (St : World → World → Prop) (p : Value → World → Prop) : Prop := ∀ v w w', p v w → St w w' → p v w'
theorem stb_isV {St : World → World → Prop} (x : Value) : Stb St (isV x) := fun _ _ _ h _ => h
theorem stb_any {St : World → World → Prop} : Stb St anyV := fun _ _ _ _ _ => trivial
theorem rgR_keep {St : World → World → Prop} {ps : List (Value → World → Prop)} (h : ∀ p ∈ ps, Stb St p) : ∀ i v w w', rgR ps i v w → St w w' → rgR ps i v w' := by
  intro i v w w' h1 h2
  unfold rgR at *
  rw [List.getD_eq_getElem?_getD] at *
  cases hi : ps[i]? with
  | none => trivial
  | some p =>
    rw [hi] at h1
    exact h p (List.mem_of_getElem? hi) v w w' h1 h2

/-! ### phases of a region -/
/-- Op a makes a variable, op b stores a row into it. -/
structure NewVar (w0 : World) (G : Nat) (t : TypeId) (row : Array Value) (a b : Nat) (L : Nat → Bool) (w : World) : Prop where
  upd : Upd NoF w0 w
  size : w0.heap.size = G
  before : L a = false → w.heap.size = G
  made : L a = true → ∃ cs, Blk w G t cs ∧ cs.size = row.size
  stored : L b = true → Blk w G t row
theorem NewVar.start {w0 : World} {G : Nat} (t : TypeId) (row : Array Value) (a b : Nat) (h : w0.heap.size = G) : NewVar w0 G t row a b (fun _ => false) w0 := ⟨Upd.refl _ _, h, fun _ => h, (fun e => by cases e), (fun e => by cases e)⟩
section
variable {w0 w w' : World} {G : Nat} {t : TypeId} {row : Array Value} {a b i : Nat} {L : Nat → Bool}
theorem NewVar.other (h : NewVar w0 G t row a b L w) (ha : a ≠ i) (hb : b ≠ i) : NewVar w0 G t row a b (fun j => j == i || L j) w := by
  refine ⟨h.upd, h.size, fun e => h.before ?_, fun e => h.made ?_, fun e => h.stored ?_⟩
  · simpa [ha] using e
  · simpa [ha] using e
  · simpa [hb] using e
theorem NewVar.alloc (h : NewVar w0 G t row a b L w) (hb : L b = false) (hab : b ≠ a) {zs : Array Value} (hz : zs.size = row.size) (hn : Blk w' G t zs) (hu : Upd NoF w w') : NewVar w0 G t row a b (fun j => j == a || L j) w' := by
  refine ⟨h.upd.trans hu (fun _ _ f => f), h.size, (fun e => by simp at e), fun _ => ⟨zs, hn, hz⟩, fun e => ?_⟩
  simp [hab, hb] at e
theorem NewVar.store (h : NewVar w0 G t row a b L w) (ha : L a = true) (hn : Blk w' G t row) (hu : Upd (fun k => k = G) w w') : NewVar w0 G t row a b (fun j => j == b || L j) w' := by
  refine ⟨h.upd.trans hu (fun k hk e => ?_), h.size, (fun e => by simp [ha] at e), fun _ => ⟨row, hn, rfl⟩, fun _ => hn⟩
  have e : k = G := e
  have := h.size
  omega
end
/-- Op b turns a block that is known whole. -/
structure ChgVar (w0 : World) (G : Nat) (t : TypeId) (cs0 cs1 : Array Value) (b : Nat) (L : Nat → Bool) (w : World) : Prop where
  upd : Upd (fun k => k = G) w0 w
  before : L b = false → Blk w G t cs0
  after : L b = true → Blk w G t cs1
theorem ChgVar.start {w0 : World} {G : Nat} {t : TypeId} {cs0 : Array Value} (cs1 : Array Value) (b : Nat) (h : Blk w0 G t cs0) : ChgVar w0 G t cs0 cs1 b (fun _ => false) w0 := ⟨Upd.refl _ _, fun _ => h, (fun e => by cases e)⟩
section
variable {w0 w w' : World} {G : Nat} {t : TypeId} {cs0 cs1 : Array Value} {b i : Nat} {L : Nat → Bool}
theorem ChgVar.other (h : ChgVar w0 G t cs0 cs1 b L w) (hb : b ≠ i) : ChgVar w0 G t cs0 cs1 b (fun j => j == i || L j) w := by
  refine ⟨h.upd, fun e => h.before ?_, fun e => h.after ?_⟩
  · simpa [hb] using e
  · simpa [hb] using e
theorem ChgVar.turn (h : ChgVar w0 G t cs0 cs1 b L w) (hn : Blk w' G t cs1) (hu : Upd (fun k => k = G) w w') : ChgVar w0 G t cs0 cs1 b (fun j => j == b || L j) w' :=
  ⟨h.upd.trans hu (fun _ _ f => f), (fun e => by simp at e), fun _ => hn⟩
end
end

section
open Go.RowKit

abbrev zeroV : VoteS := ⟨0, 0, 0, 0, 0, 0, zero8, zero8⟩
def decVS (bs : List UInt8) : VoteS × Int := if bs.length < 23 then (zeroV, 2) else if 23 < bs.length then (zeroV, 3) else if validB (decV bs) then (decV bs, 0) else (zeroV, 11)
def DecVPost (w : World) (r : VoteS × Int) (e : Ending) (w' : World) : Prop := e = .returned (.tuple #[voteV r.1, .int .i64 r.2]) ∧ Upd NoF w w'

/-- Two results: a row that lies in a variable of the call's, and a slot. -/
theorem results_cell_tmp {P : Program} {fn : Func} {p u : Tmp} {ty : TypeId} (h : fn.results = #[.cell p ty, .tmp u]) (tmps : Array Value) (w : World) (g : Nat) (cs : List Value) (d : TypeDesc)
    (hp : tmps.getD p undef = .pointer (some ⟨g, 0, none⟩)) (hc : w.rangeAt g 0 cs) (hu : P.underlying ty = some d) (hd : d.isRow = true) (hi : (P.info? ty).map (·.size) = some cs.length) :
    (results fn tmps).run P w = .ok (.tuple #[.agg cs.toArray, tmps.getD u undef]) w := by
  have hp' : tmps[p]?.getD undef = .pointer (some ⟨g, 0, none⟩) := by simpa using hp
  simp [results, h, hp', asAddr, run_loadVar_mid w g 0 ty cs d hc hu hd hi]
end

section
open Go.RowKit

def zeroS : SignedS := ⟨zeroV, []⟩
def nilV : Value := .slice none 0 0
def okDec (bs : List UInt8) : Bool := decide (bs.length = 393) && validB (decV (bs.take 23))
def zeroRow : Array Value := (rowS zeroS nilV).toArray
/-- What Decode leaves where it refuses. -/
def SDecBad (w : World) (e : Ending) (w' : World) : Prop := ∃ c : Int, c ≠ 0 ∧ e = .returned (.tuple #[.agg zeroRow, .int .i64 c]) ∧ Upd NoF w w'
def SDecOk (w : World) (s : SignedS) (e : Ending) (w' : World) : Prop := ∃ A c, e = .returned (.tuple #[.agg (rowS s (.slice A s.sig.length c)).toArray, .int .i64 0]) ∧ RdF (fun k => k < w.heap.size) w' 1 (.slice A s.sig.length c) s.sig.length (s.sig.map byteV) ∧ Upd NoF w w'
def SigF (R : Nat) (sig : List UInt8) (v : Value) (w : World) : Prop := ∃ A c, v = .slice A sig.length c ∧ RdF (fun k => k ≤ R) w 1 v sig.length (sig.map byteV)
def RowF (R : Nat) (s : SignedS) (v : Value) (w : World) : Prop := ∃ A c, v = .agg (rowS s (.slice A s.sig.length c)).toArray ∧ RdF (fun k => k ≤ R) w 1 (.slice A s.sig.length c) s.sig.length (s.sig.map byteV)
/-- The variable of the result: zero until op b has stored a row into it. -/
structure ResVar (w0 : World) (R : Nat) (s : SignedS) (b : Nat) (L : Nat → Bool) (w : World) : Prop where
  upd : Upd (fun k => k = R) w0 w
  before : ∃ cs, Blk w R 308 cs ∧ cs.size = 23
  after : L b = true → ∃ A c, Blk w R 308 (rowS s (.slice A s.sig.length c)).toArray ∧ RdF (fun k => k ≤ R) w 1 (.slice A s.sig.length c) s.sig.length (s.sig.map byteV)
theorem ResVar.other {w0 w w' : World} {R : Nat} {s : SignedS} {b i : Nat} {L : Nat → Bool} (h : ResVar w0 R s b L w) (hb : b ≠ i) (hLb : L b = false) (hu : Upd (fun k => k = R) w w') (hk : ∃ cs, Blk w' R 308 cs ∧ cs.size = 23) : ResVar w0 R s b (fun j => j == i || L j) w' :=
  ⟨h.upd.trans hu (fun _ _ f => f), hk, (fun e => by simp [hb, hLb] at e)⟩
theorem ResVar.same {w0 w : World} {R : Nat} {s : SignedS} {b i : Nat} {L : Nat → Bool} (h : ResVar w0 R s b L w) (hb : b ≠ i) : ResVar w0 R s b (fun j => j == i || L j) w :=
  ⟨h.upd, h.before, fun e => h.after (by simpa [hb] using e)⟩
end

section
open Go.RowKit

def OrdRel {α : Type} (r : α → α → Bool) (l : List α) (W : World) (i : Value) (wr : World) : Prop :=
  ∃ k : Nat, i = .int .i64 ((k : Int) + 1) ∧ (k = 0 ∨ k + 1 ≤ l.length) ∧ (∀ (j : Nat) a b, j < k → l[j]? = some a → l[j + 1]? = some b → r a b = true) ∧ Upd NoF W wr
/-- Two signed votes next to each other. -/
theorem SgR.two {w : World} {A : Option Addr} {n c : Nat} {l : List SignedS} (h : SgR w (.slice A n c) l) {k : Nat} {s t : SignedS} (hs : l[k]? = some s) (ht : l[k + 1]? = some t) :
    ∃ g o Au cu Av cv, A = some ⟨g, o, none⟩ ∧ w.rangeAt g (o + k * 23) (rowS s (.slice Au s.sig.length cu)) ∧ w.rangeAt g (o + (k + 1) * 23) (rowS t (.slice Av t.sig.length cv)) ∧ Rd w 1 (.slice Au s.sig.length cu) s.sig.length (s.sig.map byteV) ∧ Rd w 1 (.slice Av t.sig.length cv) t.sig.length (t.sig.map byteV) := by
  obtain ⟨g, o, Au, cu, rfl, h1, h2, _⟩ := h.at_ hs
  obtain ⟨g', o', Av, cv, e, h3, h4, _⟩ := h.at_ ht
  injection e with e
  injection e with e1 e2
  subst e1 e2
  exact ⟨g, o, Au, cu, Av, cv, rfl, h1, h3, h2, h4⟩
theorem TxR.two {w : World} {A : Option Addr} {n c : Nat} {l : List (List UInt8)} (h : TxR w (.slice A n c) l) {k : Nat} {s t : List UInt8} (hs : l[k]? = some s) (ht : l[k + 1]? = some t) :
    ∃ g o Au cu Av cv, A = some ⟨g, o, none⟩ ∧ w.cell? ⟨g, o + k, none⟩ = some (.slice Au s.length cu) ∧ w.cell? ⟨g, o + (k + 1), none⟩ = some (.slice Av t.length cv) ∧ Rd w 1 (.slice Au s.length cu) s.length (s.map byteV) ∧ Rd w 1 (.slice Av t.length cv) t.length (t.map byteV) := by
  obtain ⟨g, o, Au, cu, rfl, h1, h2, _⟩ := h.at_ hs
  obtain ⟨g', o', Av, cv, e, h3, h4, _⟩ := h.at_ ht
  injection e with e
  injection e with e1 e2
  subst e1 e2
  exact ⟨g, o, Au, cu, Av, cv, rfl, h1, h3, h2, h4⟩
end

section
open Go.RowKit

theorem NewO.app {W wr w5 w6 : World} {xs ys : List UInt8} {A A' : Option Addr} {c c' : Nat} (h : NewO W xs A c wr) (h5 : Upd NoF wr w5) (ho : Own w6 5 1 (.slice A' (xs.length + ys.length) c') (xs.length + ys.length) (xs.map byteV ++ ys.map byteV)) (hu : Upd (OwnB (.slice A xs.length c)) w5 w6) (hn : ∀ k, OwnB (.slice A' (xs.length + ys.length) c') k → OwnB (.slice A xs.length c) k ∨ w5.heap.size ≤ k) : NewO W (xs ++ ys) A' c' w6 := by
  obtain ⟨h1, h2, h3⟩ := h
  have e : (xs ++ ys).length = xs.length + ys.length := List.length_append
  have hs := h3.size
  have hs5 := h5.size
  refine ⟨by rw [e, List.map_append]; exact ho, fun k hk => ?_, (h3.trans h5 (fun _ _ f => f)).trans hu (fun k hk f => by have := h2 k f; omega)⟩
  rw [e] at hk
  rcases hn k hk with f | f
  · exact h2 k f
  · omega
theorem NewO.own {W wr w5 : World} {xs : List UInt8} {A : Option Addr} {c : Nat} (h : NewO W xs A c wr) (h5 : Upd NoF wr w5) : Own w5 5 1 (.slice A xs.length c) xs.length (xs.map byteV) := h.1.upd h5 (fun _ _ f => f)
theorem NewO.from_ {W0 W w : World} {xs : List UInt8} {A : Option Addr} {c : Nat} (h : NewO W xs A c w) (h0 : Upd NoF W0 W) : NewO W0 xs A c w := ⟨h.1, fun k hk => Nat.le_trans h0.size (h.2.1 k hk), h0.trans h.2.2 (fun _ _ f => f)⟩
/-- What Encode returns. -/
def EncPost (w : World) (r : List UInt8 × Int) (e : Ending) (w' : World) : Prop := ∃ A c, e = .returned (.tuple #[.slice A r.1.length c, .int .i64 r.2]) ∧ NewO w r.1 A c w'
def encVs (l : List SignedS) (k : Nat) : List UInt8 := beB l.length 4 ++ ((l.take k).map encS).flatten
def encTs (x : List UInt8) (l : List (List UInt8)) (k : Nat) : List UInt8 := x ++ beB l.length 4 ++ ((l.take k).map encT).flatten
def EvRel (l : List SignedS) (W : World) (b i : Value) (wr : World) : Prop :=
  ∃ (k : Nat) (A : Option Addr) (c : Nat), i = .int .i64 k ∧ k ≤ l.length ∧ b = .slice A (encVs l k).length c ∧ NewO W (encVs l k) A c wr ∧ ∀ (j : Nat) s, j < k → l[j]? = some s → okS s = true
def EtRel (x : List UInt8) (l : List (List UInt8)) (W : World) (b i : Value) (wr : World) : Prop :=
  ∃ (k : Nat) (A : Option Addr) (c : Nat), i = .int .i64 k ∧ k ≤ l.length ∧ b = .slice A (encTs x l k).length c ∧ NewO W (encTs x l k) A c wr ∧ ∀ (j : Nat) s, j < k → l[j]? = some s → okT s = true
end

section
open Go.RowKit
attribute [local go_sem ↓] Go.wp_at_zero Go.wp_at_succ

/-- A cursor over v at a. -/
def CurB (w : World) (g : Nat) (v : Value) (a : Nat) (bad : Bool) : Prop := Blk w g 229 #[v, .int .i64 (a : Int), .bool bad]
theorem CurB.lt {w : World} {g : Nat} {v : Value} {a : Nat} {bad : Bool} (h : CurB w g v a bad) : g < w.heap.size := Blk.lt h

theorem CurB.move {w : World} {g : Nat} {v : Value} {a : Nat} {bad : Bool} (h : CurB w g v a bad) {x : Int} {a' : Nat} (hx : x = a') : CurB (w.setCell ⟨g, 1, none⟩ (.int .i64 x)) g v a' bad := by
  subst hx
  have := Blk.put h 1 (.int .i64 (a' : Int))
  unfold CurB
  simpa using this
theorem CurB.spoil {w : World} {g : Nat} {v : Value} {a : Nat} {bad : Bool} (h : CurB w g v a bad) : CurB (w.setCell ⟨g, 2, none⟩ (.bool true)) g v a true := by
  have := Blk.put h 2 (.bool true)
  unfold CurB
  simpa using this
theorem CurB.drewN {w : World} {g : Nat} {v : Value} {a : Nat} {bad : Bool} (h : CurB w g v a bad) (n : Nat) : CurB (w.drewN n) g v a bad := h
theorem curNew_any (v : Value) (n c : Nat) (A : Option Addr) (hv : v = .slice A n c) (w : World) : Calls Tryz.prog 161 #[v] w fun e w' => e = .returned (ptrV w.heap.size) ∧ CurB w' w.heap.size v 0 false ∧ Upd NoF w w' := by
  subst hv
  go_enter Tryz.func161, Tryz.ntmps161
  go_wp2
  go_ret
  exact ⟨rfl, Blk.new w _ _, (Upd.refl NoF w).alloc _⟩

set_option maxRecDepth 100000 in
set_option maxHeartbeats 4000000 in
theorem curDone_any {w : World} {g n c : Nat} {A : Option Addr} {a : Nat} {bad : Bool} (h : CurB w g (.slice A n c) a bad) : Calls Tryz.prog 131 #[ptrV g] w fun e w' => e = .returned (.bool (!bad && decide (a = n))) ∧ Upd NoF w w' := by
  have c0 : w.cell? ⟨g, 0, none⟩ = some (.slice A n c) := Blk.cell h 0
  have c1 : w.cell? ⟨g, 1, none⟩ = some (.int .i64 (a : Int)) := Blk.cell h 1
  have c2 : w.cell? ⟨g, 2, none⟩ = some (.bool bad) := Blk.cell h 2
  clear h
  cases bad with
  | true =>
    go_enter Tryz.func131, Tryz.ntmps131
    go_wp2
    go_quiet (fail)
    go_wp2
    go_ret
    exact ⟨rfl, (Upd.refl NoF w).drewN _⟩
  | false =>
    by_cases he : a = n
    · have t1 : ((a : Int) == (n : Int)) = true := by simp [he]
      have E := Lib.hid (show true = (!false && decide (a = n)) by simp [he])
      generalize (!false && decide (a = n)) = Z at E ⊢
      clear he
      go_enter Tryz.func131, Tryz.ntmps131
      go_wp2
      go_quiet (fail)
      go_wp2
      go_ret
      exact ⟨retb E.out, (Upd.refl NoF w).drewN _⟩
    · have t1 : ((a : Int) == (n : Int)) = false := by simp; omega
      have E := Lib.hid (show false = (!false && decide (a = n)) by simp [he])
      generalize (!false && decide (a = n)) = Z at E ⊢
      clear he
      go_enter Tryz.func131, Tryz.ntmps131
      go_wp2
      go_quiet (fail)
      go_wp2
      go_ret
      exact ⟨retb E.out, (Upd.refl NoF w).drewN _⟩

def UintOk (w : World) (g : Nat) (v : Value) (a x : Nat) (e : Ending) (w' : World) : Prop := e = .returned (.int .i64 (x : Int)) ∧ CurB w' g v (a + 4) false ∧ Upd (fun k => k = g) w w'
def UintBad (w : World) (g : Nat) (v : Value) (a : Nat) (e : Ending) (w' : World) : Prop := e = .returned (.int .i64 0) ∧ CurB w' g v a true ∧ Upd (fun k => k = g) w w'


def FixOk (w : World) (g : Nat) (v : Value) (a n : Nat) (r : List UInt8) (e : Ending) (w' : World) : Prop := ∃ A c, e = .returned (.slice A r.length c) ∧ Rd w' 1 (.slice A r.length c) r.length (r.map byteV) ∧ CurB w' g v (a + n) false ∧ Upd (fun k => k = g) w w'
def FixBad (w : World) (g : Nat) (v : Value) (a : Nat) (e : Ending) (w' : World) : Prop := e = .returned (.slice none 0 0) ∧ CurB w' g v a true ∧ Upd (fun k => k = g) w w'


def FxV (w : World) (bs : List UInt8) (a : Nat) (v : Value) (w' : World) : Prop := ∃ A c, v = .slice A 393 c ∧ Own w' 5 1 (.slice A 393 c) 393 (((bs.drop a).take 393).map byteV) ∧ ∀ k, OwnB (.slice A 393 c) k → w.heap.size ≤ k
def BytOk (w : World) (g : Nat) (v : Value) (a : Nat) (r : List UInt8) (e : Ending) (w' : World) : Prop := ∃ A c, e = .returned (.slice A r.length c) ∧ RdF (fun k => k < w.heap.size) w' 1 (.slice A r.length c) r.length (r.map byteV) ∧ CurB w' g v a false ∧ Upd (fun k => k = g) w w'
end
end Go.Proofs.YtengcmfdfmnacaaGreat
