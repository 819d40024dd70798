/- The rule of text Rgl with a predicate of the world that looks at the slots too. No condition. snapshot.Union of views without votes. Conditions: sizes. Write of package snapshot. Conditions: sizes. -/
import Derived.Test.YtbgificdilpdcaaGreatJn16
import Derived.Test.YtbgificdilpdcaaGreatJn21
import Derived.Test.YtbgificdilpdcaaGreatJn15
import Derived.Test.YtbgificdilpdcaaGreatJn6
namespace Go.Proofs.YtbgificdilpdcaaGreat
section
open Go.RowKit

/-- What op number i is owed: L says which operations have run; W what the world is like then. -/
def OpStepV (P : Program) (l : List Oper) (R : Nat → Value → World → Prop) (St : (Nat → Bool) → World → World → Prop) (W : (Nat → Bool) → (Operand → Value) → World → Prop) (ρ0 : Operand → Value) (i : Nat) (o : Oper) : Prop :=
  ∀ (ρ : Operand → Value) (w : World) (L : Nat → Bool), W L ρ w → L i = false → (∀ j k, L j = true → depOn l j k = true → L k = true) → (∀ k, depOn l i k = true → L k = true) → (∀ j oj, l[j]? = some oj → depOn l i j = true → R j (slotV ρ oj) w) → (∀ t, extOk l i t = true → ρ (.tmp t) = ρ0 (.tmp t)) → (∀ v, ρ (.const v) = v) → (∀ g, ρ (.global g) = .pointer (some ⟨g, 0, none⟩)) → (∀ f, ρ (.func f) = .func (.func f) #[] #[]) →
    if wantedR l o ρ = true then OpDone P o ρ w (fun v w' => R i (leftV o v) w' ∧ St L w w' ∧ (∀ ρ' : Operand → Value, (∀ t, o.dst ≠ some t → ρ' (.tmp t) = ρ (.tmp t)) → (∀ d, o.dst = some d → ρ' (.tmp d) = v) → W (fun j => j == i || L j) ρ' w')) else R i undef w ∧ (∀ ρ' : Operand → Value, (∀ t, o.dst ≠ some t → ρ' (.tmp t) = ρ (.tmp t)) → (∀ d, o.dst = some d → ρ' (.tmp d) = undef) → W (fun j => j == i || L j) ρ' w)

def AllOpsV (P : Program) (l : List Oper) (R : Nat → Value → World → Prop) (St : (Nat → Bool) → World → World → Prop) (W : (Nat → Bool) → (Operand → Value) → World → Prop) (ρ0 : Operand → Value) : Nat → List Oper → Prop
  | _, [] => True
  | i, o :: r => OpStepV P l R St W ρ0 i o ∧ AllOpsV P l R St W ρ0 (i + 1) r

structure RgAtV (l : List Oper) (R : Nat → Value → World → Prop) (W : (Nat → Bool) → (Operand → Value) → World → Prop) (a0 : Act) (listed : Array Bool) (a : Act) (w : World) : Prop where
  ls : listed.size = l.length
  size : a.tmps.size = a0.tmps.size
  defers : a.defers = a0.defers
  st : W (lst listed) a.eval w
  done : ∀ (j : Nat) oj, l[j]? = some oj → listed[j]? = some true → R j (slotV a.eval oj) w
  ext : ∀ t, (∀ (j : Nat) oj, l[j]? = some oj → oj.dst = some t → listed[j]? = some false) → a.tmps[t]? = a0.tmps[t]?
  closed : ∀ (j k : Nat), listed[j]? = some true → depOn l j k = true → listed[k]? = some true
theorem RgAtV.toAt {l : List Oper} {R : Nat → Value → World → Prop} {W : (Nat → Bool) → (Operand → Value) → World → Prop} {a0 : Act} {listed : Array Bool} {a : Act} {w : World} (h : RgAtV l R W a0 listed a w) : RgAt l R (fun _ _ => True) a0 listed a w :=
  ⟨h.ls, h.size, h.defers, trivial, h.done, h.ext, h.closed⟩

section
variable {P : Program} {l : List Oper} {R : Nat → Value → World → Prop} {St : (Nat → Bool) → World → World → Prop} {W : (Nat → Bool) → (Operand → Value) → World → Prop} {a0 : Act}

theorem AllOpsV.get {ρ0 : Operand → Value} : ∀ {r : List Oper} {k : Nat}, AllOpsV P l R St W ρ0 k r → ∀ {i : Nat} {o : Oper}, r[i]? = some o → OpStepV P l R St W ρ0 (k + i) o
  | [], _, _, i, o, h => by cases h
  | x :: r, k, h, 0, o, hi => by
    simp at hi
    subst hi
    exact h.1
  | x :: r, k, h, i + 1, o, hi => by
    have := AllOpsV.get h.2 (i := i) (o := o) (by simpa using hi)
    rw [show k + (i + 1) = k + 1 + i by omega]
    exact this

theorem RgAtV.stepV (st_refl : ∀ L w, St L w w) (keep : ∀ L i v w w', L i = true → R i v w → St L w w' → R i v w') (hdi : distinctB l = true) (hdst : ∀ o ∈ l, ∀ d, o.dst = some d → d < a0.tmps.size) {Q : Exit → Act → World → Prop} (hops : AllOpsV P l R St W a0.eval 0 l) {listed : Array Bool} {a : Act} {w : World} (h : RgAtV l R W a0 listed a w) {i : Nat} {o : Oper} (ho : l[i]? = some o) (hun : listed[i]? = some false) (hrdy : ∀ k, depOn l i k = true → listed[k]? = some true) :
    if Region.wanted o (yielded l.toArray a.tmps) then o.wp P a w (fun a' w' => RgAtV l R W a0 (listed.setIfInBounds i true) a' w') Q else RgAtV l R W a0 (listed.setIfInBounds i true) (a.put o.dst undef) w := by
  have hi : i < listed.size := (Array.getElem?_eq_some_iff.1 hun).1
  have hs := (hops.get ho) a.eval w (lst listed) h.st (by simp [lst, hun]) (fun j k hj hk => by unfold lst at hj ⊢; rw [beq_iff_eq] at hj ⊢; exact h.closed j k hj hk) (fun k hk => by unfold lst; rw [beq_iff_eq]; exact hrdy k (by simpa using hk)) (fun j oj hj hd => h.done j oj hj (hrdy j (by simpa using hd))) (fun t ht => by
    have hx := h.ext t (fun j oj hj hd => by
      have hdep := extFrom_get ht hj hd
      rw [Nat.zero_add, Nat.zero_add] at hdep
      have hjl : j < listed.size := by rw [h.ls]; exact (List.getElem?_eq_some_iff.1 hj).1
      rw [Array.getElem?_eq_getElem hjl]
      cases hb : listed[j] with
      | false => rfl
      | true =>
        have := h.closed j i (by rw [Array.getElem?_eq_getElem hjl, hb]) hdep
        rw [hun] at this
        cases this)
    simp only [Act.eval, Array.getD_eq_getD_getElem?, hx]) (fun _ => rfl) (fun _ => rfl) (fun _ => rfl)
  rw [Nat.zero_add] at hs
  have hlst : lst (listed.setIfInBounds i true) = fun j => j == i || lst listed j := by
    funext j
    unfold lst
    by_cases hji : j = i
    · subst hji; simp [hi]
    · rw [Array.getElem?_setIfInBounds_ne (fun e => hji e.symm)]; simp [hji]
  have next : ∀ v w', R i (leftV o v) w' → St (lst listed) w w' → (∀ ρ' : Operand → Value, (∀ t, o.dst ≠ some t → ρ' (.tmp t) = a.eval (.tmp t)) → (∀ d, o.dst = some d → ρ' (.tmp d) = v) → W (fun j => j == i || lst listed j) ρ' w') → RgAtV l R W a0 (listed.setIfInBounds i true) (a.put o.dst v) w' := by
    intro v w' hv hst hW
    have hset : ∀ j, j ≠ i → (listed.setIfInBounds i true)[j]? = listed[j]? := fun j hj => Array.getElem?_setIfInBounds_ne (fun e => hj e.symm)
    have hseti : (listed.setIfInBounds i true)[i]? = some true := by simp [hi]
    refine ⟨by simp [h.ls], by rw [put_size, h.size], by rw [put_defers, h.defers], by
      rw [hlst]
      refine hW _ (fun t ht => ?_) (fun d hd => ?_)
      · simp only [Act.eval, Array.getD_eq_getD_getElem?, put_get_ne a ht]
      · have hlt : d < a.tmps.size := by rw [h.size]; exact hdst o (List.mem_of_getElem? ho) d hd
        rw [hd]
        simp only [Act.eval, Array.getD_eq_getD_getElem?, put_get_same a hlt, Option.getD_some], ?_, ?_, ?_⟩
    · intro j oj hj hl
      by_cases hji : j = i
      · subst hji
        have e := ho.symm.trans hj
        have e := Option.some.inj e
        subst e
        have : slotV (a.put o.dst v).eval o = leftV o v := by
          unfold slotV leftV
          cases hd : o.dst with
          | none => rfl
          | some d =>
            have hlt : d < a.tmps.size := by rw [h.size]; exact hdst o (List.mem_of_getElem? ho) d hd
            simp only [Act.eval, Array.getD_eq_getD_getElem?, put_get_same a hlt]
            rfl
        rw [this]
        exact hv
      · rw [hset j hji] at hl
        have hr := h.done j oj hj hl
        have e : slotV (a.put o.dst v).eval oj = slotV a.eval oj := by
          unfold slotV
          cases hd : oj.dst with
          | none => rfl
          | some d =>
            have : o.dst ≠ some d := fun e => hji (distinct_get hdi hj ho hd e)
            simp only [Act.eval, Array.getD_eq_getD_getElem?, put_get_ne a this]
        rw [e]
        exact keep (lst listed) _ _ _ _ (by unfold lst; rw [hl]; rfl) hr hst
    · intro t ht
      have hne : o.dst ≠ some t := fun e => by
        have := ht i o ho e
        rw [hseti] at this
        cases this
      rw [put_get_ne a hne]
      refine h.ext t (fun j oj hj hd => ?_)
      have := ht j oj hj hd
      by_cases hji : j = i
      · subst hji; rw [hseti] at this; cases this
      · rw [hset j hji] at this; exact this
    · intro j k hj hd
      by_cases hji : j = i
      · subst hji
        have := hrdy k hd
        by_cases hki : k = j
        · subst hki; exact hseti
        · rw [hset k hki]; exact this
      · rw [hset j hji] at hj
        have := h.closed j k hj hd
        by_cases hki : k = i
        · subst hki; exact hseti
        · rw [hset k hki]; exact this
  rw [wanted_eq]
  by_cases hw : wantedR l o a.eval = true
  · rw [if_pos hw] at hs ⊢
    exact hs.wp (fun v w' ⟨h1, h2, h3⟩ => next v w' h1 h2 h3)
  · rw [if_neg hw] at hs ⊢
    have e : leftV o undef = undef := by unfold leftV; cases o.dst <;> rfl
    exact next undef w (by rw [e]; exact hs.1) (st_refl _ w) hs.2


theorem RgAtV.anyV (st_refl : ∀ L w, St L w w) (keep : ∀ L i v w w', L i = true → R i v w → St L w w' → R i v w') (hac : acycFrom 0 l = true) (hdi : distinctB l = true) (hdst : ∀ o ∈ l, ∀ d, o.dst = some d → d < a0.tmps.size) {Q : Exit → Act → World → Prop} (hops : AllOpsV P l R St W a0.eval 0 l) (hend : ∀ (vs : Nat → Value) (w : World) (L : Nat → Bool), (∀ i, i < l.length → L i = true) → W L (putAll l vs 0 a0).eval w → (∀ (i : Nat) o, l[i]? = some o → R i (leftV o (vs i)) w) → Q .normal (putAll l vs 0 a0) w) :
    ∀ (fuel : Nat) (listed : Array Bool) (a : Act) (w : World), unl listed.toList ≤ fuel → RgAtV l R W a0 listed a w → wpAny P .any l.toArray Q fuel listed a w := by
  have fin : ∀ (listed : Array Bool) (a : Act) (w : World), RgAtV l R W a0 listed a w → Region.ready .any l.toArray listed = [] → Q .normal a w := by
    intro listed a w h hr
    have hn := not_ready hac h.ls hr
    obtain ⟨vs, rfl, hv⟩ := h.toAt.fin hdi (fun b hb => by
      obtain ⟨i, hi⟩ := List.getElem?_of_mem hb
      have hlt : i < l.length := by rw [← h.ls]; have := (List.getElem?_eq_some_iff.1 hi).1; simpa using this
      have := hn i hlt
      have hi' : listed[i]? = some b := by simpa using hi
      rw [hi'] at this
      exact Option.some.inj this)
    exact hend vs w (lst listed) (fun i hi => by unfold lst; rw [beq_iff_eq]; exact hn i hi) h.st hv
  intro fuel
  induction fuel with
  | zero =>
    intro listed a w hu h
    have hz := unl_zero _ (by omega : unl listed.toList = 0)
    have hr : Region.ready .any l.toArray listed = [] := by
      apply List.eq_nil_iff_forall_not_mem.2
      intro i hi
      obtain ⟨o, _, h2, _⟩ := ready_iff h.ls hi
      have := hz false (List.mem_of_getElem? (i := i) (by simpa using h2))
      cases this
    exact ⟨hr, fin listed a w h hr⟩
  | succ fuel ih =>
    intro listed a w hu h
    refine ⟨fun hr => fin listed a w h hr, fun i hi => ?_⟩
    obtain ⟨o, h1, h2, h3⟩ := ready_iff h.ls hi
    have hs := h.stepV st_refl keep hdi hdst (Q := Q) hops h1 h2 h3
    have hun : unl (listed.setIfInBounds i true).toList ≤ fuel := by
      have := unl_set listed.toList i (by simpa using h2)
      rw [Array.toList_setIfInBounds]
      omega
    unfold wpOp
    simp only [List.getElem?_toArray, h1]
    split
    · rename_i hw
      rw [if_pos hw] at hs
      exact .inl (Oper.wp_mono (fun a' w' h' => ih _ a' w' hun h') hs)
    · rename_i hw
      rw [if_neg hw] at hs
      exact ih _ _ _ hun hs
end


theorem wp_region_rgv {P : Program} {l : List Oper} {a0 : Act} {w0 : World} {Q : Exit → Act → World → Prop} {id : Nat} (R : Nat → Value → World → Prop) (St : (Nat → Bool) → World → World → Prop) (W : (Nat → Bool) → (Operand → Value) → World → Prop) (hm : P.follows .mixedOrders = true) (hac : acycFrom 0 l = true) (hdi : distinctB l = true) (hdst : (l.all fun o => match o.dst with | some d => decide (d < a0.tmps.size) | none => true) = true)
    (st_refl : ∀ L w, St L w w) (keep : ∀ L i v w w', L i = true → R i v w → St L w w' → R i v w') (hW : W (fun _ => false) a0.eval w0.drew)
    (hops : AllOpsV P l R St W a0.eval 0 l) (hend : ∀ (vs : Nat → Value) (w : World) (L : Nat → Bool), (∀ i, i < l.length → L i = true) → W L (putAll l vs 0 a0).eval w → (∀ (i : Nat) o, l[i]? = some o → R i (leftV o (vs i)) w) → Q .normal (putAll l vs 0 a0) w) : (Code.region id l.toArray true).wp P Q a0 w0 := by
  have hdst' : ∀ o ∈ l, ∀ d, o.dst = some d → d < a0.tmps.size := fun o ho d hd => by
    have := List.all_eq_true.1 hdst o ho
    rw [hd] at this
    simpa using this
  have hl0 : lst (Array.replicate l.length false) = fun _ => false := by
    funext j
    unfold lst
    rw [Array.getElem?_replicate]
    split <;> rfl
  refine wp_region_any hm ?_
  refine RgAtV.anyV (R := R) (St := St) (W := W) (a0 := a0) st_refl keep hac hdi hdst' hops hend _ _ _ _ ?_ ?_
  · simp [unl_replicate]
  · refine ⟨by simp, rfl, rfl, by simp only [List.size_toArray]; rw [hl0]; exact hW, fun j oj _ h => ?_, fun _ _ => rfl, fun j k h => ?_⟩
    · rw [Array.getElem?_replicate] at h
      split at h
      · cases h
      · cases h
    · rw [Array.getElem?_replicate] at h
      split at h
      · cases h
      · cases h
end

section
open Go.RowKit

/-- What the region of Union has done: slot 5 holds the new view. -/
structure UnPh (w0 : World) (V : ViewS) (L : Nat → Bool) (ρ : Operand → Value) (w : World) : Prop where
  up : Upd NoF w0 w
  lk : L 14 = true → ∃ b, ρ (.tmp 5) = ptrV b ∧ w0.heap.size ≤ b ∧ (L 15 = false → Blk w b 25 nil2) ∧
    (L 15 = true → ∃ Av At cv ct, Blk w b 25 #[.slice Av V.votes.length cv, .slice At V.texts.length ct] ∧ SgO w Av cv V.votes ∧ OwnN w0 (.slice Av V.votes.length cv) ∧ TxO w At ct V.texts ∧ OwnN w0 (.slice At V.texts.length ct))
abbrev UnSt (S0 : Nat) (_ : Nat → Bool) (w w' : World) : Prop := Upd (fun k => S0 ≤ k ∧ TyF [25] w k) w w'
section
variable {w0 w w' : World} {V : ViewS} {L : Nat → Bool} {ρ ρ' : Operand → Value} {S0 : Nat}
theorem UnSt.ty (h : UnSt S0 L w w') : UpdT [25] w w' := Upd.mono h (fun _ _ f => f.2)
theorem UnSt.none (h : Upd NoF w w') : UnSt S0 L w w' := Upd.mono h (fun _ _ f => f.elim)
theorem UnPh.start : UnPh w0 V (fun _ => false) ρ w0 := ⟨Upd.refl _ _, fun e => by cases e⟩
theorem UnPh.more (h : UnPh w0 V L ρ w) {i : Nat} (hi : 14 ≠ i) (hi2 : 15 ≠ i) (hu : Upd NoF w w') (h5 : ρ' (.tmp 5) = ρ (.tmp 5)) : UnPh w0 V (fun j => j == i || L j) ρ' w' := by
  have e4 : ((14 == i) || L 14) = L 14 := by simp [hi]
  have e5 : ((15 == i) || L 15) = L 15 := by simp [hi2]
  refine ⟨h.up.trans hu (fun _ _ f => f), fun e => ?_⟩
  obtain ⟨b, b1, b2, b3, b4⟩ := h.lk (by rw [← e4]; exact e)
  refine ⟨b, h5.trans b1, b2, fun e => hu.blk (b3 (by rw [← e5]; exact e)) (fun f => f), fun e => ?_⟩
  obtain ⟨Av, At, cv, ct, c1, c2, c3, c4, c5⟩ := b4 (by rw [← e5]; exact e)
  exact ⟨Av, At, cv, ct, hu.blk c1 (fun f => f), c2.updT (ts := []) (UpdT.none hu) (by decide) (by decide), c3, c4.updT (ts := []) (UpdT.none hu) (by decide) (by decide), c5⟩
theorem UnPh.alloc (h : UnPh w0 V L ρ w) (h15 : L 15 = false) (h5 : ρ' (.tmp 5) = ptrV w.heap.size) : UnPh w0 V (fun j => j == 14 || L j) ρ' (w.alloc (.cells nil2 25)) := by
  refine ⟨h.up.alloc _, fun _ => ⟨w.heap.size, h5, h.up.size, fun _ => Blk.new w _ _, fun e => ?_⟩⟩
  simp [h15] at e
theorem UnPh.store (h : UnPh w0 V L ρ w) (h14 : L 14 = true) (h15 : L 15 = false) {b : Nat} (hb : ρ (.tmp 5) = ptrV b) (h5 : ρ' (.tmp 5) = ρ (.tmp 5)) {Av At : Option Addr} {cv ct : Nat} (c2 : SgO w Av cv V.votes) (c3 : OwnN w0 (.slice Av V.votes.length cv)) (c4 : TxO w At ct V.texts) (c5 : OwnN w0 (.slice At V.texts.length ct)) :
    UnPh w0 V (fun j => j == 15 || L j) ρ' ((w.setCell ⟨b, 0, none⟩ (.slice Av V.votes.length cv)).setCell ⟨b, 1, none⟩ (.slice At V.texts.length ct)) ∧ UnSt w0.heap.size L w ((w.setCell ⟨b, 0, none⟩ (.slice Av V.votes.length cv)).setCell ⟨b, 1, none⟩ (.slice At V.texts.length ct)) := by
  obtain ⟨b', b1, b2, b3, _⟩ := h.lk h14
  have eb : b' = b := by
    have := b1.symm.trans hb
    unfold ptrV at this
    injection this with this
    injection this with this
    injection this
  subst eb
  have hbk := b3 h15
  have hu : Upd (fun k => k = b') w ((w.setCell ⟨b', 0, none⟩ (.slice Av V.votes.length cv)).setCell ⟨b', 1, none⟩ (.slice At V.texts.length ct)) := ((Upd.refl (fun k => k = b') w).setCell (p := ⟨b', 0, none⟩) (.inl rfl) _).setCell (p := ⟨b', 1, none⟩) (.inl rfl) _
  have hT : UpdT [25] w ((w.setCell ⟨b', 0, none⟩ (.slice Av V.votes.length cv)).setCell ⟨b', 1, none⟩ (.slice At V.texts.length ct)) := UpdT.of hu (fun k f => by rw [show k = b' from f]; exact hbk.tyf (by simp))
  refine ⟨⟨h.up.trans hu (fun k hk e => by have e : k = b' := e; omega), fun _ => ⟨b', h5.trans hb, b2, fun e => by simp at e, fun _ => ⟨Av, At, cv, ct, (hbk.put 0 _).put 1 _, c2.updT hT (by decide) (by decide), c3, c4.updT hT (by decide) (by decide), c5⟩⟩⟩, hu.mono (fun k _ f => by rw [show k = b' from f]; exact ⟨b2, hbk.tyf (by simp)⟩)⟩
end
def UnB (t : TypeId) (x y : Value) (v : Value) (w : World) : Prop := ∃ g, v = .slice (some ⟨g, 0, none⟩) 2 2 ∧ Blk w g t #[x, y]
def UnC (e : TypeId) (size n : Nat) (xs : List Value) (v : Value) (w : World) : Prop := ∃ A c, v = .slice A n c ∧ Own w e size (.slice A n c) n xs
def UnA (n m : Nat) (xs ys : List Value) (v : Value) (w : World) : Prop := ∃ A c B d, v = .agg #[.slice A n c, .slice B m d] ∧ Own w 57 23 (.slice A n c) n xs ∧ Own w 28 1 (.slice B m d) m ys
def UnD (w0 : World) (V : ViewS) (v : Value) (w : World) : Prop := ∃ Av At cv ct, v = .agg #[.slice Av V.votes.length cv, .slice At V.texts.length ct] ∧ SgO w Av cv V.votes ∧ OwnN w0 (.slice Av V.votes.length cv) ∧ TxO w At ct V.texts ∧ OwnN w0 (.slice At V.texts.length ct)
section
variable {S0 : Nat} {i : Nat}
theorem stbL_ub {t : TypeId} {x y : Value} (ht : t ≠ 25) : StbL (UnSt S0) i (UnB t x y) := fun _ _ _ _ _ ⟨g, e, h⟩ hs => ⟨g, e, (UnSt.ty (L := fun _ => false) hs).blk h (by simpa using ht)⟩
theorem stbL_uc {t : TypeId} {size n : Nat} {xs : List Value} (ht : t ≠ 25) : StbL (UnSt S0) i (UnC t size n xs) := fun _ _ _ _ _ ⟨A, c, e, h⟩ hs => ⟨A, c, e, h.updT (UnSt.ty (L := fun _ => false) hs) (by simpa using ht)⟩
theorem stbL_ua {n m : Nat} {xs ys : List Value} : StbL (UnSt S0) i (UnA n m xs ys) := fun _ _ _ _ _ ⟨A, c, B, d, e, h, k⟩ hs => ⟨A, c, B, d, e, h.updT (UnSt.ty (L := fun _ => false) hs) (by decide), k.updT (UnSt.ty (L := fun _ => false) hs) (by decide)⟩
theorem stbL_ud {w0 : World} {V : ViewS} : StbL (UnSt S0) i (UnD w0 V) := fun _ _ _ _ _ ⟨Av, At, cv, ct, e, h1, h2, h3, h4⟩ hs => ⟨Av, At, cv, ct, e, h1.updT (UnSt.ty (L := fun _ => false) hs) (by decide) (by decide), h2, h3.updT (UnSt.ty (L := fun _ => false) hs) (by decide) (by decide), h4⟩
end
theorem bs_sgs (A B : Option Addr) (n m c d : Nat) (w : World) : (Instr.buildSlice 127 2 #[(0, .slice A n c), (1, .slice B m d)]).run Tryz.prog w = .ok (.slice (some ⟨w.heap.size, 0, none⟩) 2 2) (w.alloc (.cells #[.slice A n c, .slice B m d] 22)) := by kernel_rfl
theorem bs_txs (A B : Option Addr) (n m c d : Nat) (w : World) : (Instr.buildSlice 129 2 #[(0, .slice A n c), (1, .slice B m d)]).run Tryz.prog w = .ok (.slice (some ⟨w.heap.size, 0, none⟩) 2 2) (w.alloc (.cells #[.slice A n c, .slice B m d] 23)) := by kernel_rfl
/-- Two slices of texts, one behind the other. -/
theorem TxR.cat {w w' : World} {l m : List (List UInt8)} {us vs : List Value} (h1 : us.length = l.length) (h2 : vs.length = m.length) (hl : ∀ (i : Nat) b, l[i]? = some b → ∃ u, us[i]? = some u ∧ Rd w 1 u b.length (b.map byteV)) (hm : ∀ (i : Nat) b, m[i]? = some b → ∃ u, vs[i]? = some u ∧ Rd w 1 u b.length (b.map byteV))
    {v : Value} (ho : Rd w' 1 v (l ++ m).length (us ++ vs)) (hu : Upd NoF w w') : TxR w' v (l ++ m) := by
  refine ⟨us ++ vs, by simp [h1, h2], ho, fun i b hb => ?_⟩
  rcases Nat.lt_or_ge i l.length with h | h
  · rw [List.getElem?_append_left h] at hb
    obtain ⟨u, e1, e2⟩ := hl i b hb
    exact ⟨u, by rw [List.getElem?_append_left (by omega)]; exact e1, e2.keep hu⟩
  · rw [List.getElem?_append_right h] at hb
    obtain ⟨u, e1, e2⟩ := hm _ b hb
    exact ⟨u, by rw [List.getElem?_append_right (by omega), h1]; exact e1, e2.keep hu⟩
theorem tx_one {w : World} {l : List (List UInt8)} {us : List Value} (h1 : us.length = l.length) (hl : ∀ (i : Nat) b, l[i]? = some b → ∃ u, us[i]? = some u ∧ Rd w 1 u b.length (b.map byteV)) : ∀ u ∈ us, u.oneCell' = true := by
  intro u hu
  obtain ⟨i, hi⟩ := List.getElem?_of_mem hu
  have hlt : i < l.length := by rw [← h1]; exact (List.getElem?_eq_some_iff.1 hi).1
  obtain ⟨y, e1, e2⟩ := hl i _ (List.getElem?_eq_getElem hlt)
  rw [hi] at e1
  rw [Option.some.inj e1]
  obtain ⟨A, c, e, -⟩ := e2.slice
  rw [e]
  rfl
set_option maxRecDepth 100000 in
set_option maxHeartbeats 4000000 in
theorem insSort0 (A : Option Addr) (c : Nat) (fv : Value) (w : World) : Calls Tryz.prog 111 #[.slice A 0 c, .int .i64 0, .int .i64 0, fv] w fun e w' => e = .returned (.tuple #[]) ∧ w' = w := by
  go_enter Tryz.func111, Tryz.ntmps111
  go_wp2
  refine wp_loop_once ?_
  go_wp2
  go_end0
  exact ⟨rfl, rfl⟩
set_option maxRecDepth 100000 in
set_option maxHeartbeats 4000000 in
theorem stable0 (A : Option Addr) (c : Nat) (fv : Value) (w : World) : Calls Tryz.prog 99 #[.slice A 0 c, .int .i64 0, fv] w fun e w' => e = .returned (.tuple #[]) ∧ w' = w := by
  have CI := Lib.hid (insSort0 A c fv w)
  go_enter Tryz.func99, Tryz.ntmps99
  go_wp2
  refine wp_loop_once ?_
  go_wp2_with fail
  refine CI.out.mono ?_
  rintro e w' ⟨rfl, rfl⟩
  go_wp2
  refine wp_loop_once ?_
  go_wp2
  go_end0
  exact ⟨rfl, rfl⟩
set_option maxRecDepth 100000 in
set_option maxHeartbeats 4000000 in
theorem sortStable0 (A : Option Addr) (c : Nat) (fv : Value) (w : World) : Calls Tryz.prog 69 #[.slice A 0 c, fv] w fun e w' => e = .returned (.tuple #[]) ∧ w' = w := by
  have CI := Lib.hid (stable0 A c fv w)
  go_enter Tryz.func69, Tryz.ntmps69
  go_wp2_with fail
  refine CI.out.mono ?_
  rintro e w' ⟨rfl, rfl⟩
  go_wp2
  go_end0
  exact ⟨rfl, rfl⟩
set_option maxRecDepth 100000 in
set_option maxHeartbeats 4000000 in
theorem CompactS0 (A : Option Addr) (c : Nat) (fv : Value) (w : World) : Calls Tryz.prog 73 #[.slice A 0 c, fv] w fun e w' => e = .returned (.slice A 0 c) ∧ w' = w := by
  go_enter Tryz.func73, Tryz.ntmps73
  go_wp2
  go_ret
  exact ⟨rfl, rfl⟩


theorem Rd.of0 (w : World) (size : Nat) {A : Option Addr} {c : Nat} (h : c ≤ maxLen) : Rd w size (.slice A 0 c) 0 [] := ⟨A, c, rfl, Nat.zero_le _, h, by simp, fun h => absurd h (by omega)⟩
theorem SgR.of0 {w : World} {A : Option Addr} {c : Nat} (h : Rd w 23 (.slice A 0 c) 0 []) : SgR w (.slice A 0 c) [] := ⟨by simp, [], rfl, h, fun _ _ h => by cases h⟩
def uniT (l m : List (List UInt8)) : List (List UInt8) := compL (sortL lessT (l ++ m))
def UniPost (w : World) (V : ViewS) (e : Ending) (w' : World) : Prop := ∃ a b, e = .returned (.agg #[a, b]) ∧ VwR w' a b V ∧ Upd NoF w w'
set_option maxRecDepth 100000 in
set_option maxHeartbeats 16000000 in
theorem Union0_any {w : World} {a b a' b' : Value} {l m : List (List UInt8)} (ha : SgR w a []) (hb : TxR w b l) (ha' : SgR w a' []) (hb' : TxR w b' m) (hs1 : l.length ≤ 1000000) (hs2 : m.length ≤ 1000000) (hl : ∀ t ∈ l ++ m, t.length ≤ 140737488355328) :
    Calls Tryz.prog 25 #[.agg #[a, b], .agg #[a', b']] w (UniPost w ⟨[], uniT l m⟩) := by
  obtain ⟨A, ca, rfl, -, hca⟩ := ha.form
  obtain ⟨B, cb, rfl, -, hcb⟩ := ha'.form
  obtain ⟨C, cc, rfl, hcc, hccm⟩ := hb.form
  obtain ⟨D, cd, rfl, hcd, hcdm⟩ := hb'.form
  obtain ⟨us, hu1, hu2, hu3⟩ := hb
  obtain ⟨vs, hv1, hv2, hv3⟩ := hb'
  simp only [List.length_nil]
  have HCA := Lib.hid hca
  have HCB := Lib.hid hcb
  have HU1 := Lib.hid hu1
  have HV1 := Lib.hid hv1
  have HUL := Lib.hid hu3
  have HVL := Lib.hid hv3
  have HO1 := Lib.hid (tx_one hu1 hu3)
  have HO2 := Lib.hid (tx_one hv1 hv3)
  have HLL := Lib.hid hl
  have sz1 : (w.alloc (.cells #[.slice A 0 ca, .slice C l.length cc] 25)).heap.size = w.heap.size + 1 := by simp
  have sz2 : ((w.alloc (.cells #[.slice A 0 ca, .slice C l.length cc] 25)).alloc (.cells #[.slice B 0 cb, .slice D m.length cd] 25)).heap.size = w.heap.size + 2 := by simp
  have b1 := ((Blk.new w 25 #[.slice A 0 ca, .slice C l.length cc]).alloc (.cells #[.slice B 0 cb, .slice D m.length cd] 25)).alloc (.cells nil2 25)
  have b2 := (Blk.new (w.alloc (.cells #[.slice A 0 ca, .slice C l.length cc] 25)) 25 #[.slice B 0 cb, .slice D m.length cd]).alloc (.cells nil2 25)
  have b3 := Blk.new ((w.alloc (.cells #[.slice A 0 ca, .slice C l.length cc] 25)).alloc (.cells #[.slice B 0 cb, .slice D m.length cd] 25)) 25 nil2
  rw [sz1] at b2
  rw [sz2] at b3
  have BA3 := Lib.hid b1
  have BB3 := Lib.hid b2
  have BR3 := Lib.hid b3
  have UW3 := Lib.hid ((((Upd.refl NoF w).alloc (.cells #[.slice A 0 ca, .slice C l.length cc] 25)).alloc (.cells #[.slice B 0 cb, .slice D m.length cd] 25)).alloc (.cells nil2 25))
  obtain ⟨W3, hW3⟩ : ∃ x, x = (((w.alloc (.cells #[.slice A 0 ca, .slice C l.length cc] 25)).alloc (.cells #[.slice B 0 cb, .slice D m.length cd] 25)).alloc (.cells nil2 25)) := ⟨_, rfl⟩
  rw [← hW3] at BA3 BB3 BR3 UW3
  have hr3 : w.heap.size + 2 < W3.heap.size := BR3.out.lt
  have HRL := Lib.hid (show ∀ W, Upd NoF W3.drew W → Rd W 1 (.slice C l.length cc) l.length us from fun W hu => hu2.keep (UW3.out.trans (((Upd.refl NoF W3).drew).trans hu (fun _ _ f => f)) (fun _ _ f => f)))
  have HRM := Lib.hid (show ∀ W, Upd NoF W3.drew W → Rd W 1 (.slice D m.length cd) m.length vs from fun W hu => hv2.keep (UW3.out.trans (((Upd.refl NoF W3).drew).trans hu (fun _ _ f => f)) (fun _ _ f => f)))
  clear sz1 sz2 b1 b2 b3 hu1 hu2 hu3 hv1 hv2 hv3 ha ha' hl hca hcb
  go_enter Tryz.func25, Tryz.ntmps25
  go_wp2_with fail
  rw [← hW3]
  clear hW3
  refine wp_region_rgv (rgR [isV (.pointer (some ⟨w.heap.size, 0, none⟩)), isV (.slice A 0 ca), isV (.pointer (some ⟨(w.heap.size + 1), 0, none⟩)), isV (.slice B 0 cb), UnB 22 (.slice A 0 ca) (.slice B 0 cb), UnC 57 23 0 [], isV (.pointer (some ⟨w.heap.size, 1, none⟩)), isV (.slice C l.length cc), isV (.pointer (some ⟨(w.heap.size + 1), 1, none⟩)), isV (.slice D m.length cd), UnB 23 (.slice C l.length cc) (.slice D m.length cd), UnC 28 1 (l.length + m.length) (us ++ vs), UnA 0 (l.length + m.length) [] (us ++ vs), UnD W3.drew ⟨[], l ++ m⟩, anyV, anyV]) (UnSt W3.drew.heap.size) (UnPh W3.drew ⟨[], l ++ m⟩) (by kernel_rfl) (by kernel_rfl) (by kernel_rfl) (by rfl) (fun L w => Upd.refl _ _) (rgR_keepL ⟨stbL_isV _, stbL_isV _, stbL_isV _, stbL_isV _, stbL_ub (by decide), stbL_uc (by decide), stbL_isV _, stbL_isV _, stbL_isV _, stbL_isV _, stbL_ub (by decide), stbL_uc (by decide), stbL_ua, stbL_ud, stbL_any, stbL_any, trivial⟩) (UnPh.start) ?_ ?_
  · refine ⟨?_, ?_, ?_, ?_, ?_, ?_, ?_, ?_, ?_, ?_, ?_, ?_, ?_, ?_, ?_, ?_, trivial⟩
    · refine fun ρ w' L hW hLi hcl hd hdep hext hc hg hf => ?_
      rw [if_pos (show wantedR _ _ _ = true from rfl)]
      have e2 : ρ (.tmp 2) = ptrV w.heap.size := hext 2 (by kernel_rfl)
      clear hdep hext hcl
      have HW := Lib.hid hW
      clear hW
      unfold OpDone
      go_simp
      exact ⟨rfl, Upd.refl _ _, (fun ρ' hk _ => HW.out.more (by decide) (by decide) (Upd.refl _ _) (hk 5 (by decide)))⟩
    · refine fun ρ w' L hW hLi hcl hd hdep hext hc hg hf => ?_
      rw [if_pos (show wantedR _ _ _ = true from rfl)]
      have e6 : ρ (.tmp 6) = .pointer (some ⟨w.heap.size, 0, none⟩) := hdep 0 _ rfl (by kernel_rfl)
      have hcz : w'.cell? ⟨w.heap.size, 0, none⟩ = some (.slice A 0 ca) := (hW.up.blk (Blk.drew BA3.out) (fun f => f)).cell 0
      clear hdep hext hcl
      have HW := Lib.hid hW
      clear hW
      unfold OpDone
      go_simp
      exact ⟨rfl, Upd.refl _ _, (fun ρ' hk _ => HW.out.more (by decide) (by decide) (Upd.refl _ _) (hk 5 (by decide)))⟩
    · refine fun ρ w' L hW hLi hcl hd hdep hext hc hg hf => ?_
      rw [if_pos (show wantedR _ _ _ = true from rfl)]
      have e3 : ρ (.tmp 3) = ptrV (w.heap.size + 1) := hext 3 (by kernel_rfl)
      clear hdep hext hcl
      have HW := Lib.hid hW
      clear hW
      unfold OpDone
      go_simp
      exact ⟨rfl, Upd.refl _ _, (fun ρ' hk _ => HW.out.more (by decide) (by decide) (Upd.refl _ _) (hk 5 (by decide)))⟩
    · refine fun ρ w' L hW hLi hcl hd hdep hext hc hg hf => ?_
      rw [if_pos (show wantedR _ _ _ = true from rfl)]
      have e8 : ρ (.tmp 8) = .pointer (some ⟨(w.heap.size + 1), 0, none⟩) := hdep 2 _ rfl (by kernel_rfl)
      have hcz : w'.cell? ⟨(w.heap.size + 1), 0, none⟩ = some (.slice B 0 cb) := (hW.up.blk (Blk.drew BB3.out) (fun f => f)).cell 0
      clear hdep hext hcl
      have HW := Lib.hid hW
      clear hW
      unfold OpDone
      go_simp
      exact ⟨rfl, Upd.refl _ _, (fun ρ' hk _ => HW.out.more (by decide) (by decide) (Upd.refl _ _) (hk 5 (by decide)))⟩
    · refine fun ρ w' L hW hLi hcl hd hdep hext hc hg hf => ?_
      rw [if_pos (show wantedR _ _ _ = true from rfl)]
      have e7 : ρ (.tmp 7) = .slice A 0 ca := hdep 1 _ rfl (by kernel_rfl)
      have e9 : ρ (.tmp 9) = .slice B 0 cb := hdep 3 _ rfl (by kernel_rfl)
      clear hdep hext
      have kk := bs_sgs A B 0 0 ca cb w'
      have HW := Lib.hid hW
      clear hW
      unfold OpDone
      go_simp
      exact ⟨⟨_, rfl, Blk.new w' _ _⟩, UnSt.none ((Upd.refl _ w').alloc _), (fun ρ' hk _ => HW.out.more (by decide) (by decide) ((Upd.refl _ w').alloc _) (hk 5 (by decide)))⟩
    · refine fun ρ w' L hW hLi hcl hd hdep hext hc hg hf => ?_
      rw [if_pos (show wantedR _ _ _ = true from rfl)]
      have e10 : (UnB 22 (.slice A 0 ca) (.slice B 0 cb)) (ρ (.tmp 10)) w' := hdep 4 _ rfl (by kernel_rfl)
      clear hdep hext
      obtain ⟨g, hv, hbk⟩ := e10
      have CC := Lib.hid (ConcatS_any (xs := []) (ys := []) hbk (Rd.of0 w' 23 HCA.out) (Rd.of0 w' 23 HCB.out) (by simp) (by simp) (by omega) (by omega))
      have HW := Lib.hid hW
      clear hW hbk
      unfold OpDone
      go_simp
      refine CC.out.mono ?_
      rintro e w2 ⟨A2, c2, rfl, ho2, hn2, hu2⟩
      exact ⟨_, rfl, ⟨A2, c2, rfl, ho2⟩, UnSt.none hu2, (fun ρ' hk _ => HW.out.more (by decide) (by decide) hu2 (hk 5 (by decide)))⟩
    · refine fun ρ w' L hW hLi hcl hd hdep hext hc hg hf => ?_
      rw [if_pos (show wantedR _ _ _ = true from rfl)]
      have e2 : ρ (.tmp 2) = ptrV w.heap.size := hext 2 (by kernel_rfl)
      clear hdep hext hcl
      have HW := Lib.hid hW
      clear hW
      unfold OpDone
      go_simp
      exact ⟨rfl, Upd.refl _ _, (fun ρ' hk _ => HW.out.more (by decide) (by decide) (Upd.refl _ _) (hk 5 (by decide)))⟩
    · refine fun ρ w' L hW hLi hcl hd hdep hext hc hg hf => ?_
      rw [if_pos (show wantedR _ _ _ = true from rfl)]
      have e12 : ρ (.tmp 12) = .pointer (some ⟨w.heap.size, 1, none⟩) := hdep 6 _ rfl (by kernel_rfl)
      have hcz : w'.cell? ⟨w.heap.size, 1, none⟩ = some (.slice C l.length cc) := (hW.up.blk (Blk.drew BA3.out) (fun f => f)).cell 1
      clear hdep hext hcl
      have HW := Lib.hid hW
      clear hW
      unfold OpDone
      go_simp
      exact ⟨rfl, Upd.refl _ _, (fun ρ' hk _ => HW.out.more (by decide) (by decide) (Upd.refl _ _) (hk 5 (by decide)))⟩
    · refine fun ρ w' L hW hLi hcl hd hdep hext hc hg hf => ?_
      rw [if_pos (show wantedR _ _ _ = true from rfl)]
      have e3 : ρ (.tmp 3) = ptrV (w.heap.size + 1) := hext 3 (by kernel_rfl)
      clear hdep hext hcl
      have HW := Lib.hid hW
      clear hW
      unfold OpDone
      go_simp
      exact ⟨rfl, Upd.refl _ _, (fun ρ' hk _ => HW.out.more (by decide) (by decide) (Upd.refl _ _) (hk 5 (by decide)))⟩
    · refine fun ρ w' L hW hLi hcl hd hdep hext hc hg hf => ?_
      rw [if_pos (show wantedR _ _ _ = true from rfl)]
      have e14 : ρ (.tmp 14) = .pointer (some ⟨(w.heap.size + 1), 1, none⟩) := hdep 8 _ rfl (by kernel_rfl)
      have hcz : w'.cell? ⟨(w.heap.size + 1), 1, none⟩ = some (.slice D m.length cd) := (hW.up.blk (Blk.drew BB3.out) (fun f => f)).cell 1
      clear hdep hext hcl
      have HW := Lib.hid hW
      clear hW
      unfold OpDone
      go_simp
      exact ⟨rfl, Upd.refl _ _, (fun ρ' hk _ => HW.out.more (by decide) (by decide) (Upd.refl _ _) (hk 5 (by decide)))⟩
    · refine fun ρ w' L hW hLi hcl hd hdep hext hc hg hf => ?_
      rw [if_pos (show wantedR _ _ _ = true from rfl)]
      have e13 : ρ (.tmp 13) = .slice C l.length cc := hdep 7 _ rfl (by kernel_rfl)
      have e15 : ρ (.tmp 15) = .slice D m.length cd := hdep 9 _ rfl (by kernel_rfl)
      clear hdep hext
      have kk := bs_txs C D l.length m.length cc cd w'
      have HW := Lib.hid hW
      clear hW
      unfold OpDone
      go_simp
      exact ⟨⟨_, rfl, Blk.new w' _ _⟩, UnSt.none ((Upd.refl _ w').alloc _), (fun ρ' hk _ => HW.out.more (by decide) (by decide) ((Upd.refl _ w').alloc _) (hk 5 (by decide)))⟩
    · refine fun ρ w' L hW hLi hcl hd hdep hext hc hg hf => ?_
      rw [if_pos (show wantedR _ _ _ = true from rfl)]
      have e16 : (UnB 23 (.slice C l.length cc) (.slice D m.length cd)) (ρ (.tmp 16)) w' := hdep 10 _ rfl (by kernel_rfl)
      clear hdep hext
      obtain ⟨g, hv, hbk⟩ := e16
      have CC := Lib.hid (ConcatT_any hbk (HRL.out w' hW.up) (HRM.out w' hW.up) HO1.out HO2.out hs1 hs2)
      have HW := Lib.hid hW
      clear hW hbk
      unfold OpDone
      go_simp
      refine CC.out.mono ?_
      rintro e w2 ⟨A2, c2, rfl, ho2, hn2, hu2⟩
      exact ⟨_, rfl, ⟨A2, c2, rfl, ho2⟩, UnSt.none hu2, (fun ρ' hk _ => HW.out.more (by decide) (by decide) hu2 (hk 5 (by decide)))⟩
    · refine fun ρ w' L hW hLi hcl hd hdep hext hc hg hf => ?_
      rw [if_pos (show wantedR _ _ _ = true from rfl)]
      have e11 : (UnC 57 23 0 []) (ρ (.tmp 11)) w' := hdep 5 _ rfl (by kernel_rfl)
      have e17 : (UnC 28 1 (l.length + m.length) (us ++ vs)) (ρ (.tmp 17)) w' := hdep 11 _ rfl (by kernel_rfl)
      clear hdep hext
      obtain ⟨A2, c2, hv2, ho2⟩ := e11
      obtain ⟨A4, c4, hv4, ho4⟩ := e17
      have HO2' := Lib.hid ho2
      have HO4' := Lib.hid ho4
      have HW := Lib.hid hW
      clear hW ho2 ho4
      unfold OpDone
      go_simp
      exact ⟨⟨_, _, _, _, rfl, HO2'.out, HO4'.out⟩, Upd.refl _ _, (fun ρ' hk _ => HW.out.more (by decide) (by decide) (Upd.refl _ _) (hk 5 (by decide)))⟩
    · refine fun ρ w' L hW hLi hcl hd hdep hext hc hg hf => ?_
      rw [if_pos (show wantedR _ _ _ = true from rfl)]
      have e18 : (UnA 0 (l.length + m.length) [] (us ++ vs)) (ρ (.tmp 18)) w' := hdep 12 _ rfl (by kernel_rfl)
      clear hdep hext
      obtain ⟨A2, c2, B2, d2, hv2, ho2, ho4⟩ := e18
      have CC := Lib.hid (Clone0_any (w := w') (a := .slice A2 0 c2) (b := .slice B2 (l.length + m.length) d2) (l := l ++ m) (SgR.of0 ho2.rd) (TxR.cat HU1.out HV1.out HUL.out HVL.out (by rw [List.length_append]; exact ho4.rd) (UW3.out.trans (((Upd.refl NoF W3).drew).trans hW.up (fun _ _ f => f)) (fun _ _ f => f))) (by rw [List.length_append]; omega) HLL.out)
      have hs0 : W3.drew.heap.size ≤ w'.heap.size := hW.up.size
      have HS0 := Lib.hid hs0
      have HW := Lib.hid hW
      clear hW ho2 ho4 hs0
      unfold OpDone
      go_simp
      refine CC.out.mono ?_
      rintro e w2 ⟨Av, At, cv, ct, rfl, k1, k2, k3, k4, hu2⟩
      exact ⟨_, rfl, ⟨Av, At, cv, ct, rfl, k1, fun k hk => Nat.le_trans HS0.out (k2 k hk), k3, fun k hk => Nat.le_trans HS0.out (k4 k hk)⟩, UnSt.none hu2, (fun ρ' hk _ => HW.out.more (by decide) (by decide) hu2 (hk 5 (by decide)))⟩
    · refine fun ρ w' L hW hLi hcl hd hdep hext hc hg hf => ?_
      rw [if_pos (show wantedR _ _ _ = true from rfl)]
      clear hdep hext
      have h15 : L 15 = false := by
        cases h : L 15 with
        | false => rfl
        | true => exact absurd (hcl 15 14 h (by kernel_rfl)) (by rw [hLi]; decide)
      have HW := Lib.hid hW
      clear hW
      unfold OpDone
      go_simp
      exact ⟨trivial, UnSt.none ((Upd.refl _ w').alloc _), fun ρ' _ hp => HW.out.alloc h15 hp⟩
    · refine fun ρ w' L hW hLi hcl hd hdep hext hc hg hf => ?_
      rw [if_pos (show wantedR _ _ _ = true from rfl)]
      have e19 : (UnD W3.drew ⟨[], l ++ m⟩) (ρ (.tmp 19)) w' := hdep 13 _ rfl (by kernel_rfl)
      clear hdep hext
      have h14 : L 14 = true := hd 14 (by kernel_rfl)
      obtain ⟨Av, At, cv, ct, hv, k1, k2, k3, k4⟩ := e19
      obtain ⟨b, b1, b2, b3, -⟩ := hW.lk h14
      have e5' : ρ (.tmp 5) = .pointer (some ⟨b, 0, none⟩) := b1
      have x0 : w'.cell? ⟨b, 0, none⟩ = some (.slice none 0 0) := (b3 hLi).cell 0
      have x1 : w'.cell? ⟨b, 1, none⟩ = some (.slice none 0 0) := (b3 hLi).cell 1
      have x2 : w'.frozen? ⟨b, 0, none⟩ = false := (b3 hLi).frozen 0
      have x3 : w'.frozen? ⟨b, 1, none⟩ = false := (b3 hLi).frozen 1
      have hkk := fun (ρ' : Operand → Value) (h5 : ρ' (.tmp 5) = ρ (.tmp 5)) => hW.store (ρ' := ρ') h14 hLi b1 h5 k1 k2 k3 k4
      simp only [List.length_append, List.length_nil] at hkk
      have KK := Lib.hid hkk
      clear hW b1 b3 k1 k2 k3 k4 hkk
      unfold OpDone
      go_simp
      exact ⟨trivial, (KK.out ρ rfl).2, fun ρ' hk => (KK.out ρ' (hk 5)).1⟩
  intro vs_ wz L hL hW hR
  obtain ⟨b, hb5, hbS, -, hst⟩ := hW.lk (hL 14 (by decide))
  obtain ⟨Av, At, cv, ct, k0, k1, k2, k3, k4⟩ := hst (hL 15 (by decide))
  simp only [putAll, Act.put, List.setIfInBounds_toArray, List.set_cons_zero, List.set_cons_succ, Act.eval] at hb5
  have hb5 : vs_ 14 = ptrV b := hb5
  have hv0 : vs_ 0 = .pointer (some ⟨w.heap.size, 0, none⟩) := hR 0 _ rfl
  have hv1 : vs_ 1 = .slice A 0 ca := hR 1 _ rfl
  have hv2 : vs_ 2 = .pointer (some ⟨(w.heap.size + 1), 0, none⟩) := hR 2 _ rfl
  have hv3 : vs_ 3 = .slice B 0 cb := hR 3 _ rfl
  have hr4 : (UnB 22 (.slice A 0 ca) (.slice B 0 cb)) (vs_ 4) wz := hR 4 _ rfl
  obtain ⟨g4, hv4, -⟩ := hr4
  have hr5 : (UnC 57 23 0 []) (vs_ 5) wz := hR 5 _ rfl
  obtain ⟨A5, c5, hv5, -⟩ := hr5
  have hv6 : vs_ 6 = .pointer (some ⟨w.heap.size, 1, none⟩) := hR 6 _ rfl
  have hv7 : vs_ 7 = .slice C l.length cc := hR 7 _ rfl
  have hv8 : vs_ 8 = .pointer (some ⟨(w.heap.size + 1), 1, none⟩) := hR 8 _ rfl
  have hv9 : vs_ 9 = .slice D m.length cd := hR 9 _ rfl
  have hr10 : (UnB 23 (.slice C l.length cc) (.slice D m.length cd)) (vs_ 10) wz := hR 10 _ rfl
  obtain ⟨g10, hv10, -⟩ := hr10
  have hr11 : (UnC 28 1 (l.length + m.length) (us ++ vs)) (vs_ 11) wz := hR 11 _ rfl
  obtain ⟨A11, c11, hv11, -⟩ := hr11
  have hr12 : (UnA 0 (l.length + m.length) [] (us ++ vs)) (vs_ 12) wz := hR 12 _ rfl
  obtain ⟨A12, c12, B12, d12, hv12, -⟩ := hr12
  have hr13 : (UnD W3.drew ⟨[], l ++ m⟩) (vs_ 13) wz := hR 13 _ rfl
  obtain ⟨A13, B13, c13, d13, hv13, -⟩ := hr13
  have hr14 : (anyV) (vs_ 14) wz := hR 14 _ rfl
  have hv14 := hb5
  simp only [putAll, Act.put, List.setIfInBounds_toArray, List.set_cons_zero, List.set_cons_succ, hv0, hv1, hv2, hv3, hv4, hv5, hv6, hv7, hv8, hv9, hv10, hv11, hv12, hv13, hv14]
  clear hR hv0 hv1 hv2 hv3 hv4 hv5 hv6 hv7 hv8 hv9 hv10 hv11 hv12 hv13 hv14
  have hsz3 : W3.heap.size ≤ b := hbS
  have U4 := Lib.hid (show Upd NoF w wz from UW3.out.trans (((Upd.refl NoF W3).drew).trans hW.up (fun _ _ f => f)) (fun _ _ f => f))
  have BR4 := Lib.hid (show Blk wz (w.heap.size + 2) 25 nil2 from hW.up.blk (Blk.drew BR3.out) (fun f => f))
  have BV4 := Lib.hid k0
  have hnT : ∀ k, OwnB (.slice At (l ++ m).length ct) k → w.heap.size + 2 < k := fun k hk => Nat.lt_of_lt_of_le hr3 (k4 k hk)
  have HNT := Lib.hid hnT
  have HTX := Lib.hid k3
  have TM4 := Lib.hid (show TxM wz (fun k => OwnB (.slice At (l ++ m).length ct) k ∨ k = b ∨ k = w.heap.size + 2) At ct (l ++ m) from k3.to (fun k hk cs hbk => by
    obtain ⟨us', q1, q2, q3, q4⟩ := k3
    rcases hk with hk | hk | hk
    · exact q2.blk_ne hbk (by decide) hk
    · rw [hk] at hbk
      exact absurd rfl (Blk.unlike k0 hbk (by decide))
    · rw [hk] at hbk
      exact absurd rfl (Blk.unlike BR4.out hbk (by decide))))
  have HCV := Lib.hid (show cv ≤ maxLen from by
    obtain ⟨_, us', q1, q2, q3⟩ := k1
    obtain ⟨A', c', e, h1, h2, -⟩ := q2.rd
    injection e with _ _ e3
    rw [e3]
    exact h2)
  have CS := Lib.hid (SortT_any TM4.out (fun k hk => .inl hk) (by rw [List.length_append]; omega))
  have HLN := Lib.hid (show (l ++ m).length = l.length + m.length from List.length_append)
  have v0 : wz.cell? ⟨b, 0, none⟩ = some (.slice Av 0 cv) := k0.cell 0
  have v1 : wz.cell? ⟨b, 1, none⟩ = some (.slice At (l ++ m).length ct) := k0.cell 1
  have C0 := Lib.hid (fun W => sortStable0 Av cv (fnV 70) W)
  have D0 := Lib.hid (fun W => CompactS0 Av cv (fnV 63) W)
  clear hW hL hbS k0 k1 k2 k3 k4 hnT UW3 BA3 BB3 HRL HRM HUL HVL
  obtain ⟨N, hN⟩ : ∃ n, (l ++ m).length = n := ⟨_, rfl⟩
  rw [hN] at v1 CS
  have HN := Lib.hid hN
  clear hN
  unfold ptrV
  unfold fnV at C0 D0 CS
  go_wp2_with fail
  refine (C0.out _).mono ?_
  rintro e w4 ⟨rfl, rfl⟩
  go_wp2_with fail
  refine CS.out.mono ?_
  rintro e w5 ⟨rfl, ht5, hu5⟩
  have hTN := HNT.out
  have nb : ¬ OwnB (.slice At (l ++ m).length ct) b := HTX.out.ne BV4.out
  have TM5 := Lib.hid ht5
  have BV5 := Lib.hid (hu5.blk BV4.out nb)
  have BR5 := Lib.hid (hu5.blk BR4.out (fun f => by have := hTN _ f; omega))
  have U5 := Lib.hid (U4.out.trans hu5 (fun k hk f => by have := hTN k f; omega))
  have v0 : w5.cell? ⟨b, 0, none⟩ = some (.slice Av 0 cv) := BV5.out.cell 0
  have v1 : w5.cell? ⟨b, 1, none⟩ = some (.slice At N ct) := by have := BV5.out.cell 1; rw [← HN.out]; exact this
  have v2 : w5.frozen? ⟨b, 0, none⟩ = false := BV5.out.frozen 0
  have v3 : w5.frozen? ⟨b, 1, none⟩ = false := BV5.out.frozen 1
  have hS5 : Upd (fun k => k = b) w5 (w5.setCell ⟨b, 0, none⟩ (.slice Av 0 cv)) := (Upd.refl (fun k => k = b) w5).setCell (p := ⟨b, 0, none⟩) (.inl rfl) _
  have sl : (sortL lessT (l ++ m)).length = (l ++ m).length := sortL_len _
  have CT := Lib.hid (CompactT_any (ht5.upd hS5 (fun k hk f => by rw [show k = b from f, sl] at hk; exact nb hk) (fun k _ f => .inr (.inl f))) (fun k hk => by rw [sl, HN.out] at hk; exact .inl hk) (by rw [sl, List.length_append]; omega))
  rw [sl, HN.out] at CT
  unfold fnV at CT
  have BV6 := Lib.hid (BV5.out.put 0 (.slice Av 0 cv))
  have BR6 := Lib.hid (hS5.blk BR5.out (fun f => by have f : w.heap.size + 2 = b := f; omega))
  have U6 := Lib.hid (U5.out.trans hS5 (fun k hk f => by have f : k = b := f; omega))
  have HNB := Lib.hid nb
  clear ht5 hu5 hS5 sl CS C0 nb hTN
  go_wp2_with fail
  refine (D0.out _).mono ?_
  rintro e w6 ⟨rfl, rfl⟩
  go_wp2_with fail
  refine CT.out.mono ?_
  rintro e w7 ⟨rfl, ht7, hu7⟩
  have hTN := HNT.out
  have sl : (sortL lessT (l ++ m)).length = (l ++ m).length := sortL_len _
  unfold CompTPost at *
  rw [sl] at hu7
  have TM7 := Lib.hid ht7
  have BV7 := Lib.hid (hu7.blk BV6.out HNB.out)
  have BR7 := Lib.hid (hu7.blk BR6.out (fun f => by have := hTN _ f; omega))
  have U7 := Lib.hid (U6.out.trans hu7 (fun k hk f => by have := hTN k f; omega))
  have v0 : w7.cell? ⟨b, 0, none⟩ = some (.slice Av 0 cv) := BV7.out.cell 0
  have v1 : w7.cell? ⟨b, 1, none⟩ = some (.slice At (l ++ m).length ct) := BV7.out.cell 1
  have v2 : w7.frozen? ⟨b, 0, none⟩ = false := BV7.out.frozen 0
  have v3 : w7.frozen? ⟨b, 1, none⟩ = false := BV7.out.frozen 1
  have x0 : w7.cell? ⟨w.heap.size + 2, 0, none⟩ = some (.slice none 0 0) := BR7.out.cell 0
  have x1 : w7.cell? ⟨w.heap.size + 2, 1, none⟩ = some (.slice none 0 0) := BR7.out.cell 1
  have x2 : w7.frozen? ⟨w.heap.size + 2, 0, none⟩ = false := BR7.out.frozen 0
  have x3 : w7.frozen? ⟨w.heap.size + 2, 1, none⟩ = false := BR7.out.frozen 1
  have hRb : w.heap.size + 2 ≠ b := by omega
  have hbR : b ≠ w.heap.size + 2 := by omega
  have HLE := Lib.hid (comp_len (sortL lessT (l ++ m)))
  have HTN' := Lib.hid (show ∀ k, OwnB (.slice At (compL (sortL lessT (l ++ m))).length ct) k → OwnB (.slice At (l ++ m).length ct) k from fun k hk => by
    cases At <;> (simp [OwnB, Value.ownBlock] at hk ⊢; try exact hk))
  obtain ⟨q, hq⟩ : ∃ n, (compL (sortL lessT (l ++ m))).length = n := ⟨_, rfl⟩
  have HQ := Lib.hid hq
  rw [hq]
  clear ht7 hu7 hTN sl hq D0 CT
  go_wp2
  have hzb : Upd (fun k => k = b) w7 (w7.setCell ⟨b, 1, none⟩ (.slice At q ct)) := (Upd.refl (fun k => k = b) w7).setCell (p := ⟨b, 1, none⟩) (.inl rfl) _
  have BR8 := hzb.blk BR7.out (fun f => hRb f)
  have hzR : Upd (fun k => k = w.heap.size + 2) (w7.setCell ⟨b, 1, none⟩ (.slice At q ct)) (((w7.setCell ⟨b, 1, none⟩ (.slice At q ct)).setCell ⟨w.heap.size + 2, 0, none⟩ (.slice Av 0 cv)).setCell ⟨w.heap.size + 2, 1, none⟩ (.slice At q ct)) := ((Upd.refl (fun k => k = w.heap.size + 2) _).setCell (p := ⟨w.heap.size + 2, 0, none⟩) (.inl rfl) _).setCell (p := ⟨w.heap.size + 2, 1, none⟩) (.inl rfl) _
  refine bodyPost_ret (results_cell_row Tryz.results25 _ _ (w.heap.size + 2) 25 #[.slice Av 0 cv, .slice At q ct] (0, 0) _ rfl ((BR8.put 0 (.slice Av 0 cv)).put 1 (.slice At q ct)) Tryz.underlying25 rfl (by rw [view_size]; rfl)) rfl ?_
  have hTN := HNT.out
  have hT8 := TM7.out.upd hzb (fun k hk f => by rw [show k = b from f] at hk; exact HNB.out (HTN'.out _ hk)) (fun k _ f => .inr (.inl f))
  have hT9 := (hT8.upd hzR (fun k hk f => by rw [show k = w.heap.size + 2 from f] at hk; have := hTN _ (HTN'.out _ hk); omega) (fun k _ f => .inr (.inr f))).rd
  rw [HQ.out] at hT9
  exact ⟨_, _, rfl, ⟨SgR.of0 (Rd.of0 _ 23 HCV.out), hT9⟩, (U7.out.trans hzb (fun k hk f => by have f : k = b := f; omega)).trans hzR (fun k hk f => by have f : k = w.heap.size + 2 := f; omega)⟩
end

section
open Go.RowKit

def tmpN (nm : List UInt8) : List UInt8 := nm ++ [46, 110, 101, 119]
/-- Write on plain data. -/
def sWrite (s : DSt) (nm : List UInt8) (V : ViewS) : Int × DSt :=
  if (encodeS V).2 ≠ 0 then ((encodeS V).2, s) else
  if (sRemove s (tmpN nm)).1 ≠ 0 ∧ (sRemove s (tmpN nm)).1 ≠ 6 then sRemove s (tmpN nm) else
  if (sAppend (sRemove s (tmpN nm)).2 (tmpN nm) (encodeS V).1).1 ≠ 0 then sAppend (sRemove s (tmpN nm)).2 (tmpN nm) (encodeS V).1 else
  if (sSync (sAppend (sRemove s (tmpN nm)).2 (tmpN nm) (encodeS V).1).2 (tmpN nm)).1 ≠ 0 then sSync (sAppend (sRemove s (tmpN nm)).2 (tmpN nm) (encodeS V).1).2 (tmpN nm) else
  sRename (sSync (sAppend (sRemove s (tmpN nm)).2 (tmpN nm) (encodeS V).1).2 (tmpN nm)).2 (tmpN nm) nm
theorem rename_dk {w0 w : World} {F0 : Nat → Prop} {d : Nat} {s : DSt} (h : Dk w0 F0 d s w) (nm to : List UInt8) (hm : nm.length ≤ maxLen) (hto : to.length ≤ maxLen) (hL : s.fs.length < maxLen) : Calls Tryz.prog 51 #[ptrV d, strV nm, strV to] w (ErrDk w0 F0 d (sRename s nm to)) := by
  obtain ⟨F, a, b', c⟩ := h
  exact (rename_spec a nm to hm hto hL).mono fun e w' he => he.dk c b'
theorem str_cat (a b : List UInt8) : (({ data := a.toArray } : ByteArray) ++ { data := b.toArray }) = { data := (a ++ b).toArray } := by
  apply ByteArray.ext
  simp
theorem dk_from {w w2 w' : World} {F : Nat → Prop} {d : Nat} {r : Int × DSt} {e : Ending} (hu : Upd NoF w w2) (h : ErrDk w2 F d r e w') : ErrDk w F d r e w' := ⟨h.1, DiskStep.after hu h.2⟩
set_option maxRecDepth 100000 in
set_option maxHeartbeats 8000000 in
theorem Write_any {w : World} {F : Nat → Prop} {d : Nat} {s : DSt} {a b : Value} {V : ViewS} (h : DiskAt w d s F) (hv : VwR w a b V) (nm : List UInt8) (hm : nm.length ≤ 1000000) (hs1 : V.votes.length ≤ 1000000) (hs2 : V.texts.length ≤ 1000000)
    (hl : ((getF (sRemove s (tmpN nm)).2.fs (tmpN nm)).getD ⟨[], 0⟩).c.length + (encodeS V).1.length ≤ 1099511627776) (hL1 : (sRemove s (tmpN nm)).2.fs.length < maxLen) (hL3 : (sSync (sAppend (sRemove s (tmpN nm)).2 (tmpN nm) (encodeS V).1).2 (tmpN nm)).2.fs.length < maxLen) :
    Calls Tryz.prog 17 #[ptrV d, strV nm, .agg #[a, b]] w (ErrDk w F d (sWrite s nm V)) := by
  have DK := Lib.hid h.dk
  have HV := Lib.hid hv
  obtain ⟨A, ca, hea, -, -⟩ := hv.1.form
  obtain ⟨B, cb, heb, -, -⟩ := hv.2.form
  have UW := Lib.hid ((Upd.refl NoF w).alloc (.cells #[a, b] 25))
  have BW := Lib.hid (Blk.new w 25 #[a, b])
  obtain ⟨W1, hW1⟩ : ∃ x, x = w.alloc (.cells #[a, b] 25) := ⟨_, rfl⟩
  rw [← hW1] at UW BW
  have CE := Lib.hid (Encode_any (hv.keep UW.out) hs1 hs2)
  have c0 : W1.cell? ⟨w.heap.size, 0, none⟩ = some a := BW.out.cell 0
  have c1 : W1.cell? ⟨w.heap.size, 1, none⟩ = some b := BW.out.cell 1
  rw [hW1] at c0 c1
  have HTL := Lib.hid (show (tmpN nm).length ≤ maxLen from by unfold tmpN maxLen; simp; omega)
  have HNL := Lib.hid (show nm.length ≤ maxLen from by unfold maxLen; omega)
  have HL := Lib.hid hl
  have HL1 := Lib.hid hL1
  have HL3 := Lib.hid hL3
  have hcat : (({ data := nm.toArray } : ByteArray) ++ { data := #[46, 110, 101, 119] }) = { data := (tmpN nm).toArray } := str_cat nm [46, 110, 101, 119]
  have hll : ¬ (9223372036854775807 < nm.length + 4) := by omega
  have HD := Lib.hid h
  clear hv h hl hL1 hL3
  subst hea heb
  go_enter Tryz.func17, Tryz.ntmps17
  go_wp2_with fail
  rw [← hW1]
  clear hW1
  refine CE.out.mono ?_
  rintro e w2 ⟨A2, c2, rfl, hn2⟩
  have E2 := Lib.hid hn2
  have UW2 := Lib.hid (UW.out.trans hn2.2.2 (fun _ _ f => f))
  have D2 := Lib.hid ((HD.out.upd UW2.out (fun _ _ f => f)).dk)
  clear hn2
  by_cases h0 : (encodeS V).2 = 0
  rotate_left
  · have SW := Lib.hid (show sWrite s nm V = ((encodeS V).2, s) from by unfold sWrite; rw [if_pos h0])
    generalize (encodeS V).2 = ec at h0 SW ⊢
    have t0 : decide (ec = 0) = false := by simp [h0]
    have t0' : (ec == 0) = false := by simp [h0]
    go_wp2
    go_ret
    rw [SW.out]
    exact dk_from UW2.out ⟨rfl, D2.out⟩
  have SW := Lib.hid (show sWrite s nm V = _ from by unfold sWrite; rw [if_neg (by rw [h0]; decide)])
  rw [h0]
  go_wp2_with fail
  refine (remove_dk D2.out (tmpN nm) HTL.out).mono ?_
  rintro e w3 ⟨rfl, hd3⟩
  obtain ⟨⟨e1, s1⟩, hr1⟩ : ∃ x, sRemove s (tmpN nm) = x := ⟨_, rfl⟩
  rw [hr1] at hd3 HL HL1 HL3 SW ⊢
  clear h0 hr1
  simp only at HL HL1 HL3 hd3 SW
  by_cases h1 : e1 = 0
  · subst h1
    rw [if_neg (by simp)] at SW
    have N3 := Lib.hid hd3
    clear hd3
    go_wp2_with fail
    refine (append_dk N3.out (Upd.refl NoF w3) (tmpN nm) HTL.out _ _ (fun G hG => ?_) HL.out HL1.out).mono ?_
    · have hne : ∀ k, OwnB (.slice A2 (encodeS V).1.length c2) k → ¬ F k := fun k hk f => by have h1 := HD.out.lt f; have h2 := E2.out.2.1 k hk; have h3 := UW.out.size; omega
      refine (E2.out.1.upd N3.out.out hne).rdF (fun k hk f => ?_)
      rcases (hG k f).1 with q | q
      · exact hne k hk q
      · have := E2.out.1.lt hk; omega
    rintro e w4 ⟨rfl, hd4⟩
    obtain ⟨⟨e2, s2⟩, hr2⟩ : ∃ x, sAppend s1 (tmpN nm) (encodeS V).1 = x := ⟨_, rfl⟩
    rw [hr2] at hd4 HL3 SW ⊢
    have N4 := Lib.hid hd4
    clear hd4 hr2
    by_cases h2 : e2 = 0
    · subst h2
      go_wp2_with fail
      refine (sync_dk N4.out (tmpN nm) HTL.out).mono ?_
      rintro e w5 ⟨rfl, hd5⟩
      obtain ⟨⟨e3, s3⟩, hr3⟩ : ∃ x, sSync s2 (tmpN nm) = x := ⟨_, rfl⟩
      try simp only at HL3
      rw [hr3] at hd5 HL3 SW ⊢
      have N5 := Lib.hid hd5
      clear hd5 hr3
      by_cases h3 : e3 = 0
      · subst h3
        go_wp2_with fail
        refine (rename_dk N5.out (tmpN nm) nm HTL.out HNL.out HL3.out).mono ?_
        rintro e w6 ⟨rfl, hd6⟩
        have N6 := Lib.hid hd6
        clear hd6
        go_wp2
        go_ret
        rw [SW.out]
        exact dk_from UW2.out ⟨rfl, N6.out⟩
      · have t3 : decide (e3 = 0) = false := by simp [h3]
        have t3' : (e3 == 0) = false := by simp [h3]
        go_wp2
        go_ret
        rw [SW.out]
        simp only [h3, if_true, ne_eq, not_false_eq_true, not_true_eq_false, if_false]
        exact dk_from UW2.out ⟨rfl, N5.out⟩
    · have t2 : decide (e2 = 0) = false := by simp [h2]
      have t2' : (e2 == 0) = false := by simp [h2]
      go_wp2
      go_ret
      rw [SW.out]
      simp only [h2, if_true, ne_eq, not_false_eq_true]
      exact dk_from UW2.out ⟨rfl, N4.out⟩
  · by_cases h6 : e1 = 6
    · subst h6
      rw [if_neg (by simp)] at SW
      have N3 := Lib.hid hd3
      clear hd3
      go_wp2_with fail
      refine (append_dk N3.out (Upd.refl NoF w3) (tmpN nm) HTL.out _ _ (fun G hG => ?_) HL.out HL1.out).mono ?_
      · have hne : ∀ k, OwnB (.slice A2 (encodeS V).1.length c2) k → ¬ F k := fun k hk f => by have h1 := HD.out.lt f; have h2 := E2.out.2.1 k hk; have h3 := UW.out.size; omega
        refine (E2.out.1.upd N3.out.out hne).rdF (fun k hk f => ?_)
        rcases (hG k f).1 with q | q
        · exact hne k hk q
        · have := E2.out.1.lt hk; omega
      rintro e w4 ⟨rfl, hd4⟩
      obtain ⟨⟨e2, s2⟩, hr2⟩ : ∃ x, sAppend s1 (tmpN nm) (encodeS V).1 = x := ⟨_, rfl⟩
      rw [hr2] at hd4 HL3 SW ⊢
      have N4 := Lib.hid hd4
      clear hd4 hr2
      by_cases h2 : e2 = 0
      · subst h2
        go_wp2_with fail
        refine (sync_dk N4.out (tmpN nm) HTL.out).mono ?_
        rintro e w5 ⟨rfl, hd5⟩
        obtain ⟨⟨e3, s3⟩, hr3⟩ : ∃ x, sSync s2 (tmpN nm) = x := ⟨_, rfl⟩
        try simp only at HL3
        rw [hr3] at hd5 HL3 SW ⊢
        have N5 := Lib.hid hd5
        clear hd5 hr3
        by_cases h3 : e3 = 0
        · subst h3
          go_wp2_with fail
          refine (rename_dk N5.out (tmpN nm) nm HTL.out HNL.out HL3.out).mono ?_
          rintro e w6 ⟨rfl, hd6⟩
          have N6 := Lib.hid hd6
          clear hd6
          go_wp2
          go_ret
          rw [SW.out]
          exact dk_from UW2.out ⟨rfl, N6.out⟩
        · have t3 : decide (e3 = 0) = false := by simp [h3]
          have t3' : (e3 == 0) = false := by simp [h3]
          go_wp2
          go_ret
          rw [SW.out]
          simp only [h3, if_true, ne_eq, not_false_eq_true, not_true_eq_false, if_false]
          exact dk_from UW2.out ⟨rfl, N5.out⟩
      · have t2 : decide (e2 = 0) = false := by simp [h2]
        have t2' : (e2 == 0) = false := by simp [h2]
        go_wp2
        go_ret
        rw [SW.out]
        simp only [h2, if_true, ne_eq, not_false_eq_true]
        exact dk_from UW2.out ⟨rfl, N4.out⟩
    · have t1 : decide (e1 = 0) = false := by simp [h1]
      have t1' : (e1 == 0) = false := by simp [h1]
      have t6 : decide (e1 = 6) = false := by simp [h6]
      have t6' : (e1 == 6) = false := by simp [h6]
      rw [if_pos ⟨h1, h6⟩] at SW
      have N3 := Lib.hid hd3
      clear hd3
      go_wp2
      go_ret
      rw [SW.out]
      exact dk_from UW2.out ⟨rfl, N3.out⟩
end
end Go.Proofs.YtbgificdilpdcaaGreat
