/- The order of signed votes is strict and total on votes that fit. No condition. The plain law of the union: strict lists are known by their members. No condition. Cutting a slice; insertion into a list of texts or votes in memory. Conditions: sizes. SortedTexts of the reference. Conditions: sizes. -/
import Derived.Test.YtbgificdilpdcaaJn19
import Derived.Test.YtbgificdilpdcaaJn16
import Derived.Test.YtbgificdilpdcaaJn18
import Derived.Test.YtbgificdilpdcaaJn4
namespace Go.Proofs.Ytbgificdilpdcaa
section
open Go.Sort

theorem be_inj : ∀ (n : Nat) {a b : List UInt8}, a.length = n → b.length = n → be a = be b → a = b
  | 0, a, b, ha, hb, _ => by rw [List.eq_nil_of_length_eq_zero ha, List.eq_nil_of_length_eq_zero hb]
  | n + 1, a, b, ha, hb, h => by
    have hane : a ≠ [] := by rintro rfl; simp at ha
    have hbne : b ≠ [] := by rintro rfl; simp at hb
    rw [← List.dropLast_concat_getLast hane, ← List.dropLast_concat_getLast hbne, be_snoc, be_snoc] at h
    have c1 := (a.getLast hane).toNat_lt
    have c2 := (b.getLast hbne).toNat_lt
    have e1 : be a.dropLast = be b.dropLast := by omega
    have e2 : (a.getLast hane).toNat = (b.getLast hbne).toNat := by omega
    have e3 := be_inj n (a := a.dropLast) (b := b.dropLast) (by simp [ha]) (by simp [hb]) e1
    rw [← List.dropLast_concat_getLast hane, ← List.dropLast_concat_getLast hbne, e3, UInt8.toNat.inj e2]

def lexZ : List Int → List Int → Bool
  | x :: l, y :: m => if x = y then lexZ l m else decide (x < y)
  | _, _ => false
theorem lexZ_irrefl : ∀ l, lexZ l l = false
  | [] => rfl
  | x :: l => by simp [lexZ, lexZ_irrefl l]
theorem lexZ_trans : ∀ {l m n : List Int}, lexZ l m = true → lexZ m n = true → lexZ l n = true
  | [], _, _, h, _ => by simp [lexZ] at h
  | _ :: _, [], _, h, _ => by simp [lexZ] at h
  | _ :: _, _ :: _, [], _, h => by simp [lexZ] at h
  | x :: l, y :: m, z :: n, h1, h2 => by
    simp only [lexZ] at *
    by_cases a : x = y
    · rw [if_pos a] at h1
      by_cases b : y = z
      · rw [if_pos b] at h2
        rw [if_pos (a.trans b)]
        exact lexZ_trans h1 h2
      · rw [if_neg b] at h2
        rw [if_neg (by omega)]
        simp at *
        omega
    · rw [if_neg a] at h1
      by_cases b : y = z
      · rw [if_neg (by omega)]
        simp at *
        omega
      · rw [if_neg b] at h2
        simp at h1 h2
        rw [if_neg (by omega)]
        simp
        omega
theorem lexZ_total : ∀ {l m : List Int}, l.length = m.length → lexZ l m = false → lexZ m l = false → l = m
  | [], [], _, _, _ => rfl
  | [], _ :: _, h, _, _ => by simp at h
  | _ :: _, [], h, _, _ => by simp at h
  | x :: l, y :: m, h, h1, h2 => by
    simp only [lexZ] at h1 h2
    by_cases a : x = y
    · rw [if_pos a] at h1
      rw [if_pos a.symm] at h2
      rw [a, lexZ_total (by simpa using h) h1 h2]
    · rw [if_neg a] at h1
      rw [if_neg (fun e => a e.symm)] at h2
      simp at h1 h2
      omega

def keyV (a : VoteS) : List Int := [(be a.parent : Nat), a.slot, a.round, a.kind, a.signer, a.choice, (be a.value : Nat), a.support]
theorem lessV_key {a b : VoteS} (ha : a.Fit) (hb : b.Fit) : lessV a b = lexZ (keyV a) (keyV b) := by
  have hp : ((be a.parent : Nat) : Int) = (be b.parent : Nat) ↔ a.parent = b.parent := ⟨fun h => be_inj 8 ha.parent hb.parent (by omega), fun h => by rw [h]⟩
  have hv : ((be a.value : Nat) : Int) = (be b.value : Nat) ↔ a.value = b.value := ⟨fun h => be_inj 8 ha.value hb.value (by omega), fun h => by rw [h]⟩
  unfold lessV keyV lessN
  simp only [lexZ, hp, hv, Int.ofNat_lt]
  repeat' split
  all_goals simp_all
theorem key_inj {a b : VoteS} (ha : a.Fit) (hb : b.Fit) (h : keyV a = keyV b) : a = b := by
  unfold keyV at h
  simp only [List.cons.injEq, and_true] at h
  obtain ⟨h1, h2, h3, h4, h5, h6, h7, h8⟩ := h
  exact VoteS.ext' h4 h2 h3 h6 h5 h8 (be_inj 8 ha.parent hb.parent (by omega)) (be_inj 8 ha.value hb.value (by omega))
theorem lessV_total {a b : VoteS} (ha : a.Fit) (hb : b.Fit) (h1 : lessV a b = false) (h2 : lessV b a = false) : a = b := by
  rw [lessV_key ha hb] at h1
  rw [lessV_key hb ha] at h2
  exact key_inj ha hb (lexZ_total rfl h1 h2)
theorem lessV_irrefl (a : VoteS) (ha : a.Fit) : lessV a a = false := by rw [lessV_key ha ha]; exact lexZ_irrefl _
theorem lessV_trans {a b c : VoteS} (ha : a.Fit) (hb : b.Fit) (hc : c.Fit) (h1 : lessV a b = true) (h2 : lessV b c = true) : lessV a c = true := by
  rw [lessV_key ha hb] at h1
  rw [lessV_key hb hc] at h2
  rw [lessV_key ha hc]
  exact lexZ_trans h1 h2

theorem lessS_irrefl (s : SignedS) : lessS s s = false := by unfold lessS; rw [if_pos rfl]; exact lessT_irrefl _
theorem lessS_trans {s t u : SignedS} (hs : s.vote.Fit) (ht : t.vote.Fit) (hu : u.vote.Fit) (h1 : lessS s t = true) (h2 : lessS t u = true) : lessS s u = true := by
  unfold lessS at *
  by_cases a : s.vote = t.vote
  · rw [if_pos a] at h1
    by_cases b : t.vote = u.vote
    · rw [if_pos b] at h2
      rw [if_pos (a.trans b)]
      exact lessT_trans _ _ _ h1 h2
    · rw [if_neg b] at h2
      rw [if_neg (by rw [a]; exact b), a]
      exact h2
  · rw [if_neg a] at h1
    by_cases b : t.vote = u.vote
    · rw [if_neg (by rw [← b]; exact a), ← b]
      exact h1
    · rw [if_neg b] at h2
      have h3 := lessV_trans hs ht hu h1 h2
      by_cases c : s.vote = u.vote
      · rw [c, lessV_irrefl _ hu] at h3
        cases h3
      · rw [if_neg c]
        exact h3
theorem lessS_total {s t : SignedS} (hs : s.vote.Fit) (ht : t.vote.Fit) (h1 : lessS s t = false) (h2 : lessS t s = false) : s = t := by
  unfold lessS at *
  by_cases a : s.vote = t.vote
  · rw [if_pos a] at h1
    rw [if_pos a.symm] at h2
    exact SignedS.ext' a (lessT_total _ _ h1 h2)
  · rw [if_neg a] at h1
    rw [if_neg (fun e => a e.symm)] at h2
    exact absurd (lessV_total hs ht h1 h2) a
theorem lessS_ntrans {s t u : SignedS} (hs : s.vote.Fit) (ht : t.vote.Fit) (hu : u.vote.Fit) (h1 : lessS s t = false) (h2 : lessS t u = false) : lessS s u = false := by
  cases h : lessS s u with
  | false => rfl
  | true =>
    cases h3 : lessS t s with
    | true => rw [lessS_trans ht hs hu h3 h] at h2; cases h2
    | false => rw [lessS_total hs ht h1 h3, h2] at h; cases h
theorem lessS_asymm {s t : SignedS} (hs : s.vote.Fit) (ht : t.vote.Fit) (h : lessS s t = true) : lessS t s = false := by
  cases h1 : lessS t s with
  | false => rfl
  | true => have := lessS_trans hs ht hs h h1; rw [lessS_irrefl] at this; cases this
theorem swoW {M : Nat → Prop} {w : World} : SWO (ltW (M := M) (w := w)) where
  irrefl _x := lessS_irrefl _
  trans x y z h1 h2 := lessS_trans x.2.1 y.2.1 z.2.1 h1 h2
  ntrans x y z h1 h2 := lessS_ntrans x.2.1 y.2.1 z.2.1 h1 h2
end

section
open Go
section
variable {α : Type}
structure OrdL (lt : α → α → Bool) (P : α → Prop) : Prop where
  asymm : ∀ a b, P a → P b → lt a b = true → lt b a = false
  trans : ∀ a b c, P a → P b → P c → lt a b = true → lt b c = true → lt a c = true
  total : ∀ a b, P a → P b → lt a b = false → lt b a = false → a = b
variable {lt : α → α → Bool} {P : α → Prop}
theorem OrdL.irrefl (h : OrdL lt P) {a : α} (ha : P a) : lt a a = false := by
  cases hc : lt a a with
  | false => rfl
  | true => have := h.asymm a a ha ha hc; rw [hc] at this; cases this
def StrL (lt : α → α → Bool) (l : List α) : Prop := l.Pairwise (fun a b => lt a b = true)
theorem str_unique (h : OrdL lt P) : ∀ {l m : List α}, (∀ x ∈ l, P x) → StrL lt l → StrL lt m → (∀ x, x ∈ l ↔ x ∈ m) → l = m
  | [], [], _, _, _, _ => rfl
  | [], y :: m, _, _, _, he => by have := (he y).2 (by simp); simp at this
  | x :: l, [], _, _, _, he => by have := (he x).1 (by simp); simp at this
  | x :: l, y :: m, hp, h1, h2, he => by
    unfold StrL at h1 h2
    rw [List.pairwise_cons] at h1 h2
    have hx : x ∈ y :: m := (he x).1 (by simp)
    have hy : y ∈ x :: l := (he y).2 (by simp)
    have px : P x := hp x (by simp)
    have py : P y := hp y hy
    have e : x = y := by
      rcases List.mem_cons.1 hx with e | hx'
      · exact e
      rcases List.mem_cons.1 hy with e | hy'
      · exact e.symm
      have a1 := h2.1 x hx'
      have a2 := h1.1 y hy'
      rw [h.asymm _ _ px py a2] at a1
      cases a1
    subst e
    have n1 : x ∉ l := fun hc => by have := h1.1 x hc; rw [h.irrefl px] at this; cases this
    have n2 : x ∉ m := fun hc => by have := h2.1 x hc; rw [h.irrefl px] at this; cases this
    refine congrArg _ (str_unique h (fun z hz => hp z (by simp [hz])) h1.2 h2.2 fun z => ?_)
    have := he z
    simp only [List.mem_cons] at this
    constructor
    · intro hz
      rcases this.1 (.inr hz) with rfl | e
      · exact absurd hz n1
      · exact e
    · intro hz
      rcases this.2 (.inr hz) with rfl | e
      · exact absurd hz n2
      · exact e
theorem insP_asc (h : OrdL lt P) {x : α} (hx : P x) : ∀ {l : List α}, (∀ s ∈ l, P s) → AscL lt l → AscL lt (insL lt x l)
  | [], _, _ => by simp [insL, AscL]
  | y :: l, hf, ha => by
    have hy : P y := hf y (by simp)
    have hfl : ∀ s ∈ l, P s := fun s hs => hf s (by simp [hs])
    unfold insL
    unfold AscL at *
    rw [List.pairwise_cons] at ha
    by_cases hc : lt y x = true
    · rw [if_pos hc, List.pairwise_cons]
      refine ⟨fun z hz => ?_, insP_asc h hx hfl ha.2⟩
      rcases List.mem_cons.1 ((insL_perm x l).mem_iff.1 hz) with rfl | hz'
      · exact h.asymm _ _ hy hx hc
      · exact ha.1 z hz'
    · rw [if_neg hc, List.pairwise_cons]
      have hxy : lt y x = false := by simpa using hc
      refine ⟨fun z hz => ?_, List.pairwise_cons.2 ha⟩
      rcases List.mem_cons.1 hz with rfl | hz'
      · exact hxy
      · have hz1 := ha.1 z hz'
        have pz := hfl z hz'
        cases hc2 : lt z x with
        | false => rfl
        | true =>
          cases hc3 : lt y z with
          | true => rw [h.trans y z x hy pz hx hc3 hc2] at hxy; cases hxy
          | false =>
            have e := h.total z y pz hy hz1 hc3
            rw [e, hxy] at hc2
            cases hc2
theorem sortP_asc (h : OrdL lt P) : ∀ {l : List α}, (∀ s ∈ l, P s) → AscL lt (sortL lt l)
  | [], _ => by simp [sortL, AscL]
  | x :: l, hf => insP_asc h (hf x (by simp)) (fun s hs => hf s (List.mem_cons_of_mem _ ((sortL_perm l).mem_iff.1 hs))) (sortP_asc h (fun s hs => hf s (by simp [hs])))
def posL (lt : α → α → Bool) (x : α) : List α → Nat
  | [] => 0
  | y :: l => if lt y x then posL lt x l + 1 else 0
theorem posL_le (x : α) : ∀ l : List α, posL lt x l ≤ l.length
  | [] => by simp [posL]
  | y :: l => by
    have := posL_le x l
    unfold posL
    split
    · simp; omega
    · simp
theorem posL_lt (x : α) : ∀ (l : List α) (i : Nat), i < posL lt x l → ∃ y, l[i]? = some y ∧ lt y x = true
  | [], i, h => by simp [posL] at h
  | y :: l, i, h => by
    unfold posL at h
    split at h
    · next hy =>
      cases i with
      | zero => exact ⟨y, rfl, hy⟩
      | succ i => obtain ⟨z, hz, hz2⟩ := posL_lt x l i (by omega); exact ⟨z, by simpa using hz, hz2⟩
    · omega
theorem posL_at (x : α) : ∀ (l : List α) (y : α), l[posL lt x l]? = some y → lt y x = false
  | [], y, h => by simp at h
  | z :: l, y, h => by
    unfold posL at h
    split at h
    · exact posL_at x l y (by simpa using h)
    · next hz => simp at h; subst h; simpa using hz
end
section
variable {α : Type} [DecidableEq α]
variable {lt : α → α → Bool} {P : α → Prop}
theorem comp_mem : ∀ (l : List α) (x : α), x ∈ compL l ↔ x ∈ l
  | [], _ => Iff.rfl
  | [_], _ => Iff.rfl
  | a :: b :: l, x => by
    have ih := comp_mem (b :: l) x
    rw [compL_two]
    split
    · next e => rw [ih, e]; simp
    · rw [List.mem_cons, ih]; simp
theorem comp_str (h : OrdL lt P) : ∀ {l : List α}, (∀ x ∈ l, P x) → AscL lt l → StrL lt (compL l)
  | [], _, _ => by simp [compL, StrL]
  | [_], _, _ => by simp [compL, StrL]
  | a :: b :: l, hp, ha => by
    unfold AscL at ha
    rw [List.pairwise_cons] at ha
    have ih := comp_str h (l := b :: l) (fun z hz => hp z (by simp [hz])) ha.2
    rw [compL_two]
    split
    · exact ih
    · next hne =>
      unfold StrL at ih ⊢
      rw [List.pairwise_cons]
      refine ⟨fun z hz => ?_, ih⟩
      have hz' := (comp_mem _ _).1 hz
      have pa := hp a (by simp)
      have pb := hp b (by simp)
      have pz := hp z (List.mem_cons_of_mem _ hz')
      have hab : lt a b = true := by
        cases hc : lt a b with
        | true => rfl
        | false => exact absurd (h.total a b pa pb hc (ha.1 b (by simp))) hne
      cases hc : lt a z with
      | true => rfl
      | false =>
        have e := h.total a z pa pz hc (ha.1 z hz')
        subst e
        rcases List.mem_cons.1 hz' with e | e
        · exact absurd e hne
        · have := (List.pairwise_cons.1 ha.2).1 _ e
          rw [hab] at this
          cases this
def canL (lt : α → α → Bool) (l : List α) : List α := compL (sortL lt l)
theorem can_mem (l : List α) (x : α) : x ∈ canL lt l ↔ x ∈ l := by
  unfold canL
  rw [comp_mem]
  exact (sortL_perm l).mem_iff
theorem can_str (h : OrdL lt P) {l : List α} (hf : ∀ s ∈ l, P s) : StrL lt (canL lt l) :=
  comp_str h (fun x hx => hf x ((sortL_perm l).mem_iff.1 hx)) (sortP_asc h hf)
theorem can_congr (h : OrdL lt P) {l m : List α} (hf : ∀ s ∈ l, P s) (he : ∀ x, x ∈ l ↔ x ∈ m) : canL lt l = canL lt m :=
  str_unique h (fun x hx => hf x ((can_mem l x).1 hx)) (can_str h hf) (can_str h fun s hs => hf s ((he s).2 hs)) fun x => by rw [can_mem, can_mem, he]
theorem can_comm (h : OrdL lt P) {p q : List α} (hp : ∀ s ∈ p, P s) (hq : ∀ s ∈ q, P s) : canL lt (p ++ q) = canL lt (q ++ p) :=
  can_congr h (fun s hs => (List.mem_append.1 hs).elim (hp s) (hq s)) fun x => by simp [or_comm]
theorem can_idem (h : OrdL lt P) {l : List α} (hf : ∀ s ∈ l, P s) : canL lt (canL lt l ++ canL lt l) = canL lt l :=
  str_unique h (fun x hx => hf x (by simpa [can_mem] using hx)) (can_str h fun s hs => hf s (by simpa [can_mem] using hs)) (can_str h hf) fun x => by simp [can_mem]
theorem can_assoc (h : OrdL lt P) {p q r : List α} (hp : ∀ s ∈ p, P s) (hq : ∀ s ∈ q, P s) (hr : ∀ s ∈ r, P s) : canL lt (canL lt (p ++ q) ++ r) = canL lt (p ++ canL lt (q ++ r)) :=
  can_congr h (fun s hs => by
    simp only [List.mem_append, can_mem] at hs
    rcases hs with (hs | hs) | hs
    · exact hp s hs
    · exact hq s hs
    · exact hr s hs) fun x => by simp [can_mem, or_assoc]
/-! ### the reference: insertion where it belongs -/
def rIns (lt : α → α → Bool) (l : List α) (x : α) : List α := if l[posL lt x l]? = some x then l else l.take (posL lt x l) ++ [x] ++ l.drop (posL lt x l)
theorem rIns_cons (x y : α) (l : List α) (h : lt y x = true) : rIns lt (y :: l) x = y :: rIns lt l x := by
  have e : posL lt x (y :: l) = posL lt x l + 1 := by rw [posL, if_pos h]
  unfold rIns
  rw [e]
  by_cases hc : l[posL lt x l]? = some x
  · rw [if_pos hc, if_pos (by simpa using hc)]
  · rw [if_neg hc, if_neg (by simpa using hc)]; simp
theorem rIns_mem (l : List α) (x z : α) : z ∈ rIns lt l x ↔ z = x ∨ z ∈ l := by
  unfold rIns
  split
  · next h =>
    constructor
    · exact .inr
    · rintro (rfl | hz)
      · exact List.mem_of_getElem? h
      · exact hz
  · constructor
    · intro hz
      simp only [List.mem_append, List.mem_singleton] at hz
      rcases hz with (hz | hz) | hz
      · exact .inr (List.mem_of_mem_take hz)
      · exact .inl hz
      · exact .inr (List.mem_of_mem_drop hz)
    · intro hz
      simp only [List.mem_append, List.mem_singleton]
      rcases hz with hz | hz
      · exact .inl (.inr hz)
      · rw [← List.take_append_drop (posL lt x l) l] at hz
        rcases List.mem_append.1 hz with hz | hz
        · exact .inl (.inl hz)
        · exact .inr hz
theorem rIns_str (h : OrdL lt P) {x : α} (hx : P x) : ∀ {l : List α}, (∀ s ∈ l, P s) → StrL lt l → StrL lt (rIns lt l x)
  | [], _, _ => by simp [rIns, posL, StrL]
  | y :: l, hf, hs => by
    have hy : P y := hf y (by simp)
    have hfl : ∀ s ∈ l, P s := fun s hs => hf s (by simp [hs])
    unfold StrL at hs
    rw [List.pairwise_cons] at hs
    by_cases hc : lt y x = true
    · rw [rIns_cons x y l hc]
      unfold StrL
      rw [List.pairwise_cons]
      refine ⟨fun z hz => ?_, rIns_str h hx hfl hs.2⟩
      rcases (rIns_mem _ _ _).1 hz with rfl | hz'
      · exact hc
      · exact hs.1 z hz'
    · have hyx : lt y x = false := by simpa using hc
      have e : posL lt x (y :: l) = 0 := by rw [posL, if_neg hc]
      unfold rIns
      rw [e]
      by_cases hxy : y = x
      · rw [if_pos (by simp [hxy])]
        exact List.pairwise_cons.2 hs
      · rw [if_neg (by simpa using hxy)]
        have hlt : lt x y = true := by
          cases hc2 : lt x y with
          | true => rfl
          | false => exact absurd (h.total y x hy hx hyx hc2) hxy
        show StrL lt (x :: y :: l)
        refine List.pairwise_cons.2 ⟨fun z hz => ?_, List.pairwise_cons.2 hs⟩
        rcases List.mem_cons.1 hz with rfl | hz'
        · exact hlt
        · exact h.trans x y z hx hy (hfl z hz') hlt (hs.1 z hz')
def refL (lt : α → α → Bool) (l : List α) : List α := l.foldl (rIns lt) []
theorem ref_fold (h : OrdL lt P) : ∀ (l acc : List α), (∀ s ∈ l, P s) → (∀ s ∈ acc, P s) → StrL lt acc → StrL lt (l.foldl (rIns lt) acc) ∧ ∀ z, z ∈ l.foldl (rIns lt) acc ↔ z ∈ acc ∨ z ∈ l
  | [], acc, _, _, hs => ⟨hs, fun z => by simp⟩
  | x :: l, acc, hl, ha, hs => by
    have hx : P x := hl x (by simp)
    have := ref_fold h l (rIns lt acc x) (fun s hs => hl s (by simp [hs])) (fun s hs => by
      rcases (rIns_mem _ _ _).1 hs with rfl | e
      · exact hx
      · exact ha s e) (rIns_str h hx ha hs)
    refine ⟨this.1, fun z => ?_⟩
    rw [List.foldl_cons, this.2, rIns_mem, List.mem_cons]
    constructor
    · rintro ((e | e) | e)
      · exact .inr (.inl e)
      · exact .inl e
      · exact .inr (.inr e)
    · rintro (e | e | e)
      · exact .inl (.inr e)
      · exact .inl (.inl e)
      · exact .inr e
theorem ref_can (h : OrdL lt P) {l : List α} (hf : ∀ s ∈ l, P s) : refL lt l = canL lt l := by
  have := ref_fold h l [] hf (by simp) (by simp [StrL])
  refine str_unique h (fun x hx => hf x (by have := (this.2 x).1 hx; simpa using this)) this.1 (can_str h hf) fun x => ?_
  rw [can_mem]
  unfold refL
  rw [this.2]
  simp
theorem rIns_len (l : List α) (x : α) : (rIns lt l x).length ≤ l.length + 1 := by
  unfold rIns
  split
  · omega
  · have := posL_le (lt := lt) x l
    simp only [List.length_append, List.length_take, List.length_cons, List.length_nil, List.length_drop]
    omega
theorem can_len (l : List α) : (canL lt l).length ≤ l.length := by
  unfold canL
  exact Nat.le_trans (comp_len _) (by rw [(sortL_perm l).length_eq]; exact Nat.le_refl _)
theorem ref_snoc (l : List α) (x : α) : refL lt (l ++ [x]) = rIns lt (refL lt l) x := by simp [refL]
theorem ref_len : ∀ (l acc : List α), (l.foldl (rIns lt) acc).length ≤ acc.length + l.length
  | [], acc => by simp
  | x :: l, acc => by
    have := ref_len l (rIns lt acc x)
    have h2 := rIns_len (lt := lt) acc x
    simp only [List.foldl_cons, List.length_cons]
    omega
end
theorem ordT : OrdL lessT (fun _ => True) := ⟨fun _ _ _ _ h => lessT_asymm h, fun a b c _ _ _ h1 h2 => lessT_trans a b c h1 h2, fun a b _ _ h1 h2 => lessT_total a b h1 h2⟩
theorem ordS : OrdL lessS (fun s : SignedS => s.vote.Fit) := ⟨fun _ _ ha hb h => lessS_asymm ha hb h, fun _ _ _ ha hb hc h1 h2 => lessS_trans ha hb hc h1 h2, fun _ _ ha hb h1 h2 => lessS_total ha hb h1 h2⟩
end

section
open Go.RowKit

section
variable {P : Program} {w : World} {t e : TypeId} {size n c k : Nat} {A : Option Addr} {xs : List Value}
theorem run_cut_to (h : Rd w size (.slice A n c) n xs) (hu : P.underlying t = some (.slice e)) (hs : (sizeOf e).run P w = .ok size w) (hk : k ≤ n) :
    ∃ A', (Instr.sliceAt t (.slice A n c) none (some (.int .i64 (k : Int))) none).run P w = .ok (.slice A' k c) w ∧ Rd w size (.slice A' k c) k (xs.take (k * size)) := by
  have h0 := h
  obtain ⟨A0, c', e', hn, hc, hl, hx⟩ := h
  injection e' with e1 _ e3
  subst e1 e3
  have hkc : (0 : Int) ≤ (k : Int) ∧ (k : Int) ≤ (c : Int) := ⟨by omega, by omega⟩
  refine ⟨if c = 0 then A else A.map (·.add (0 * size)), ?_, ?_⟩
  · simp [Instr.sliceAt, Instr.slice, run_underlying hu, Instr.sliceBounds, Instr.sliceBound, asIntOf, hs, hkc]
    exact fun h => absurd h (by omega)
  · rcases Nat.eq_zero_or_pos k with hz | hz
    · subst hz
      rw [Nat.zero_mul, List.take_zero]
      exact Rd.of0 w size hc
    · obtain ⟨g, o, rfl, -⟩ := hx (by omega)
      rw [if_neg (by omega), show (some (⟨g, o, none⟩ : Addr)).map (·.add (0 * size)) = some ⟨g, o, none⟩ by simp [Addr.add]]
      exact h0.upto hk
theorem run_cut_from (h : Rd w size (.slice A n c) n xs) (hu : P.underlying t = some (.slice e)) (hs : (sizeOf e).run P w = .ok size w) (hk : k ≤ n) :
    ∃ A', (Instr.sliceAt t (.slice A n c) (some (.int .i64 (k : Int))) none none).run P w = .ok (.slice A' (n - k) (c - k)) w ∧ Rd w size (.slice A' (n - k) (c - k)) (n - k) (xs.drop (k * size)) := by
  have h0 := h
  obtain ⟨A0, c', e', hn, hc, hl, hx⟩ := h
  injection e' with e1 _ e3
  subst e1 e3
  have hkc : (0 : Int) ≤ (k : Int) ∧ (k : Int) ≤ (n : Int) := ⟨by omega, by omega⟩
  refine ⟨if c = k then A else A.map (·.add (k * size)), ?_, ?_⟩
  · simp [Instr.sliceAt, Instr.slice, run_underlying hu, Instr.sliceBounds, Instr.sliceBound, asIntOf, hs, hkc]
    exact fun h => absurd h (by omega)
  · rcases Nat.lt_or_ge k n with hz | hz
    · obtain ⟨g, o, rfl, -⟩ := hx (by omega)
      rw [if_neg (by omega), show (some (⟨g, o, none⟩ : Addr)).map (·.add (k * size)) = some ⟨g, o + k * size, none⟩ by simp [Addr.add]]
      exact h0.from_ hk _ (fun _ => rfl)
    · obtain rfl : k = n := by omega
      rw [Nat.sub_self, List.drop_eq_nil_of_le (by rw [hl]; exact Nat.le_refl _)]
      exact Rd.of0 w size (by omega)
theorem wpList_cut_to {ops : Array Oper} {rest : List Oper} {o : Oper} {a : Act} {Q : Exit → Act → World → Prop} (hgd : o.guard = none) (x y : Operand) (ho : o.op = .slice t x none (some y) none) (hxv : a.eval x = .slice A n c) (hyv : a.eval y = .int .i64 (k : Int)) (h : Rd w size (.slice A n c) n xs) (hu : P.underlying t = some (.slice e)) (hs : ∀ w, (sizeOf e).run P w = .ok size w) (hk : k ≤ n)
    (hK : ∀ A', Rd w size (.slice A' k c) k (xs.take (k * size)) → wpList P ops Q rest (a.put o.dst (.slice A' k c)) w) : wpList P ops Q (o :: rest) a w := by
  obtain ⟨A', h1, h2⟩ := run_cut_to h hu (hs w) hk
  refine wpList_od (post := fun v w' => v = .slice A' k c ∧ w' = w) hgd (od_of_run (v := .slice A' k c) (w' := w) ?_ ⟨rfl, rfl⟩) ?_
  · simp [execOp, ho, hxv, hyv, h1]
  · rintro v w' ⟨rfl, rfl⟩
    exact hK A' h2
theorem wpList_cut_from {ops : Array Oper} {rest : List Oper} {o : Oper} {a : Act} {Q : Exit → Act → World → Prop} (hgd : o.guard = none) (x y : Operand) (ho : o.op = .slice t x (some y) none none) (hxv : a.eval x = .slice A n c) (hyv : a.eval y = .int .i64 (k : Int)) (h : Rd w size (.slice A n c) n xs) (hu : P.underlying t = some (.slice e)) (hs : ∀ w, (sizeOf e).run P w = .ok size w) (hk : k ≤ n)
    (hK : ∀ A', Rd w size (.slice A' (n - k) (c - k)) (n - k) (xs.drop (k * size)) → wpList P ops Q rest (a.put o.dst (.slice A' (n - k) (c - k))) w) : wpList P ops Q (o :: rest) a w := by
  obtain ⟨A', h1, h2⟩ := run_cut_from h hu (hs w) hk
  refine wpList_od (post := fun v w' => v = .slice A' (n - k) (c - k) ∧ w' = w) hgd (od_of_run (v := .slice A' (n - k) (c - k)) (w' := w) ?_ ⟨rfl, rfl⟩) ?_
  · simp [execOp, ho, hxv, hyv, h1]
  · rintro v w' ⟨rfl, rfl⟩
    exact hK A' h2
end
section
variable {w w' : World}
/-- Texts that read whatever is done to blocks older than S. -/
def TxFar (S : Nat) (w : World) (v : Value) (l : List (List UInt8)) : Prop :=
  ∃ us : List Value, us.length = l.length ∧ RdF (fun k => k < S) w 1 v l.length us ∧ ∀ (i : Nat) b, l[i]? = some b → ∃ u, us[i]? = some u ∧ RdF (fun k => k < S) w 1 u b.length (b.map byteV)
theorem TxFar.rd {S : Nat} {v : Value} {l : List (List UInt8)} (h : TxFar S w v l) : TxR w v l := by
  obtain ⟨us, h1, h2, h3⟩ := h
  refine ⟨us, h1, h2.now, fun i b hb => ?_⟩
  obtain ⟨u, e1, e2⟩ := h3 i b hb
  exact ⟨u, e1, e2.now⟩
theorem TxFar.upd {S : Nat} {v : Value} {l : List (List UInt8)} (h : TxFar S w v l) (hu : Upd (fun k => k < S) w w') : TxFar S w' v l := by
  obtain ⟨us, h1, h2, h3⟩ := h
  refine ⟨us, h1, h2.upd hu, fun i b hb => ?_⟩
  obtain ⟨u, e1, e2⟩ := h3 i b hb
  exact ⟨u, e1, e2.upd hu⟩
theorem TxFar.keep {S : Nat} {v : Value} {l : List (List UInt8)} (h : TxFar S w v l) (hu : Upd NoF w w') : TxFar S w' v l := h.upd (hu.mono (fun _ _ f => f.elim))
theorem TxFar.nil (S : Nat) (w : World) : TxFar S w (.slice none 0 0) [] := ⟨[], rfl, fun w' _ => Rd.nil w' 1, fun _ _ h => by cases h⟩
theorem TxFar.ins {S : Nat} {l : List (List UInt8)} {us : List Value} {x : List UInt8} {u v : Value} {k : Nat} (h1 : us.length = l.length) (hl : ∀ (i : Nat) b, l[i]? = some b → ∃ u, us[i]? = some u ∧ RdF (fun k => k < S) w 1 u b.length (b.map byteV)) (hk : k ≤ l.length) (hx : RdF (fun k => k < S) w' 1 u x.length (x.map byteV)) (hu : Upd NoF w w') (ho : RdF (fun k => k < S) w' 1 v (l.take k ++ [x] ++ l.drop k).length (us.take k ++ [u] ++ us.drop k)) : TxFar S w' v (l.take k ++ [x] ++ l.drop k) := by
  have hu' : Upd (fun k => k < S) w w' := hu.mono (fun _ _ f => f.elim)
  refine ⟨us.take k ++ [u] ++ us.drop k, by simp [h1], ho, fun i b hb => ?_⟩
  have a1 : (l.take k).length = k := by simp [hk]
  have a2 : (us.take k).length = k := by simp [h1, hk]
  rcases Nat.lt_trichotomy i k with h | h | h
  · rw [List.append_assoc, List.getElem?_append_left (by omega), List.getElem?_take, if_pos h] at hb
    obtain ⟨y, e1, e2⟩ := hl i b hb
    exact ⟨y, by rw [List.append_assoc, List.getElem?_append_left (by omega), List.getElem?_take, if_pos h]; exact e1, e2.upd hu'⟩
  · subst h
    rw [List.append_assoc, List.getElem?_append_right (by omega), a1, Nat.sub_self] at hb
    have hb' : x = b := by simpa using hb
    subst hb'
    exact ⟨u, by rw [List.append_assoc, List.getElem?_append_right (by omega), a2, Nat.sub_self]; rfl, hx⟩
  · rw [List.getElem?_append_right (by simp [a1]; omega), List.getElem?_drop] at hb
    obtain ⟨y, e1, e2⟩ := hl _ b hb
    refine ⟨y, ?_, e2.upd hu'⟩
    rw [List.getElem?_append_right (by simp [a2]; omega), List.getElem?_drop, ← e1]
    congr 1
    simp [a1, a2]
/-- A list of texts with one more at k. -/
theorem TxR.ins {l : List (List UInt8)} {us : List Value} {x : List UInt8} {u v : Value} {k : Nat} (h1 : us.length = l.length) (hl : ∀ (i : Nat) b, l[i]? = some b → ∃ u, us[i]? = some u ∧ Rd w 1 u b.length (b.map byteV)) (hk : k ≤ l.length) (hx : Rd w' 1 u x.length (x.map byteV)) (hu : Upd NoF w w') (ho : Rd w' 1 v (l.take k ++ [x] ++ l.drop k).length (us.take k ++ [u] ++ us.drop k)) : TxR w' v (l.take k ++ [x] ++ l.drop k) := by
  refine ⟨us.take k ++ [u] ++ us.drop k, by simp [h1], ho, fun i b hb => ?_⟩
  have a1 : (l.take k).length = k := by simp [hk]
  have a2 : (us.take k).length = k := by simp [h1, hk]
  rcases Nat.lt_trichotomy i k with h | h | h
  · rw [List.append_assoc, List.getElem?_append_left (by omega), List.getElem?_take, if_pos h] at hb
    obtain ⟨y, e1, e2⟩ := hl i b hb
    exact ⟨y, by rw [List.append_assoc, List.getElem?_append_left (by omega), List.getElem?_take, if_pos h]; exact e1, e2.keep hu⟩
  · subst h
    rw [List.append_assoc, List.getElem?_append_right (by omega), a1, Nat.sub_self] at hb
    have hb' : x = b := by simpa using hb
    subst hb'
    exact ⟨u, by rw [List.append_assoc, List.getElem?_append_right (by omega), a2, Nat.sub_self]; rfl, hx⟩
  · rw [List.getElem?_append_right (by simp [a1]; omega), List.getElem?_drop] at hb
    obtain ⟨y, e1, e2⟩ := hl _ b hb
    refine ⟨y, ?_, e2.keep hu⟩
    rw [List.getElem?_append_right (by simp [a2]; omega), List.getElem?_drop, ← e1]
    congr 1
    simp [a1, a2]
theorem flat_take : ∀ (L : List (List Value)) (k : Nat), (∀ r ∈ L, r.length = 23) → L.flatten.take (k * 23) = (L.take k).flatten
  | [], k, _ => by simp
  | r :: L, 0, _ => by simp
  | r :: L, k + 1, h => by
    have hr := h r (by simp)
    rw [List.flatten_cons, List.take_succ_cons, List.flatten_cons, ← flat_take L k (fun x hx => h x (by simp [hx])), List.take_append, List.take_of_length_le (by omega), hr, show (k + 1) * 23 - 23 = k * 23 by omega]
theorem flat_drop : ∀ (L : List (List Value)) (k : Nat), (∀ r ∈ L, r.length = 23) → L.flatten.drop (k * 23) = (L.drop k).flatten
  | [], k, _ => by simp
  | r :: L, 0, _ => by simp
  | r :: L, k + 1, h => by
    have hr := h r (by simp)
    rw [List.flatten_cons, List.drop_succ_cons, ← flat_drop L k (fun x hx => h x (by simp [hx])), List.drop_append, List.drop_eq_nil_of_le (by omega), hr, show (k + 1) * 23 - 23 = k * 23 by omega, List.nil_append]
/-- A list of signed votes with one more at k. -/
theorem SgR.ins {l : List SignedS} {us : List Value} {x : SignedS} {u v : Value} {k : Nat} (hf : ∀ s ∈ l, s.vote.Fit) (hxf : x.vote.Fit) (h1 : us.length = l.length) (hl : ∀ (i : Nat) s, l[i]? = some s → ∃ u, us[i]? = some u ∧ Rd w 1 u s.sig.length (s.sig.map byteV)) (hk : k ≤ l.length) (hx : Rd w' 1 u x.sig.length (x.sig.map byteV)) (hu : Upd NoF w w') (ho : Rd w' 23 v (l.take k ++ [x] ++ l.drop k).length ((List.zipWith rowS l us).flatten.take (k * 23) ++ rowS x u ++ (List.zipWith rowS l us).flatten.drop (k * 23))) : SgR w' v (l.take k ++ [x] ++ l.drop k) := by
  have a1 : (l.take k).length = k := by simp [hk]
  have a2 : (us.take k).length = k := by simp [h1, hk]
  refine ⟨fun s hs => ?_, us.take k ++ [u] ++ us.drop k, by simp [h1], ?_, fun i b hb => ?_⟩
  · simp only [List.mem_append, List.mem_singleton] at hs
    rcases hs with (hs | rfl) | hs
    · exact hf s (List.mem_of_mem_take hs)
    · exact hxf
    · exact hf s (List.mem_of_mem_drop hs)
  · rw [flat_take _ _ (zip_rows hf), flat_drop _ _ (zip_rows hf), List.take_zipWith, List.drop_zipWith] at ho
    rw [List.zipWith_append (by simp [h1]), List.zipWith_append (by simp [h1]), List.flatten_append, List.flatten_append]
    simpa using ho
  rcases Nat.lt_trichotomy i k with h | h | h
  · rw [List.append_assoc, List.getElem?_append_left (by omega), List.getElem?_take, if_pos h] at hb
    obtain ⟨y, e1, e2⟩ := hl i b hb
    exact ⟨y, by rw [List.append_assoc, List.getElem?_append_left (by omega), List.getElem?_take, if_pos h]; exact e1, e2.keep hu⟩
  · subst h
    rw [List.append_assoc, List.getElem?_append_right (by omega), a1, Nat.sub_self] at hb
    have hb' : x = b := by simpa using hb
    subst hb'
    exact ⟨u, by rw [List.append_assoc, List.getElem?_append_right (by omega), a2, Nat.sub_self]; rfl, hx⟩
  · rw [List.getElem?_append_right (by simp [a1]; omega), List.getElem?_drop] at hb
    obtain ⟨y, e1, e2⟩ := hl _ b hb
    refine ⟨y, ?_, e2.keep hu⟩
    rw [List.getElem?_append_right (by simp [a2]; omega), List.getElem?_drop, ← e1]
    congr 1
    simp [a1, a2]
end
end

section
open Go.RowKit

theorem NewR.fresh (w : World) (e : TypeId) (size : Nat) : NewR w e size 0 [] (.slice (some ⟨w.heap.size, 0, none⟩) 0 0) (w.alloc (.cells #[] e)) :=
  ⟨Own.fresh w e size, fun k hk => by simp [OwnB, Value.ownBlock] at hk; omega, (Upd.refl NoF w).alloc _⟩
theorem NewR.keep {W w w' : World} {e : TypeId} {size n : Nat} {xs : List Value} {v : Value} (h : NewR W e size n xs v w) (hu : Upd NoF w w') : NewR W e size n xs v w' := ⟨h.1.upd hu (fun _ _ f => f), h.2.1, h.2.2.trans hu (fun _ _ f => f)⟩
theorem NewR.from_ {W0 W w : World} {e : TypeId} {size n : Nat} {xs : List Value} {v : Value} (h : NewR W e size n xs v w) (hu : Upd NoF W0 W) : NewR W0 e size n xs v w := ⟨h.1, fun k hk => by have := h.2.1 k hk; have := hu.size; omega, hu.trans h.2.2 (fun _ _ f => f)⟩
theorem NewR.app0 {W wr w6 : World} {e : TypeId} {size m : Nat} {ys : List Value} {A A' : Option Addr} {c c' : Nat} (h : NewR W e size 0 [] (.slice A 0 c) wr) (ho : Own w6 e size (.slice A' m c') m ys) (hu : Upd (OwnB (.slice A 0 c)) wr w6) (hn : ∀ k, OwnB (.slice A' m c') k → OwnB (.slice A 0 c) k ∨ wr.heap.size ≤ k) : NewR W e size m ys (.slice A' m c') w6 := by
  have := NewR.app (n := 0) (m := m) (xs := []) (ys := ys) (A' := A') (c' := c') h (by simpa using ho) hu (by simpa using hn)
  simpa using this
theorem rd_lit (w : World) (e : TypeId) (u : Value) : Rd (w.alloc (.cells #[u] e)) 1 (.slice (some ⟨w.heap.size, 0, none⟩) 1 1) 1 [u] :=
  Rd.of_blk (Blk.new w e #[u]) (Nat.le_refl _) (by unfold maxLen; omega) rfl (fun j v hj => by simpa using hj)
theorem one_bytes (bs : List UInt8) : ∀ u ∈ bs.map byteV, u.oneCell' = true := fun u hu => by
  obtain ⟨x, _, rfl⟩ := List.mem_map.1 hu
  rfl
/-- What the reference returns: a slice of texts, nothing old turned. -/
def RefTPost (w : World) (l : List (List UInt8)) (e : Ending) (w' : World) : Prop := ∃ v, e = .returned v ∧ TxFar w.heap.size w' v l ∧ Upd NoF w w'
def TxAt (W : World) (L : List (List UInt8)) (v : Value) (wr : World) : Prop := TxFar W.heap.size wr v L ∧ Upd NoF W wr
theorem ref_next {α : Type} [DecidableEq α] {lt : α → α → Bool} {l : List α} {i : Nat} {x : α} (hx : l[i]? = some x) : refL lt (l.take (i + 1)) = rIns lt (refL lt (l.take i)) x := by
  rw [take_one hx, ref_snoc]
theorem ref_take_len {α : Type} [DecidableEq α] {lt : α → α → Bool} (l : List α) (i : Nat) : (refL lt (l.take i)).length ≤ l.length := by
  have := ref_len (lt := lt) (l.take i) []
  simp only [List.length_nil, Nat.zero_add, List.length_take] at this
  unfold refL
  omega


attribute [local irreducible] Go.wpQuiet Go.Region.wanted
set_option maxHeartbeats 8000000 in
set_option maxRecDepth 100000 in
theorem SortedTexts_any {w : World} {a : Value} {l : List (List UInt8)} (ha : TxR w a l) (hs : l.length ≤ 4000000) (hsz : ∀ t ∈ l, t.length ≤ 140737488355328) : Calls Try.prog 29 #[a] w (RefTPost w (refL lessT l)) := by
  obtain ⟨A, ca, rfl, hlc, hcm⟩ := ha.form
  obtain ⟨i1, hi1, hy0, hy1, hy2⟩ := info_parts bytes_info'
  obtain ⟨i2, hi2, hz0, hz1, hz2⟩ := info_parts byte_info
  have HA := Lib.hid ha
  have HSZ := Lib.hid hsz
  have HC := Lib.hid (And.intro hlc hcm)
  obtain ⟨n, hn⟩ : ∃ n, l.length = n := ⟨_, rfl⟩
  have HN := Lib.hid hn
  rw [hn] at HA hs ⊢
  clear ha hlc hcm hsz hn
  go_enter Try.func29, Try.ntmps29
  go_wp2
  go_loopg [3, 4] n (fun kx s3 s4 wr => ∃ (i m : Nat) (A3 : Option Addr) (c3 : Nat), s3 = .slice A3 m c3 ∧ s4 = .int .i64 (i : Int) ∧ i ≤ n ∧ n - i ≤ kx ∧ m ≤ n ∧ Hid ((refL lessT (l.take i)).length = m) ∧ Hid (TxAt w (refL lessT (l.take i)) (.slice A3 m c3) wr))
  case atStart => exact ⟨0, 0, none, 0, rfl, rfl, by omega, by omega, by omega, Lib.hid (by simp [refL]), Lib.hid ⟨by simpa [refL] using TxFar.nil w.heap.size w, Upd.refl _ _⟩⟩
  case round =>
    obtain ⟨i, m, A3, c3, rfl, rfl, hi, hix, hmn, HM, T1⟩ := hrel
    by_cases hlt : i < n
    · have hltz : (i : Int) < (n : Int) := by omega
      obtain ⟨x, hx⟩ : ∃ x, l[i]? = some x := ⟨_, List.getElem?_eq_getElem (by have := HN.out; omega)⟩
      have HX := Lib.hid hx
      obtain ⟨g2, o2, Av, cv, hA2, x1, x2, -⟩ := HA.out.at_ hx
      subst hA2
      have X1 := Lib.hid x1
      have X2 := Lib.hid x2
      have XL := Lib.hid (HSZ.out x (List.mem_of_getElem? hx))
      obtain ⟨L, hL⟩ : ∃ L, L = refL lessT (l.take i) := ⟨_, rfl⟩
      have HL := Lib.hid hL
      rw [← hL] at HM T1
      obtain ⟨pos, hpos⟩ : ∃ p, p = posL lessT x L := ⟨_, rfl⟩
      have HPOS := Lib.hid hpos
      have hpm : pos ≤ m := by rw [hpos, ← HM.out]; exact posL_le _ _
      clear hx x1 x2 hL hpos
      go_wp2_with fail
      go_loopg [5] pos (fun kx2 s5 wr2 => ∃ k : Nat, s5 = .int .i64 (k : Int) ∧ k ≤ pos ∧ pos - k ≤ kx2 ∧ Hid (TxAt w L (.slice A3 m c3) wr2))
      case atStart => exact ⟨0, rfl, by omega, by omega, T1⟩
      case round =>
        obtain ⟨k, rfl, hk, hkx, T2⟩ := hrel
        have HML := HM.out
        by_cases hkp : k < pos
        · obtain ⟨s, hs, hless⟩ := posL_lt x L k (by rw [← HPOS.out]; exact hkp)
          have hkm : k < m := by omega
          have hb : Op.bytesLess s x = true := hless
          have ea1 : (((k : Int))).toNat = k := by omega
          have pa1 : (0 : Int) ≤ (k : Int) := by omega
          have ba1 : (k : Int) < (m : Int) := by omega
          have ra1 : IntKind.i64.wrap ((k : Int)) = (k : Int) := by rw [IntKind.wrap_i64]; omega
          have ec1 : (((i : Int))).toNat = i := by omega
          have pc1 : (0 : Int) ≤ (i : Int) := by omega
          have bc1 : (i : Int) < (n : Int) := by omega
          have rc1 : IntKind.i64.wrap ((i : Int)) = (i : Int) := by rw [IntKind.wrap_i64]; omega
          obtain ⟨g, o, Au, cu, hA3, r1, r2, -⟩ := T2.out.1.rd.at_ hs
          subst hA3
          have c1a := fun p : UpdBy wr => p.h.cell r1 (fun h => h)
          have c1b := fun p : UpdBy wr => (T2.out.2.trans p.h (fun _ _ f => f)).cell X1.out (fun h => h)
          have s1a := fun p : UpdBy wr => run_str (r2.keep p.h)
          have s1b := fun p : UpdBy wr => run_str (X2.out.keep (T2.out.2.trans p.h (fun _ _ f => f)))
          clear r1 r2
          have HB := Lib.hid hb
          clear hs hless HML T1
          go_wp2_with fail
          refine wp_region_quiet_upd (by kernel_rfl) (by kernel_rfl) ?_
          repeat (quiet_step (fail))
          refine wpQuiet_nil ?_
          intro w3 hw'
          have hq : Upd NoF wr w3 := by obtain ⟨p, rfl⟩ := hw'; exact p.h
          clear hw' c1a c1b s1a s1b
          have T3 := Lib.hid (show TxAt w L (.slice (some ⟨g, o, none⟩) m c3) w3 from ⟨T2.out.1.keep hq, T2.out.2.trans hq (fun _ _ f => f)⟩)
          clear hq
          go_wp2
          go_roundg (pos - (k + 1))
          case measure => omega
          case rel => exact ⟨k + 1, by first | rfl | go_num, by omega, by omega, T3⟩
        · have hkk : k = pos := by omega
          subst hkk
          clear hkx hkp
          rcases Nat.lt_or_ge k m with hkm | hkm
          · obtain ⟨s, hs⟩ : ∃ s, L[k]? = some s := ⟨_, List.getElem?_eq_getElem (by omega)⟩
            have hless : lessT s x = false := posL_at x L s (by rw [← HPOS.out]; exact hs)
            have hb : Op.bytesLess s x = false := hless
            have HS := Lib.hid hs
            have ea1 : (((k : Int))).toNat = k := by omega
            have pa1 : (0 : Int) ≤ (k : Int) := by omega
            have ba1 : (k : Int) < (m : Int) := by omega
            have ra1 : IntKind.i64.wrap ((k : Int)) = (k : Int) := by rw [IntKind.wrap_i64]; omega
            have ec1 : (((i : Int))).toNat = i := by omega
            have pc1 : (0 : Int) ≤ (i : Int) := by omega
            have bc1 : (i : Int) < (n : Int) := by omega
            have rc1 : IntKind.i64.wrap ((i : Int)) = (i : Int) := by rw [IntKind.wrap_i64]; omega
            obtain ⟨g, o, Au, cu, hA3, r1, r2, -⟩ := T2.out.1.rd.at_ hs
            subst hA3
            have c1a := fun p : UpdBy wr => p.h.cell r1 (fun h => h)
            have c1b := fun p : UpdBy wr => (T2.out.2.trans p.h (fun _ _ f => f)).cell X1.out (fun h => h)
            have s1a := fun p : UpdBy wr => run_str (r2.keep p.h)
            have s1b := fun p : UpdBy wr => run_str (X2.out.keep (T2.out.2.trans p.h (fun _ _ f => f)))
            clear r1 r2
            clear hs hless HML T1
            go_wp2_with fail
            refine wp_region_quiet_upd (by kernel_rfl) (by kernel_rfl) ?_
            repeat (quiet_step (fail))
            refine wpQuiet_nil ?_
            intro w3 hw'
            have hq : Upd NoF wr w3 := by obtain ⟨p, rfl⟩ := hw'; exact p.h
            clear hw' c1a c1b s1a s1b
            have T3 := Lib.hid (show TxAt w L (.slice (some ⟨g, o, none⟩) m c3) w3 from ⟨T2.out.1.keep hq, T2.out.2.trans hq (fun _ _ f => f)⟩)
            clear hq
            by_cases hsx : s = x
            · subst hsx
              obtain ⟨g', o', Au2, cu2, hA3, r1, r2, -⟩ := T3.out.1.rd.at_ HS.out
              obtain ⟨rfl, rfl⟩ : g = g' ∧ o = o' := by simpa using hA3
              clear hA3
              have c2a := fun p : UpdBy w3 => p.h.cell r1 (fun h => h)
              have c2b := fun p : UpdBy w3 => (T3.out.2.trans p.h (fun _ _ f => f)).cell X1.out (fun h => h)
              have s2a := fun p : UpdBy w3 => run_str (r2.keep p.h)
              have s2b := fun p : UpdBy w3 => run_str (X2.out.keep (T3.out.2.trans p.h (fun _ _ f => f)))
              clear r1 r2
              go_wp2_with fail
              refine wp_region_quiet_upd (by kernel_rfl) (by kernel_rfl) ?_
              repeat (quiet_step (fail))
              refine wpQuiet_nil ?_
              intro w4 hw'
              have hq : Upd NoF w3 w4 := by obtain ⟨p, rfl⟩ := hw'; exact p.h
              clear hw' c2a c2b s2a s2b
              have T4 := Lib.hid (show TxAt w L (.slice (some ⟨g, o, none⟩) m c3) w4 from ⟨T3.out.1.keep hq, T3.out.2.trans hq (fun _ _ f => f)⟩)
              have E := Lib.hid (show refL lessT (l.take (i + 1)) = L from by
                rw [ref_next HX.out, ← HL.out]
                unfold rIns
                rw [← HPOS.out, if_pos HS.out])
              clear hq
              go_wp2
              go_roundg (n - (i + 1))
              case measure => omega
              case rel => exact ⟨i + 1, m, some ⟨g, o, none⟩, c3, rfl, by first | rfl | go_num, by omega, by omega, hmn, Lib.hid (by rw [E.out]; exact HM.out), Lib.hid (by rw [E.out]; exact T4.out)⟩
            · have hb2 : (s == x) = false := by simp [hsx]
              have HNE := Lib.hid (show ¬ L[k]? = some x from by rw [HS.out]; intro e; exact hsx (Option.some.inj e))
              obtain ⟨g', o', Au2, cu2, hA3, r1, r2, -⟩ := T3.out.1.rd.at_ HS.out
              obtain ⟨rfl, rfl⟩ : g = g' ∧ o = o' := by simpa using hA3
              clear hA3
              have c2a := fun p : UpdBy w3 => p.h.cell r1 (fun h => h)
              have c2b := fun p : UpdBy w3 => (T3.out.2.trans p.h (fun _ _ f => f)).cell X1.out (fun h => h)
              have s2a := fun p : UpdBy w3 => run_str (r2.keep p.h)
              have s2b := fun p : UpdBy w3 => run_str (X2.out.keep (T3.out.2.trans p.h (fun _ _ f => f)))
              clear r1 r2
              go_wp2_with fail
              refine wp_region_quiet_upd (by kernel_rfl) (by kernel_rfl) ?_
              repeat (quiet_step (fail))
              refine wpQuiet_nil ?_
              intro w4 hw'
              have hq : Upd NoF w3 w4 := by obtain ⟨p, rfl⟩ := hw'; exact p.h
              clear hw' c2a c2b s2a s2b
              have T4 := Lib.hid (show TxAt w L (.slice (some ⟨g, o, none⟩) m c3) w4 from ⟨T3.out.1.keep hq, T3.out.2.trans hq (fun _ _ f => f)⟩)
              clear hq hsx hb hb2
              have HK := Lib.hid (show k ≤ L.length from by rw [HM.out]; omega)
              have KM := Lib.hid (show k ≤ m from by omega)
              have E := Lib.hid (show refL lessT (l.take (i + 1)) = L.take k ++ [x] ++ L.drop k from by
                rw [ref_next HX.out, ← HL.out]
                unfold rIns
                rw [← HPOS.out, if_neg HNE.out])
              have hm1 : m + 1 ≤ n := by
                have h1 := ref_take_len (lt := lessT) l (i + 1)
                rw [E.out, HN.out] at h1
                have h2 := HM.out
                have h3 := HK.out
                simp only [List.length_append, List.length_take, List.length_cons, List.length_nil, List.length_drop] at h1
                omega
              obtain ⟨us, us1, us2, us3⟩ := T4.out.1
              have NW := Lib.hid (NewR.fresh w4 36 1)
              have US1 := Lib.hid us1
              rw [HM.out] at us2
              have US2 := Lib.hid us2.now
              have US3 := Lib.hid us3
              have UT := Lib.hid (show ∀ u ∈ us.take (k * 1), u.oneCell' = true from fun u hu => tx_one us1 (fun i b hb => by obtain ⟨u, e1, e2⟩ := us3 i b hb; exact ⟨u, e1, e2.now⟩) u (List.mem_of_mem_take hu))
              have UD := Lib.hid (show ∀ u ∈ us.drop (k * 1), u.oneCell' = true from fun u hu => tx_one us1 (fun i b hb => by obtain ⟨u, e1, e2⟩ := us3 i b hb; exact ⟨u, e1, e2.now⟩) u (List.mem_of_mem_drop hu))
              have B1 := Lib.hid (show k ≤ maxLen ∧ k * 24 ≤ 140737488355328 from by unfold maxLen; omega)
              have B2 := Lib.hid (show k + 1 ≤ maxLen ∧ (k + 1) * 24 ≤ 140737488355328 from by unfold maxLen; omega)
              have B3 := Lib.hid (show k + 1 + (m - k) ≤ maxLen ∧ (k + 1 + (m - k)) * 24 ≤ 140737488355328 from by unfold maxLen; omega)
              have B4 := Lib.hid (show x.length ≤ maxLen ∧ x.length * 1 ≤ 140737488355328 from by have := XL.out; unfold maxLen; omega)
              have MM := Lib.hid (show k + 1 + (m - k) = m + 1 from by omega)
              have XW := Lib.hid (show ∀ wq, Upd NoF w4 wq → wq.cell? ⟨g2, o2 + i, none⟩ = some (.slice Av x.length cv) ∧ Rd wq 1 (.slice Av x.length cv) x.length (x.map byteV) from fun wq hq => ⟨(T4.out.2.trans hq (fun _ _ f => f)).cell X1.out (fun h => h), X2.out.keep (T4.out.2.trans hq (fun _ _ f => f))⟩)
              clear us1 us2 us3 hkm hpm
              go_wp2_with (first
                | (refine wpList_cut_to rfl (.tmp 50) (.tmp 51) rfl rfl rfl (US2.out.keep ((Upd.refl NoF w4).alloc (.cells #[] 36))) Try.underlying23 (fun _ => by kernel_rfl) KM.out ?_; intro A5 hcut5; have C5 := Lib.hid hcut5; clear hcut5)
                | (at_builtin; refine wpList_append_new _ rfl (.tmp 49) (.tmp 52) 23 rfl 36 i1 _ 1 24 Try.underlying23 hi1 hy0 hy1 hy2 rfl _ rfl NW.out.1 _ k _ rfl C5.out UT.out B1.out.1 B1.out.2 ?_; intro A6 c6 w6 hown hupd hnew; have N6 := Lib.hid (NW.out.app0 hown hupd hnew); clear hown hupd hnew; have NB := Lib.hid (NewR.fresh w6 5 1); have x6 := (XW.out _ (N6.out.2.2.trans ((Upd.refl NoF w6).alloc (.cells #[] 5)) (fun _ _ f => f))).1)
                | (at_builtin; refine wpList_append_new _ rfl (.tmp 55) (.tmp 59) 36 rfl 5 i2 _ 1 1 Try.underlying36 hi2 hz0 hz1 hz2 rfl _ rfl NB.out.1 _ x.length _ rfl (XW.out _ (N6.out.2.2.trans ((Upd.refl NoF w6).alloc (.cells #[] 5)) (fun _ _ f => f))).2 (one_bytes _) B4.out.1 B4.out.2 ?_; intro A7 c7 w7 hown hupd hnew; have N7 := Lib.hid (NB.out.app0 hown hupd hnew); clear hown hupd hnew; have N6b := Lib.hid (N6.out.keep (N7.out.2.2.trans ((Upd.refl NoF w7).alloc (.cells #[.slice A7 x.length c7] 36)) (fun _ _ f => f))))
                | (at_builtin; refine wpList_append_to _ rfl (.tmp 54) (.tmp 61) 23 rfl 36 i1 _ 1 24 Try.underlying23 hi1 hy0 hy1 hy2 rfl _ k _ rfl N6b.out.1 _ 1 _ rfl (rd_lit w7 36 (.slice A7 x.length c7)) (by simp [Value.oneCell']) B2.out.1 B2.out.2 ?_; intro A8 c8 w8 hown hupd hnew; have N8 := Lib.hid (N6b.out.app hown hupd hnew); have P8 := Lib.hid (And.intro ((N7.out.1.upd ((Upd.refl NoF w7).alloc (.cells #[.slice A7 x.length c7] 36)) (fun _ _ f => f)).updT (ts := [36]) (UpdT.of hupd (fun kk hk => N6b.out.1.tyf (by simp) hk)) (by decide)) (show ∀ kk, OwnB (.slice A7 x.length c7) kk → w4.heap.size ≤ kk from fun kk hk => by have := N7.out.2.1 kk hk; have := N6.out.2.2.size; omega)); clear hown hupd hnew)
                | (refine wpList_cut_from rfl (.tmp 64) (.tmp 65) rfl rfl rfl (US2.out.keep N8.out.2.2) Try.underlying23 (fun _ => by kernel_rfl) KM.out ?_; intro A9 hcut9; have C9 := Lib.hid hcut9; clear hcut9)
                | (at_builtin; refine wpList_append_to _ rfl (.tmp 63) (.tmp 66) 23 rfl 36 i1 _ 1 24 Try.underlying23 hi1 hy0 hy1 hy2 rfl _ (k + 1) _ rfl N8.out.1 _ (m - k) _ rfl C9.out UD.out B3.out.1 B3.out.2 ?_; intro Aa ca' wa hown hupd hnew; have Na := Lib.hid (N8.out.app hown hupd hnew); have Pa := Lib.hid (And.intro (P8.out.1.updT (ts := [36]) (UpdT.of hupd (fun kk hk => N8.out.1.tyf (by simp) hk)) (by decide)) P8.out.2); clear hown hupd hnew))
              go_roundg (n - (i + 1))
              case measure => omega
              case rel =>
                rw [MM.out]
                refine ⟨i + 1, m + 1, Aa, ca', rfl, by first | rfl | go_num, by omega, by omega, hm1, Lib.hid ?_, Lib.hid ⟨?_, T4.out.2.trans Na.out.2.2 (fun _ _ f => f)⟩⟩
                · rw [E.out]
                  have h2 := HM.out
                  have h3 := HK.out
                  simp only [List.length_append, List.length_take, List.length_cons, List.length_nil, List.length_drop]
                  omega
                · rw [E.out, ← MM.out]
                  refine TxFar.ins US1.out US3.out HK.out (Pa.out.1.rdF (fun kk hk f => by have := Pa.out.2 kk hk; have := T4.out.2.size; omega)) Na.out.2.2 ?_
                  have h4 := Na.out.1.rdF (F := fun k => k < w.heap.size) (fun kk hk f => by have := Na.out.2.1 kk hk; have := T4.out.2.size; omega)
                  rw [Nat.mul_one] at h4
                  have h5 : (L.take k ++ [x] ++ L.drop k).length = k + 1 + (m - k) := by
                    have h2 := HM.out
                    have h3 := HK.out
                    simp only [List.length_append, List.length_take, List.length_cons, List.length_nil, List.length_drop]
                    omega
                  rw [h5]
                  exact h4
          · have KQ := Lib.hid (And.intro hkm hpm)
            have tk3 : decide (k < m) = false := by simp; omega
            have HNE := Lib.hid (show ¬ L[k]? = some x from by rw [List.getElem?_eq_none (by have := HM.out; omega)]; simp)
            clear T1 HML hkm hpm hk
            go_wp2_with fail
            refine wp_region_quiet_upd (by kernel_rfl) (by kernel_rfl) ?_
            repeat (quiet_step (fail))
            refine wpQuiet_nil ?_
            intro w3 hw'
            have hq : Upd NoF wr w3 := by obtain ⟨p, rfl⟩ := hw'; exact p.h
            clear hw' 
            have T3 := Lib.hid (show TxAt w L (.slice A3 m c3) w3 from ⟨T2.out.1.keep hq, T2.out.2.trans hq (fun _ _ f => f)⟩)
            clear hq
            go_wp2_with fail
            refine wp_region_quiet_upd (by kernel_rfl) (by kernel_rfl) ?_
            repeat (quiet_step (fail))
            refine wpQuiet_nil ?_
            intro w4 hw'
            have hq : Upd NoF w3 w4 := by obtain ⟨p, rfl⟩ := hw'; exact p.h
            clear hw' 
            have T4 := Lib.hid (show TxAt w L (.slice A3 m c3) w4 from ⟨T3.out.1.keep hq, T3.out.2.trans hq (fun _ _ f => f)⟩)
            clear hq tk3
            have hpm := KQ.out.2
            have hkm := KQ.out.1
            have HK := Lib.hid (show k ≤ L.length from by rw [HM.out]; omega)
            have KM := Lib.hid (show k ≤ m from by omega)
            have E := Lib.hid (show refL lessT (l.take (i + 1)) = L.take k ++ [x] ++ L.drop k from by
              rw [ref_next HX.out, ← HL.out]
              unfold rIns
              rw [← HPOS.out, if_neg HNE.out])
            have hm1 : m + 1 ≤ n := by
              have h1 := ref_take_len (lt := lessT) l (i + 1)
              rw [E.out, HN.out] at h1
              have h2 := HM.out
              have h3 := HK.out
              simp only [List.length_append, List.length_take, List.length_cons, List.length_nil, List.length_drop] at h1
              omega
            obtain ⟨us, us1, us2, us3⟩ := T4.out.1
            have NW := Lib.hid (NewR.fresh w4 36 1)
            have US1 := Lib.hid us1
            rw [HM.out] at us2
            have US2 := Lib.hid us2.now
            have US3 := Lib.hid us3
            have UT := Lib.hid (show ∀ u ∈ us.take (k * 1), u.oneCell' = true from fun u hu => tx_one us1 (fun i b hb => by obtain ⟨u, e1, e2⟩ := us3 i b hb; exact ⟨u, e1, e2.now⟩) u (List.mem_of_mem_take hu))
            have UD := Lib.hid (show ∀ u ∈ us.drop (k * 1), u.oneCell' = true from fun u hu => tx_one us1 (fun i b hb => by obtain ⟨u, e1, e2⟩ := us3 i b hb; exact ⟨u, e1, e2.now⟩) u (List.mem_of_mem_drop hu))
            have B1 := Lib.hid (show k ≤ maxLen ∧ k * 24 ≤ 140737488355328 from by unfold maxLen; omega)
            have B2 := Lib.hid (show k + 1 ≤ maxLen ∧ (k + 1) * 24 ≤ 140737488355328 from by unfold maxLen; omega)
            have B3 := Lib.hid (show k + 1 + (m - k) ≤ maxLen ∧ (k + 1 + (m - k)) * 24 ≤ 140737488355328 from by unfold maxLen; omega)
            have B4 := Lib.hid (show x.length ≤ maxLen ∧ x.length * 1 ≤ 140737488355328 from by have := XL.out; unfold maxLen; omega)
            have MM := Lib.hid (show k + 1 + (m - k) = m + 1 from by omega)
            have XW := Lib.hid (show ∀ wq, Upd NoF w4 wq → wq.cell? ⟨g2, o2 + i, none⟩ = some (.slice Av x.length cv) ∧ Rd wq 1 (.slice Av x.length cv) x.length (x.map byteV) from fun wq hq => ⟨(T4.out.2.trans hq (fun _ _ f => f)).cell X1.out (fun h => h), X2.out.keep (T4.out.2.trans hq (fun _ _ f => f))⟩)
            clear us1 us2 us3 hkm hpm
            go_wp2_with (first
              | (refine wpList_cut_to rfl (.tmp 50) (.tmp 51) rfl rfl rfl (US2.out.keep ((Upd.refl NoF w4).alloc (.cells #[] 36))) Try.underlying23 (fun _ => by kernel_rfl) KM.out ?_; intro A5 hcut5; have C5 := Lib.hid hcut5; clear hcut5)
              | (at_builtin; refine wpList_append_new _ rfl (.tmp 49) (.tmp 52) 23 rfl 36 i1 _ 1 24 Try.underlying23 hi1 hy0 hy1 hy2 rfl _ rfl NW.out.1 _ k _ rfl C5.out UT.out B1.out.1 B1.out.2 ?_; intro A6 c6 w6 hown hupd hnew; have N6 := Lib.hid (NW.out.app0 hown hupd hnew); clear hown hupd hnew; have NB := Lib.hid (NewR.fresh w6 5 1); have x6 := (XW.out _ (N6.out.2.2.trans ((Upd.refl NoF w6).alloc (.cells #[] 5)) (fun _ _ f => f))).1)
              | (at_builtin; refine wpList_append_new _ rfl (.tmp 55) (.tmp 59) 36 rfl 5 i2 _ 1 1 Try.underlying36 hi2 hz0 hz1 hz2 rfl _ rfl NB.out.1 _ x.length _ rfl (XW.out _ (N6.out.2.2.trans ((Upd.refl NoF w6).alloc (.cells #[] 5)) (fun _ _ f => f))).2 (one_bytes _) B4.out.1 B4.out.2 ?_; intro A7 c7 w7 hown hupd hnew; have N7 := Lib.hid (NB.out.app0 hown hupd hnew); clear hown hupd hnew; have N6b := Lib.hid (N6.out.keep (N7.out.2.2.trans ((Upd.refl NoF w7).alloc (.cells #[.slice A7 x.length c7] 36)) (fun _ _ f => f))))
              | (at_builtin; refine wpList_append_to _ rfl (.tmp 54) (.tmp 61) 23 rfl 36 i1 _ 1 24 Try.underlying23 hi1 hy0 hy1 hy2 rfl _ k _ rfl N6b.out.1 _ 1 _ rfl (rd_lit w7 36 (.slice A7 x.length c7)) (by simp [Value.oneCell']) B2.out.1 B2.out.2 ?_; intro A8 c8 w8 hown hupd hnew; have N8 := Lib.hid (N6b.out.app hown hupd hnew); have P8 := Lib.hid (And.intro ((N7.out.1.upd ((Upd.refl NoF w7).alloc (.cells #[.slice A7 x.length c7] 36)) (fun _ _ f => f)).updT (ts := [36]) (UpdT.of hupd (fun kk hk => N6b.out.1.tyf (by simp) hk)) (by decide)) (show ∀ kk, OwnB (.slice A7 x.length c7) kk → w4.heap.size ≤ kk from fun kk hk => by have := N7.out.2.1 kk hk; have := N6.out.2.2.size; omega)); clear hown hupd hnew)
              | (refine wpList_cut_from rfl (.tmp 64) (.tmp 65) rfl rfl rfl (US2.out.keep N8.out.2.2) Try.underlying23 (fun _ => by kernel_rfl) KM.out ?_; intro A9 hcut9; have C9 := Lib.hid hcut9; clear hcut9)
              | (at_builtin; refine wpList_append_to _ rfl (.tmp 63) (.tmp 66) 23 rfl 36 i1 _ 1 24 Try.underlying23 hi1 hy0 hy1 hy2 rfl _ (k + 1) _ rfl N8.out.1 _ (m - k) _ rfl C9.out UD.out B3.out.1 B3.out.2 ?_; intro Aa ca' wa hown hupd hnew; have Na := Lib.hid (N8.out.app hown hupd hnew); have Pa := Lib.hid (And.intro (P8.out.1.updT (ts := [36]) (UpdT.of hupd (fun kk hk => N8.out.1.tyf (by simp) hk)) (by decide)) P8.out.2); clear hown hupd hnew))
            go_roundg (n - (i + 1))
            case measure => omega
            case rel =>
              rw [MM.out]
              refine ⟨i + 1, m + 1, Aa, ca', rfl, by first | rfl | go_num, by omega, by omega, hm1, Lib.hid ?_, Lib.hid ⟨?_, T4.out.2.trans Na.out.2.2 (fun _ _ f => f)⟩⟩
              · rw [E.out]
                have h2 := HM.out
                have h3 := HK.out
                simp only [List.length_append, List.length_take, List.length_cons, List.length_nil, List.length_drop]
                omega
              · rw [E.out, ← MM.out]
                refine TxFar.ins US1.out US3.out HK.out (Pa.out.1.rdF (fun kk hk f => by have := Pa.out.2 kk hk; have := T4.out.2.size; omega)) Na.out.2.2 ?_
                have h4 := Na.out.1.rdF (F := fun k => k < w.heap.size) (fun kk hk f => by have := Na.out.2.1 kk hk; have := T4.out.2.size; omega)
                rw [Nat.mul_one] at h4
                have h5 : (L.take k ++ [x] ++ L.drop k).length = k + 1 + (m - k) := by
                  have h2 := HM.out
                  have h3 := HK.out
                  simp only [List.length_append, List.length_take, List.length_cons, List.length_nil, List.length_drop]
                  omega
                rw [h5]
                exact h4
    · have hltz : ¬ (i : Int) < (n : Int) := by omega
      have E := Lib.hid (show l.take i = l from List.take_of_length_le (by have := HN.out; omega))
      go_wp2
      go_ret
      exact ⟨_, rfl, by have := T1.out.1; rwa [E.out] at this, T1.out.2⟩
end
end Go.Proofs.Ytbgificdilpdcaa
