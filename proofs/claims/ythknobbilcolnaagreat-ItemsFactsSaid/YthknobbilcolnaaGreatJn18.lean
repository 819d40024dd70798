/- The canonical form of signed votes, their votes, and who is guilty, on plain lists. No condition. signed.Canonical, by abstract values. Conditions: sizes. Canonical form, votes and verified votes of the implementation, by abstract values. Conditions: sizes. -/
import Derived.Test.YthknobbilcolnaaGreatJn15
import Derived.Test.YthknobbilcolnaaGreatJn16
import Derived.Test.YthknobbilcolnaaGreatJn17
namespace Go.Proofs.YthknobbilcolnaaGreat
section
theorem asc_ext {α : Type} {lt : α → α → Bool} : ∀ {l m : List α}, l.Pairwise (fun a b => lt a b = true) → m.Pairwise (fun a b => lt a b = true) → (∀ x, x ∈ l ↔ x ∈ m) → (∀ x ∈ l, ∀ y ∈ l, lt x y = true → lt y x = true → False) → l = m
  | [], [], _, _, _, _ => rfl
  | [], b :: m, _, _, h, _ => by have := (h b).2 List.mem_cons_self; cases this
  | a :: l, [], _, _, h, _ => by have := (h a).1 List.mem_cons_self; cases this
  | a :: l, b :: m, h1, h2, h, hs => by
    obtain ⟨p1, q1⟩ := List.pairwise_cons.1 h1
    obtain ⟨p2, q2⟩ := List.pairwise_cons.1 h2
    have irr : ∀ x ∈ a :: l, lt x x = true → False := fun x hx e => hs x hx x hx e e
    have hb : b ∈ a :: l := (h b).2 List.mem_cons_self
    have e : a = b := by
      rcases List.mem_cons.1 ((h a).1 List.mem_cons_self) with e | hm
      · exact e
      · rcases List.mem_cons.1 hb with e | hl
        · exact e.symm
        · exact (hs a List.mem_cons_self b hb (p1 b hl) (p2 a hm)).elim
    subst e
    rw [asc_ext q1 q2 (fun x => ⟨fun hx => by
      rcases List.mem_cons.1 ((h x).1 (List.mem_cons_of_mem _ hx)) with e | f
      · subst e; exact (irr x List.mem_cons_self (p1 x hx)).elim
      · exact f, fun hx => by
      rcases List.mem_cons.1 ((h x).2 (List.mem_cons_of_mem _ hx)) with e | f
      · subst e; exact (irr x List.mem_cons_self (p2 x hx)).elim
      · exact f⟩) (fun x hx y hy => hs x (List.mem_cons_of_mem _ hx) y (List.mem_cons_of_mem _ hy))]

def Fits (L : List SignedS) : Prop := ∀ x ∈ L, x.vote.Fit
abbrev ltv (a b : SignedS) : Bool := lessV a.vote b.vote
theorem ltv_irr {a : SignedS} (h : a.vote.Fit) (e : ltv a a = true) : False := by unfold ltv at e; rw [lessV_irrefl _ h] at e; cases e
theorem ltv_asym {a b : SignedS} (ha : a.vote.Fit) (hb : b.vote.Fit) (h1 : ltv a b = true) (h2 : ltv b a = true) : False := ltv_irr ha (lessV_trans ha hb ha h1 h2)
/-- C is the canonical form of L. -/
structure IsCan (L C : List SignedS) : Prop where
  asc : C.Pairwise (fun a b => ltv a b = true)
  mem : ∀ c ∈ C, c ∈ L
  least : ∀ c ∈ C, ∀ x ∈ L, x.vote = c.vote → lessT x.sig c.sig = false
  all : ∀ x ∈ L, ∃ c ∈ C, c.vote = x.vote
theorem can_ext {L M C : List SignedS} (h : IsCan L C) (he : ∀ x, x ∈ L ↔ x ∈ M) : IsCan M C := ⟨h.asc, fun c hc => (he c).1 (h.mem c hc), fun c hc x hx => h.least c hc x ((he x).2 hx), fun x hx => h.all x ((he x).2 hx)⟩
theorem can_fit {L C : List SignedS} (h : IsCan L C) (hf : Fits L) : Fits C := fun c hc => hf c (h.mem c hc)
theorem can_unique {L C D : List SignedS} (hf : Fits L) (h1 : IsCan L C) (h2 : IsCan L D) : C = D := by
  have sub : ∀ {A B : List SignedS}, IsCan L A → IsCan L B → ∀ x ∈ A, x ∈ B := fun {A B} ha hb x hx => by
    obtain ⟨d, hd, hv⟩ := hb.all x (ha.mem x hx)
    have e1 := ha.least x hx d (hb.mem d hd) hv
    have e2 := hb.least d hd x (ha.mem x hx) hv.symm
    rw [show x = d from SignedS.ext' hv.symm (lessT_total _ _ e2 e1)]
    exact hd
  exact asc_ext h1.asc h2.asc (fun x => ⟨sub h1 h2 x, sub h2 h1 x⟩) (fun x hx y hy a b => ltv_asym (hf _ (h1.mem _ hx)) (hf _ (h1.mem _ hy)) a b)
theorem asc_inj {C : List SignedS} (hf : Fits C) (h : C.Pairwise (fun a b => ltv a b = true)) : ∀ {x y : SignedS}, x ∈ C → y ∈ C → x.vote = y.vote → x = y := by
  induction C with
  | nil => intro x y hx; cases hx
  | cons a l ih =>
    obtain ⟨p, q⟩ := List.pairwise_cons.1 h
    intro x y hx hy e
    have hfa := hf a List.mem_cons_self
    rcases List.mem_cons.1 hx with ex | hx'
    · rcases List.mem_cons.1 hy with ey | hy'
      · rw [ex, ey]
      · have h2 : lessV a.vote y.vote = true := p y hy'
        rw [← e, ex, lessV_irrefl _ hfa] at h2
        cases h2
    · rcases List.mem_cons.1 hy with ey | hy'
      · have h2 : lessV a.vote x.vote = true := p x hx'
        rw [e, ey, lessV_irrefl _ hfa] at h2
        cases h2
      · exact ih (fun z hz => hf z (List.mem_cons_of_mem _ hz)) q hx' hy' e
theorem can_of_asc {L : List SignedS} (hf : Fits L) (h : L.Pairwise (fun a b => ltv a b = true)) : IsCan L L :=
  ⟨h, fun _ hc => hc, fun c hc x hx e => by rw [asc_inj hf h hx hc e]; exact lessT_irrefl _, fun x hx => ⟨x, hx, rfl⟩⟩

/-! ### merging -/
def mrgS : List SignedS → List SignedS → List SignedS
  | [], b => b
  | x :: a, [] => x :: a
  | x :: a, y :: b => if lessV x.vote y.vote then x :: mrgS a (y :: b) else if lessV y.vote x.vote then y :: mrgS (x :: a) b else if lessT y.sig x.sig then mrgS a (y :: b) else mrgS (x :: a) b
termination_by a b => a.length + b.length
theorem mrgS_nil (a : List SignedS) : mrgS a [] = a := by cases a <;> simp [mrgS]
theorem mrgS_mem : ∀ (a b : List SignedS), ∀ c ∈ mrgS a b, c ∈ a ∨ c ∈ b
  | [], b, c, h => .inr (by simpa [mrgS] using h)
  | x :: a, [], c, h => .inl (by simpa [mrgS] using h)
  | x :: a, y :: b, c, h => by
    rw [mrgS] at h
    split at h
    · rcases List.mem_cons.1 h with rfl | h
      · exact .inl List.mem_cons_self
      · exact (mrgS_mem a (y :: b) c h).imp (List.mem_cons_of_mem _) id
    · split at h
      · rcases List.mem_cons.1 h with rfl | h
        · exact .inr List.mem_cons_self
        · exact (mrgS_mem (x :: a) b c h).imp id (List.mem_cons_of_mem _)
      · split at h
        · exact (mrgS_mem a (y :: b) c h).imp (List.mem_cons_of_mem _) id
        · exact (mrgS_mem (x :: a) b c h).imp id (List.mem_cons_of_mem _)
termination_by a b => a.length + b.length
theorem mrgS_asc : ∀ (a b : List SignedS), Fits a → Fits b → a.Pairwise (fun a b => ltv a b = true) → b.Pairwise (fun a b => ltv a b = true) → (mrgS a b).Pairwise (fun a b => ltv a b = true)
  | [], b, _, _, _, hb => by simpa [mrgS] using hb
  | x :: a, [], _, _, ha, _ => by simpa [mrgS] using ha
  | x :: a, y :: b, fa, fb, ha, hb => by
    have fa' : Fits a := fun z hz => fa z (List.mem_cons_of_mem _ hz)
    have fb' : Fits b := fun z hz => fb z (List.mem_cons_of_mem _ hz)
    obtain ⟨pa, qa⟩ := List.pairwise_cons.1 ha
    obtain ⟨pb, qb⟩ := List.pairwise_cons.1 hb
    have fx := fa x List.mem_cons_self
    have fy := fb y List.mem_cons_self
    rw [mrgS]
    split
    · rename_i hxy
      refine List.pairwise_cons.2 ⟨fun c hc => ?_, mrgS_asc a (y :: b) fa' fb qa hb⟩
      rcases mrgS_mem _ _ c hc with h | h
      · exact pa c h
      · rcases List.mem_cons.1 h with rfl | h
        · exact hxy
        · exact lessV_trans fx fy (fb' c h) hxy (pb c h)
    · split
      · rename_i hyx
        refine List.pairwise_cons.2 ⟨fun c hc => ?_, mrgS_asc (x :: a) b fa fb' ha qb⟩
        rcases mrgS_mem _ _ c hc with h | h
        · rcases List.mem_cons.1 h with rfl | h
          · exact hyx
          · exact lessV_trans fy fx (fa' c h) hyx (pa c h)
        · exact pb c h
      · split
        · exact mrgS_asc a (y :: b) fa' fb qa hb
        · exact mrgS_asc (x :: a) b fa fb' ha qb
termination_by a b => a.length + b.length
theorem mrgS_all : ∀ (a b : List SignedS), Fits a → Fits b → ∀ x, x ∈ a ∨ x ∈ b → ∃ c ∈ mrgS a b, c.vote = x.vote ∧ lessT x.sig c.sig = false
  | [], b, _, _, z, h => ⟨z, by simpa [mrgS] using h, rfl, lessT_irrefl _⟩
  | x :: a, [], _, _, z, h => ⟨z, by simpa [mrgS] using h, rfl, lessT_irrefl _⟩
  | x :: a, y :: b, fa, fb, z, h => by
    have fa' : Fits a := fun z hz => fa z (List.mem_cons_of_mem _ hz)
    have fb' : Fits b := fun z hz => fb z (List.mem_cons_of_mem _ hz)
    have i1 := mrgS_all a (y :: b) fa' fb
    have i2 := mrgS_all (x :: a) b fa fb'
    rw [mrgS]
    split
    · by_cases e : z = x
      · subst e; exact ⟨z, List.mem_cons_self, rfl, lessT_irrefl _⟩
      · obtain ⟨c, hc, h2⟩ := i1 z (h.imp (fun h => (List.mem_cons.1 h).resolve_left e) id)
        exact ⟨c, List.mem_cons_of_mem _ hc, h2⟩
    · rename_i n1
      split
      · by_cases e : z = y
        · subst e; exact ⟨z, List.mem_cons_self, rfl, lessT_irrefl _⟩
        · obtain ⟨c, hc, h2⟩ := i2 z (h.imp id (fun h => (List.mem_cons.1 h).resolve_left e))
          exact ⟨c, List.mem_cons_of_mem _ hc, h2⟩
      · rename_i n2
        have ev : x.vote = y.vote := lessV_total (fa x List.mem_cons_self) (fb y List.mem_cons_self) (by simpa using n1) (by simpa using n2)
        split
        · rename_i hs
          by_cases e : z = x
          · subst e
            obtain ⟨c, hc, h2, h3⟩ := i1 y (.inr List.mem_cons_self)
            refine ⟨c, hc, by rw [h2, ev], ?_⟩
            cases h4 : lessT z.sig c.sig with
            | false => rfl
            | true => rw [lessT_trans _ _ _ hs h4] at h3; cases h3
          · exact i1 z (h.imp (fun h => (List.mem_cons.1 h).resolve_left e) id)
        · rename_i hs
          by_cases e : z = y
          · subst e
            obtain ⟨c, hc, h2, h3⟩ := i2 x (.inl List.mem_cons_self)
            exact ⟨c, hc, by rw [h2, ev], lessT_ntrans _ _ _ (by simpa using hs) h3⟩
          · exact i2 z (h.imp id (fun h => (List.mem_cons.1 h).resolve_left e))
termination_by a b => a.length + b.length
theorem mrg_can {L M A B : List SignedS} (hf : Fits (L ++ M)) (h1 : IsCan L A) (h2 : IsCan M B) : IsCan (L ++ M) (mrgS A B) := by
  have fl : Fits L := fun x hx => hf x (List.mem_append_left _ hx)
  have fm : Fits M := fun x hx => hf x (List.mem_append_right _ hx)
  have fa := can_fit h1 fl
  have fb := can_fit h2 fm
  have hasc := mrgS_asc A B fa fb h1.asc h2.asc
  have hmem : ∀ c ∈ mrgS A B, c ∈ L ++ M := fun c hc => (mrgS_mem A B c hc).elim (fun h => List.mem_append_left _ (h1.mem c h)) (fun h => List.mem_append_right _ (h2.mem c h))
  have key : ∀ x ∈ L ++ M, ∃ c ∈ mrgS A B, c.vote = x.vote ∧ lessT x.sig c.sig = false := fun x hx => by
    obtain ⟨a, ha, hv, hs⟩ : ∃ a, (a ∈ A ∨ a ∈ B) ∧ a.vote = x.vote ∧ lessT x.sig a.sig = false := by
      rcases List.mem_append.1 hx with h | h
      · obtain ⟨a, ha, hv⟩ := h1.all x h
        exact ⟨a, .inl ha, hv, h1.least a ha x h hv.symm⟩
      · obtain ⟨a, ha, hv⟩ := h2.all x h
        exact ⟨a, .inr ha, hv, h2.least a ha x h hv.symm⟩
    obtain ⟨c, hc, hv2, hs2⟩ := mrgS_all A B fa fb a ha
    exact ⟨c, hc, by rw [hv2, hv], lessT_ntrans _ _ _ hs hs2⟩
  refine ⟨hasc, hmem, fun c hc x hx e => ?_, fun x hx => ?_⟩
  · obtain ⟨d, hd, hv, hs⟩ := key x hx
    rw [← asc_inj (fun z hz => hf z (hmem z hz)) hasc hd hc (by rw [hv, e])]
    exact hs
  · obtain ⟨c, hc, hv, -⟩ := key x hx
    exact ⟨c, hc, hv⟩

/-! ### striking votes that are there already from an ascending list -/
def ddT (D : List SignedS) : Nat → List SignedS
  | 0 => []
  | k + 1 => match D[k]? with
    | some x => if k = 0 ∨ (D[k - 1]?).map (·.vote) ≠ some x.vote then ddT D k ++ [x] else ddT D k
    | none => ddT D k
def AscS (D : List SignedS) : Prop := ∀ (i j : Nat) (x y : SignedS), i < j → D[i]? = some x → D[j]? = some y → lessS y x = false
theorem ascS_vote {x y : SignedS} (hx : x.vote.Fit) (hy : y.vote.Fit) (h : lessS y x = false) (hne : x.vote ≠ y.vote) : lessV x.vote y.vote = true := by
  unfold lessS at h
  rw [if_neg (fun e => hne e.symm)] at h
  cases h2 : lessV x.vote y.vote with
  | true => rfl
  | false => exact (hne (lessV_total hx hy h2 h)).elim
theorem mem_takeS {α : Type} {D : List α} {k : Nat} {x : α} (h : x ∈ D.take k) : ∃ i, i < k ∧ D[i]? = some x := by
  obtain ⟨i, hi⟩ := List.mem_iff_getElem?.1 h
  rw [List.getElem?_take] at hi
  split at hi
  · exact ⟨i, by omega, hi⟩
  · cases hi
theorem dd_can {D : List SignedS} (hf : Fits D) (ha : AscS D) : ∀ k, k ≤ D.length → IsCan (D.take k) (ddT D k)
  | 0, _ => ⟨List.Pairwise.nil, (fun c hc => by cases hc), (fun c hc => by cases hc), (fun x hx => by simp at hx)⟩
  | k + 1, hk => by
    have ih := dd_can hf ha k (by omega)
    obtain ⟨x, hx⟩ : ∃ x, D[k]? = some x := ⟨_, List.getElem?_eq_getElem (by omega)⟩
    have et : D.take (k + 1) = D.take k ++ [x] := by rw [List.take_add_one, hx]; rfl
    have hfx := hf x (List.mem_of_getElem? hx)
    have ft : ∀ y ∈ D.take k, y.vote.Fit := fun y hy => hf y (List.mem_of_mem_take hy)
    have asc1 : ∀ y ∈ D.take k, lessS x y = false := fun y hy => by
      obtain ⟨i, hi, h⟩ := mem_takeS hy
      exact ha i k y x hi h hx
    show IsCan (D.take (k + 1)) (match D[k]? with
      | some x => if k = 0 ∨ (D[k - 1]?).map (·.vote) ≠ some x.vote then ddT D k ++ [x] else ddT D k
      | none => ddT D k)
    rw [hx, et]
    dsimp only
    split
    · rename_i hc
      have lt1 : ∀ y ∈ D.take k, lessV y.vote x.vote = true := fun y hy => by
        obtain ⟨i, hi, h⟩ := mem_takeS hy
        rcases hc with hc | hc
        · omega
        obtain ⟨d, hd⟩ : ∃ d, D[k - 1]? = some d := ⟨_, List.getElem?_eq_getElem (by omega)⟩
        rw [hd] at hc
        have hc : d.vote ≠ x.vote := fun e => hc (by simp [e])
        have hfd := hf d (List.mem_of_getElem? hd)
        have hdx := ascS_vote hfd hfx (ha (k - 1) k d x (by omega) hd hx) hc
        by_cases e : i = k - 1
        · subst e; rw [h] at hd; injection hd with hd; rw [hd]; exact hdx
        · by_cases ev : y.vote = d.vote
          · rw [ev]; exact hdx
          · exact lessV_trans (ft y hy) hfd hfx (ascS_vote (ft y hy) hfd (ha i (k - 1) y d (by omega) h hd) ev) hdx
      refine ⟨List.pairwise_append.2 ⟨ih.asc, List.pairwise_singleton _ _, fun a h1 b h2 => ?_⟩, fun c h => ?_, fun c h y hy e => ?_, fun y hy => ?_⟩
      · rw [List.mem_singleton.1 h2]; exact lt1 a (ih.mem a h1)
      · rcases List.mem_append.1 h with h | h
        · exact List.mem_append_left _ (ih.mem c h)
        · exact List.mem_append_right _ h
      · rcases List.mem_append.1 h with h | h <;> rcases List.mem_append.1 hy with hy | hy
        · exact ih.least c h y hy e
        · rw [List.mem_singleton.1 hy] at e
          have := lt1 c (ih.mem c h)
          rw [e, lessV_irrefl _ (ft c (ih.mem c h))] at this
          cases this
        · rw [List.mem_singleton.1 h] at e
          have := lt1 y hy
          rw [e, lessV_irrefl _ hfx] at this
          cases this
        · rw [List.mem_singleton.1 h, List.mem_singleton.1 hy]; exact lessT_irrefl _
      · rcases List.mem_append.1 hy with hy | hy
        · obtain ⟨c, h1, h2⟩ := ih.all y hy; exact ⟨c, List.mem_append_left _ h1, h2⟩
        · exact ⟨x, List.mem_append_right _ List.mem_cons_self, by rw [List.mem_singleton.1 hy]⟩
    · rename_i hc
      obtain ⟨h0, h1⟩ : k ≠ 0 ∧ (D[k - 1]?).map (·.vote) = some x.vote := ⟨fun e => hc (.inl e), Classical.byContradiction fun e => hc (.inr e)⟩
      obtain ⟨d, hd⟩ : ∃ d, D[k - 1]? = some d := ⟨_, List.getElem?_eq_getElem (by omega)⟩
      have hdm : d ∈ D.take k := List.mem_iff_getElem?.2 ⟨k - 1, by rw [List.getElem?_take, if_pos (by omega)]; exact hd⟩
      rw [hd] at h1
      have h1 : d.vote = x.vote := by simpa using h1
      refine ⟨ih.asc, fun c h => List.mem_append_left _ (ih.mem c h), fun c h y hy e => ?_, fun y hy => ?_⟩
      · rcases List.mem_append.1 hy with hy | hy
        · exact ih.least c h y hy e
        · rw [List.mem_singleton.1 hy] at e ⊢
          have := asc1 c (ih.mem c h)
          unfold lessS at this
          rwa [if_pos e] at this
      · rcases List.mem_append.1 hy with hy | hy
        · exact ih.all y hy
        · obtain ⟨c, h2, h3⟩ := ih.all d hdm
          exact ⟨c, h2, by rw [h3, h1, List.mem_singleton.1 hy]⟩

/-! ### votes alone -/
def mrgV : List VoteS → List VoteS → List VoteS
  | [], b => b
  | x :: a, [] => x :: a
  | x :: a, y :: b => if lessV x y then x :: mrgV a (y :: b) else if lessV y x then y :: mrgV (x :: a) b else mrgV a (y :: b)
termination_by a b => a.length + b.length
def FitsV (L : List VoteS) : Prop := ∀ x ∈ L, x.Fit
structure IsVt (L C : List VoteS) : Prop where
  asc : C.Pairwise (fun a b => lessV a b = true)
  mem : ∀ x, x ∈ C ↔ x ∈ L
theorem vt_unique {L C D : List VoteS} (hf : FitsV L) (h1 : IsVt L C) (h2 : IsVt L D) : C = D :=
  asc_ext h1.asc h2.asc (fun x => (h1.mem x).trans (h2.mem x).symm) (fun x hx y hy a b => by
    have fx := hf x ((h1.mem x).1 hx)
    have := lessV_trans fx (hf y ((h1.mem y).1 hy)) fx a b
    rw [lessV_irrefl _ fx] at this
    cases this)
theorem can_vt {L C : List SignedS} (h : IsCan L C) : IsVt (L.map (·.vote)) (C.map (·.vote)) :=
  ⟨List.pairwise_map.2 h.asc, fun x => ⟨fun hx => by
    obtain ⟨c, hc, rfl⟩ := List.mem_map.1 hx
    exact List.mem_map.2 ⟨c, h.mem c hc, rfl⟩, fun hx => by
    obtain ⟨c, hc, rfl⟩ := List.mem_map.1 hx
    obtain ⟨d, hd, e⟩ := h.all c hc
    exact List.mem_map.2 ⟨d, hd, e⟩⟩⟩
theorem vt_of_asc {L : List VoteS} (h : L.Pairwise (fun a b => lessV a b = true)) : IsVt L L := ⟨h, fun _ => Iff.rfl⟩
theorem mrgV_mem : ∀ (a b : List VoteS), FitsV a → FitsV b → ∀ c, c ∈ mrgV a b ↔ c ∈ a ∨ c ∈ b
  | [], b, _, _, c => by simp [mrgV]
  | x :: a, [], _, _, c => by simp [mrgV]
  | x :: a, y :: b, fa, fb, c => by
    have i1 := mrgV_mem a (y :: b) (fun z hz => fa z (List.mem_cons_of_mem _ hz)) fb c
    have i2 := mrgV_mem (x :: a) b fa (fun z hz => fb z (List.mem_cons_of_mem _ hz)) c
    rw [mrgV]
    split
    · simp only [List.mem_cons] at i1 ⊢; rw [i1]; exact ⟨fun h => by rcases h with h | h | h | h <;> simp [h], fun h => by rcases h with (h | h) | h | h <;> simp [h]⟩
    · rename_i n1
      split
      · simp only [List.mem_cons] at i2 ⊢; rw [i2]; exact ⟨fun h => by rcases h with h | (h | h) | h <;> simp [h], fun h => by rcases h with (h | h) | h | h <;> simp [h]⟩
      · rename_i n2
        have ev : x = y := lessV_total (fa x List.mem_cons_self) (fb y List.mem_cons_self) (by simpa using n1) (by simpa using n2)
        simp only [List.mem_cons] at i1 ⊢; rw [i1]; exact ⟨fun h => by rcases h with h | h | h <;> simp [h], fun h => by rcases h with (h | h) | h | h <;> simp [h, ev]⟩
termination_by a b => a.length + b.length
theorem mrgV_asc : ∀ (a b : List VoteS), FitsV a → FitsV b → a.Pairwise (fun a b => lessV a b = true) → b.Pairwise (fun a b => lessV a b = true) → (mrgV a b).Pairwise (fun a b => lessV a b = true)
  | [], b, _, _, _, hb => by simpa [mrgV] using hb
  | x :: a, [], _, _, ha, _ => by simpa [mrgV] using ha
  | x :: a, y :: b, fa, fb, ha, hb => by
    have fa' : FitsV a := fun z hz => fa z (List.mem_cons_of_mem _ hz)
    have fb' : FitsV b := fun z hz => fb z (List.mem_cons_of_mem _ hz)
    obtain ⟨pa, qa⟩ := List.pairwise_cons.1 ha
    obtain ⟨pb, qb⟩ := List.pairwise_cons.1 hb
    have fx := fa x List.mem_cons_self
    have fy := fb y List.mem_cons_self
    rw [mrgV]
    split
    · rename_i hxy
      refine List.pairwise_cons.2 ⟨fun c hc => ?_, mrgV_asc a (y :: b) fa' fb qa hb⟩
      rcases (mrgV_mem _ _ fa' fb c).1 hc with h | h
      · exact pa c h
      · rcases List.mem_cons.1 h with rfl | h
        · exact hxy
        · exact lessV_trans fx fy (fb' c h) hxy (pb c h)
    · split
      · rename_i hyx
        refine List.pairwise_cons.2 ⟨fun c hc => ?_, mrgV_asc (x :: a) b fa fb' ha qb⟩
        rcases (mrgV_mem _ _ fa fb' c).1 hc with h | h
        · rcases List.mem_cons.1 h with rfl | h
          · exact hyx
          · exact lessV_trans fy fx (fa' c h) hyx (pa c h)
        · exact pb c h
      · exact mrgV_asc a (y :: b) fa' fb qa hb
termination_by a b => a.length + b.length
theorem mrg_vt {L M A B : List VoteS} (hf : FitsV (L ++ M)) (h1 : IsVt L A) (h2 : IsVt M B) : IsVt (L ++ M) (mrgV A B) := by
  have fa : FitsV A := fun x hx => hf x (List.mem_append_left _ ((h1.mem x).1 hx))
  have fb : FitsV B := fun x hx => hf x (List.mem_append_right _ ((h2.mem x).1 hx))
  exact ⟨mrgV_asc A B fa fb h1.asc h2.asc, fun x => by rw [mrgV_mem A B fa fb, List.mem_append, h1.mem, h2.mem]⟩
/-- A list of which each neighbours ascend, ascends. -/
theorem asc_of_next {α : Type} {lt : α → α → Bool} {L : List α} (tr : ∀ x ∈ L, ∀ y ∈ L, ∀ z ∈ L, lt x y = true → lt y z = true → lt x z = true) (h : ∀ i x y, L[i]? = some x → L[i + 1]? = some y → lt x y = true) : L.Pairwise (fun a b => lt a b = true) := by
  rw [List.pairwise_iff_getElem]
  intro i j hi hj hij
  obtain ⟨k, rfl⟩ : ∃ k, j = i + 1 + k := ⟨j - i - 1, by omega⟩
  clear hij
  induction k with
  | zero => exact h i _ _ (List.getElem?_eq_getElem hi) (List.getElem?_eq_getElem hj)
  | succ k ih => exact tr _ (List.getElem_mem _) _ (List.getElem_mem _) _ (List.getElem_mem _) (ih (by omega)) (h (i + 1 + k) _ _ (List.getElem?_eq_getElem (by omega)) (List.getElem?_eq_getElem hj))

/-! ### guilt -/
def sameK (a b : VoteS) : Bool := decide (a.kind = b.kind) && decide (a.parent = b.parent) && decide (a.slot = b.slot) && decide (a.round = b.round) && decide (a.signer = b.signer)
theorem sameK_iff {a b : VoteS} : sameK a b = true ↔ a.kind = b.kind ∧ a.parent = b.parent ∧ a.slot = b.slot ∧ a.round = b.round ∧ a.signer = b.signer := by
  unfold sameK
  simp only [Bool.and_eq_true, decide_eq_true_eq, and_assoc]
theorem lex_between : ∀ (p q : List Int) {u v t : List Int}, p.length = q.length → lexZ (p ++ u) (q ++ v) = true → lexZ (q ++ v) (p ++ t) = true → p = q
  | [], [], _, _, _, _, _, _ => rfl
  | [], _ :: _, _, _, _, h, _, _ => by simp at h
  | _ :: _, [], _, _, _, h, _, _ => by simp at h
  | x :: p, y :: q, u, v, t, h, h1, h2 => by
    simp only [List.cons_append, lexZ] at h1 h2
    by_cases e : x = y
    · subst e
      simp only [if_true] at h1 h2
      rw [lex_between p q (by simpa using h) h1 h2]
    · rw [if_neg e] at h1
      rw [if_neg (fun f => e f.symm)] at h2
      simp at h1 h2
      omega
theorem sameK_between {a b c : VoteS} (ha : a.Fit) (hb : b.Fit) (hc : c.Fit) (h1 : lessV a b = true) (h2 : lessV b c = true) (h : sameK a c = true) : sameK a b = true := by
  rw [sameK_iff] at h ⊢
  rw [lessV_key ha hb] at h1
  rw [lessV_key hb hc] at h2
  have e := lex_between [(be a.parent : Nat), a.slot, a.round, a.kind, a.signer] [(be b.parent : Nat), b.slot, b.round, b.kind, b.signer] (u := [a.choice, (be a.value : Nat), a.support]) (v := [b.choice, (be b.value : Nat), b.support]) (t := [c.choice, (be c.value : Nat), c.support]) rfl h1 (by
    unfold keyV at h2
    rw [← h.1, ← h.2.1, ← h.2.2.1, ← h.2.2.2.1, ← h.2.2.2.2] at h2
    exact h2)
  simp only [List.cons.injEq, and_true] at e
  obtain ⟨e1, e2, e3, e4, e5⟩ := e
  exact ⟨e4, be_injN 8 ha.parent hb.parent (by omega), e2, e3, e5⟩
/-- Signer s has two votes with one key in C. -/
def GuiltA (C : List SignedS) (s : Int) : Prop := ∃ (i j : Nat) (x y : SignedS), i < j ∧ C[i]? = some x ∧ C[j]? = some y ∧ y.vote.signer = s ∧ sameK x.vote y.vote = true
/-- .. two that are neighbours. -/
def GuiltN (C : List SignedS) (s : Int) : Prop := ∃ (i : Nat) (x y : SignedS), C[i]? = some x ∧ C[i + 1]? = some y ∧ x.vote.signer = s ∧ sameK x.vote y.vote = true
theorem guilt_iff {C : List SignedS} (hf : Fits C) (h : C.Pairwise (fun a b => ltv a b = true)) (s : Int) : GuiltA C s ↔ GuiltN C s := by
  constructor
  · rintro ⟨i, j, x, y, hij, hx, hy, hs, hk⟩
    have hs' : x.vote.signer = s := by rw [(sameK_iff.1 hk).2.2.2.2]; exact hs
    have hjl : j < C.length := (List.getElem?_eq_some_iff.1 hy).1
    obtain ⟨z, hz⟩ : ∃ z, C[i + 1]? = some z := ⟨_, List.getElem?_eq_getElem (by omega)⟩
    have pw := List.pairwise_iff_getElem.1 h
    have get : ∀ {k : Nat} {u : SignedS}, C[k]? = some u → ∃ hk : k < C.length, C[k] = u := fun h => List.getElem?_eq_some_iff.1 h
    refine ⟨i, x, z, hx, hz, hs', ?_⟩
    by_cases e : j = i + 1
    · subst e; rw [hy] at hz; injection hz with hz; rw [← hz]; exact hk
    · obtain ⟨a1, b1⟩ := get hx
      obtain ⟨a2, b2⟩ := get hy
      obtain ⟨a3, b3⟩ := get hz
      have l1 := pw i (i + 1) a1 a3 (by omega)
      have l2 := pw (i + 1) j a3 a2 (by omega)
      rw [b1, b3] at l1
      rw [b3, b2] at l2
      exact sameK_between (hf _ (List.mem_of_getElem? hx)) (hf _ (List.mem_of_getElem? hz)) (hf _ (List.mem_of_getElem? hy)) l1 l2 hk
  · rintro ⟨i, x, y, hx, hy, hs, hk⟩
    exact ⟨i, i + 1, x, y, by omega, hx, hy, by rw [← (sameK_iff.1 hk).2.2.2.2]; exact hs, hk⟩
end

section
open Go.RowKit Go.Sort
set_option maxRecDepth 10000
attribute [-simp] List.map_take List.map_drop UInt8.ofNat_add List.map_flatten

/-- A copy of bytes. -/
theorem copyB_any (b : List UInt8) (hb : b.length ≤ 100000) : PCall Tryz.prog 56 [bytesA b, .c (.int .u64 0), .c (.int .i64 0)] [] (fun x _ => Bd 0 x ∧ x = bytesA b) := by
  refine PCall.viewR ((AppendUint_any b 0 0 (by omega) (by omega)).mono ?_)
  rintro x H1 ⟨rfl, junk, rfl⟩
  exact ⟨_, _, View.fz1 (id := 0) rfl (Fz_bytes (by simp [beB])), by simp, by simp [beB]⟩
/-- A signed vote of zeros. -/
def zSA : AV := .agg ([.c (.int .i64 0), .c (.int .i64 0), .c (.int .i64 0), .c (.int .i64 0), .c (.int .i64 0), .c (.int .i64 0)] ++ (List.replicate 16 (0 : UInt8)).map byteA ++ [.c (.slice none 0 0)])
/-- The row while it is filled. -/
def fillS (l : List SignedS) (i : Nat) : List AV := (l.take i).map sA ++ List.replicate (l.length - i) zSA
theorem fillS_23 {l : List SignedS} (hf : Fits l) (i : Nat) : ∀ e ∈ fillS l i, e.cells.length = 23 := by
  intro e he
  rcases List.mem_append.1 he with he | he
  · obtain ⟨s, hs, rfl⟩ := List.mem_map.1 he
    exact sC_len (hf s (List.mem_of_mem_take hs))
  · rw [(List.mem_replicate.1 he).2]
    rfl
theorem fillS_len (l : List SignedS) {i : Nat} (h : i ≤ l.length) : (fillS l i).length = l.length := by simp [fillS]; omega
theorem fillS_bd (l : List SignedS) (i : Nat) : ∀ a ∈ flat (fillS l i), Bd 0 a := Bd.flat (fun e he => by
  rcases List.mem_append.1 he with he | he
  · obtain ⟨s, -, rfl⟩ := List.mem_map.1 he
    exact bd_sA 0 s
  · rw [(List.mem_replicate.1 he).2]
    exact .agg (fun a ha => by simp [byteA] at ha; rcases ha with rfl | rfl | ⟨_, -, rfl⟩ | rfl <;> exact .c _))
theorem fillS_set {l : List SignedS} {i : Nat} {s : SignedS} (hs : l[i]? = some s) : (fillS l i).set i (sA s) = fillS l (i + 1) := by
  have hi := (List.getElem?_eq_some_iff.1 hs).1
  unfold fillS
  have e1 : ((l.take i).map sA).length = i := by simp; omega
  obtain ⟨k, hk⟩ : ∃ k, l.length - i = k + 1 := ⟨l.length - i - 1, by omega⟩
  rw [List.take_add_one, hs, List.set_append, if_neg (by omega), e1, Nat.sub_self, hk, show l.length - (i + 1) = k by omega]
  simp [List.replicate_succ]
theorem fillS_zero (l : List SignedS) : flat (fillS l 0) = reps l.length zSA.cells := by
  simp only [fillS, List.take_zero, List.map_nil, List.nil_append, Nat.sub_zero]
  generalize l.length = n
  induction n with
  | zero => rfl
  | succ n ih => rw [List.replicate_succ, flat_cons, ih]; rfl
theorem splice_S {z : List AV} {v : VoteS} {x : AV} (h : v.Fit) (hz : z.length = 23) : splice (splice z 0 (vC v)) 22 [x] = vC v ++ [x] := by
  have hv := vC_len h
  simp [splice, hv, List.drop_append]
  omega
theorem fs_list : ∀ (l : List SignedS), Fits l → ∃ r : List FS, r.map (·.1) = l
  | [], _ => ⟨[], rfl⟩
  | s :: l, h => by
    obtain ⟨r, hr⟩ := fs_list l (fun x hx => h x (List.mem_cons_of_mem _ hx))
    exact ⟨⟨s, h s (List.mem_cons_self ..)⟩ :: r, by rw [List.map_cons, hr]⟩
theorem esF_of {r : List FS} {l : List SignedS} (h : r.map (·.1) = l) : esF r.toArray = l.map sA := by
  rw [← h, List.map_map]
  rfl
theorem dd_step {D : List SignedS} {k : Nat} {x : SignedS} (h : D[k]? = some x) : ddT D (k + 1) = if k = 0 ∨ (D[k - 1]?).map (fun x : SignedS => x.vote) ≠ some x.vote then ddT D k ++ [x] else ddT D k := by
  show (match D[k]? with
    | some x => if k = 0 ∨ (D[k - 1]?).map (fun x : SignedS => x.vote) ≠ some x.vote then ddT D k ++ [x] else ddT D k
    | none => ddT D k) = _
  rw [h]
theorem dd_mem {D : List SignedS} : ∀ {k : Nat}, ∀ x ∈ ddT D k, x ∈ D
  | 0, x, h => by cases h
  | k + 1, x, h => by
    cases hc : D[k]? with
    | none =>
      have e : ddT D (k + 1) = ddT D k := by unfold ddT; rw [hc]; cases k <;> rfl
      rw [e] at h
      exact dd_mem x h
    | some y =>
      rw [dd_step hc] at h
      split at h
      · rcases List.mem_append.1 h with h | h
        · exact dd_mem x h
        · rw [List.mem_singleton.1 h]; exact List.mem_of_getElem? hc
      · exact dd_mem x h
theorem dd_len (D : List SignedS) : ∀ k, (ddT D k).length ≤ k
  | 0 => Nat.le_refl _
  | k + 1 => by
    have ih := dd_len D k
    cases hc : D[k]? with
    | none =>
      have e : ddT D (k + 1) = ddT D k := by unfold ddT; rw [hc]; cases k <;> rfl
      rw [e]; omega
    | some y =>
      rw [dd_step hc]
      split
      · rw [List.length_append]; simpa using ih
      · omega
inductive CaO (D : List SignedS) : Nat → List AV → List AObj → Prop
  | mk (i : Nat) (h : i ≤ D.length) (ext : List AV) (hx : ∀ a ∈ ext, Bd 0 a) (m : Nat) (hm : m = D.length - i) : CaO D m ([.any, .any, .any, .ptr 1 0, .any, .any, .own 2 0 (ddT D i).length 23] ++ List.replicate 26 .any ++ [.own 0 0 D.length 23, .c (.int .i64 D.length), .c (.int .i64 i)] ++ List.replicate 23 .any) [.row 38 false (flat (D.map sA)), .row 1000026 false [.own 0 0 D.length 23], .row 38 false (flat ((ddT D i).map sA) ++ ext)]
inductive CaI (l : List SignedS) : Nat → List AV → List AObj → Prop
  | mk (i : Nat) (h : i ≤ l.length) (m : Nat) (hm : m = l.length - i) : CaI l m ([.ls 23 (l.map sA), .any, .c (.slice none 0 0), .ptr 1 0] ++ List.replicate 8 .any ++ [.ls 23 (l.map sA), .c (.int .i64 l.length), .c (.int .i64 i)] ++ List.replicate 44 .any) [.row 38 false (flat (fillS l i)), .row 1000026 false [.own 0 0 l.length 23]]
@[simp] theorem ifc_S (x : AV) : ifcA Tryz.prog 26 x = some (.ifc 26 x) := by
  have h : Tryz.prog.underlying 26 = some (.slice 38) := by kernel_rfl
  unfold ifcA
  rw [h]
set_option maxHeartbeats 2000000 in
/-- signed.Canonical. -/
theorem Canonical_of (hSS : ∀ (d : Array FS) (n : Nat), d.size = n → n ≤ 39 → PCall Tryz.prog 76 [.ifc 26 (.own 0 0 n 23), .fn 77 [.ptr 1 0]] (HF d n) (SymQ n 0 n d)) (l : List SignedS) (hf : Fits l) (hl : l.length ≤ 39) (hs : ∀ s ∈ l, s.sig.length ≤ 100000) : PCall Tryz.prog 44 [.ls 23 (l.map sA)] [] (fun x _ => Bd 0 x ∧ ∃ D : List SignedS, (D.Perm l ∧ AscS D) ∧ x = .ls 23 ((ddT D D.length).map sA)) := by
  refine PCall.viewR (PCall.enter mixed Tryz.func44 rfl Tryz.ntmps44 Tryz.results44 (by simp) (by kernel_rfl) ?_)
  simp [List.replicate]
  refine ⟨by omega, W_loop (CaI l) l.length ?_ ?_⟩
  · have := CaI.mk (l := l) 0 (by omega) _ rfl
    rw [fillS_zero] at this
    exact ⟨_, _, View.forget (by simp [List.replicate]), this⟩
  rintro _ _ _ ⟨i, hi, m, hm⟩
  have hl23 := flat_lenK (fillS_23 hf i)
  rw [fillS_len l hi] at hl23
  simp [List.replicate, -W_cond]
  by_cases hlt : i < l.length
  · obtain ⟨s, hx⟩ : ∃ s, l[i]? = some s := ⟨_, List.getElem?_eq_getElem hlt⟩
    have hfs := hf s (List.mem_of_getElem? hx)
    have hss := hs s (List.mem_of_getElem? hx)
    have a1 := sC_len hfs
    have a2 := take_sv hfs
    have a3 := get_sig hfs
    have a4 := take_sC hfs
    refine W_ifT (by simp [hlt]) ?_
    simp (decide := true) [hx, a1, a2, a3, a4, agg_vC, agg_sC]
    refine nextDC.use (copyB_any s.sig hss) (by simp) ?_
    have hvl := vC_len hfs
    have hS : vC s.vote ++ [bytesA s.sig] = sC s := rfl
    have hst := flat_set (e := sA s) (fillS_23 hf i) a1 (by rw [fillS_len l hi]; exact hlt)
    rw [fillS_set hx] at hst
    simp only [sA_cells] at hst
    simp [hl23, hvl, splice_S hfs, hS, a1, hst]
    refine ⟨by simp [splice, hvl], hlt, by omega, by omega, _, ?_, _, _, View.drop (H := [_, _]) [_] (by simp) ?_ ?_, .mk (i + 1) (by omega) _ rfl⟩
    · omega
    · intro j t fz cs h a ha
      match j with
      | 0 => cases h; exact .bd (fillS_bd l (i + 1) a ha)
      | 1 => cases h; simp at ha; rw [ha]; exact .own 0 0 _ _ (by simp)
      | j + 2 => simp at h
    · simp
  · obtain rfl : i = l.length := by omega
    refine W_ifF (by simp) ?_
    obtain ⟨r, hr⟩ := fs_list l hf
    have hsz : r.toArray.size = l.length := by rw [← hr]; simp
    have hfl : fillS l l.length = esF r.toArray := by rw [esF_of hr]; simp [fillS]
    simp (decide := true) [hfl]
    refine (hSS r.toArray l.length hsz hl).mono ?_
    rintro x H' ⟨rfl, d', junk, hp, hst, rfl⟩
    obtain ⟨D, hD⟩ : ∃ D : List SignedS, D = d'.toList.map (·.1) := ⟨_, rfl⟩
    have hDl : D.length = l.length := by rw [hD]; simp [hp.1, hsz]
    have hDp : D.Perm l := by
      have q := hp.2.2
      have q1 : d'.extract 0 l.length = d' := by rw [← hsz, ← hp.1]; simp
      have q2 : r.toArray.extract 0 l.length = r.toArray := by rw [← hsz]; simp
      rw [q1, q2] at q
      rw [hD, ← hr]
      exact q.map _
    have hDa : AscS D := by
      intro i j x y hij h1 h2
      have hj : j < d'.size := by have := (List.getElem?_eq_some_iff.1 h2).1; rw [hDl] at this; rw [hp.1, hsz]; exact this
      have hi : i < d'.size := by omega
      have e1 : d'[i]!.1 = x := by simpa [hD, hi] using h1
      have e2 : d'[j]!.1 = y := by simpa [hD, hj] using h2
      have := hst i j (Nat.zero_le _) hij (by rw [← hsz, ← hp.1]; exact hj)
      rw [← e1, ← e2]
      exact this
    have hDe : esF d' = D.map sA := by rw [hD, List.map_map]; rfl
    have hDf : Fits D := fun s h => hf s (hDp.mem_iff.1 h)
    have hD23 : ∀ e ∈ D.map sA, e.cells.length = 23 := fun e he => by obtain ⟨s, h, rfl⟩ := List.mem_map.1 he; exact sC_len (hDf s h)
    have hDb : ∀ a ∈ flat (D.map sA), Bd 0 a := Bd.flat (fun e he => by obtain ⟨s, -, rfl⟩ := List.mem_map.1 he; exact bd_sA 0 s)
    have hDn : (flat (D.map sA)).length = D.length * 23 := by rw [flat_lenK hD23]; simp
    rw [← hDl]
    simp [HF, rowF, hDe]
    refine W_loop (CaO D) D.length ?_ ?_
    · refine ⟨_, _, ?_, CaO.mk (D := D) 0 (by omega) [] (by simp) _ rfl⟩
      refine View.trans (e2 := [.any, .any, .any, .ptr 1 0, .any, .any, .c (.slice none 0 0)] ++ List.replicate 26 .any ++ [.own 0 0 D.length 23, .c (.int .i64 D.length), .c (.int .i64 0)] ++ List.replicate 23 .any) (View.drop (H := [_, _]) junk (by simp) ?_ (by simp [List.replicate])) (View.virt 38 rfl (Pw.at_ ?_).2)
      · intro j t fz cs h a ha
        match j with
        | 0 => cases h; exact .bd (hDb a ha)
        | 1 => cases h; simp at ha; rw [ha]; exact .own 0 0 _ _ (by simp)
        | j + 2 => simp at h
      · simp [List.replicate, ddT]
    · rintro _ _ _ ⟨i, hi, ext, hx, m, hm⟩
      have hdl := dd_len D i
      simp [List.replicate, -W_cond]
      by_cases hlt : i < D.length
      · obtain ⟨s, hs⟩ : ∃ s, D[i]? = some s := ⟨_, List.getElem?_eq_getElem hlt⟩
        have hfs := hDf s (List.mem_of_getElem? hs)
        have a1 := sC_len hfs
        have a2 := take_sv hfs
        have a4 := take_sC hfs
        have hpt : ((flat (D.map sA)).drop (i * 23)).take 23 = sC s := flat_partK (e := sA s) hD23 (by simp [hs])
        refine W_ifT (by simp [hlt]) ?_
        simp (decide := true) [hpt, hDn, hlt, a1, a2, agg_vC, agg_sC, -W_cond]
        have hls : (flat ((ddT D i).map sA)).length = (ddT D i).length * 23 := by
          rw [flat_lenK (k := 23) (fun e he => by obtain ⟨x, h, rfl⟩ := List.mem_map.1 he; exact sC_len (hDf x (dd_mem x h))), List.length_map]
        have hb1 : ∀ a ∈ flat ((ddT D i).map sA), Bd 0 a := Bd.flat (fun e he => by obtain ⟨s, -, rfl⟩ := List.mem_map.1 he; exact bd_sA 0 s)
        have hb2 : ∀ a ∈ flat ((ddT D i).map sA) ++ ext, Bd 0 a := fun a ha => (List.mem_append.1 ha).elim (hb1 a) (hx a)
        have hbs : ∀ a ∈ sC s, Bd 0 a := fun a ha => by
          have := bd_sA 0 s
          unfold sA at this
          cases this with
          | agg g => exact g a ha
        have hb3 : ∀ a ∈ flat ((ddT D i).map sA) ++ sC s, Bd 0 a := fun a ha => (List.mem_append.1 ha).elim (hb1 a) (hbs a)
        have hf2 : flat ((ddT D i ++ [s]).map sA) ++ [] = flat ((ddT D i).map sA) ++ sC s := by simp [flat]
        refine ⟨by omega, fun hne => ?_, fun h0 => ?_⟩
        · obtain ⟨p, hp'⟩ : ∃ p, D[i - 1]? = some p := ⟨_, List.getElem?_eq_getElem (by omega)⟩
          have hfp := hDf p (List.mem_of_getElem? hp')
          have hpp : ((flat (D.map sA)).drop ((i - 1) * 23)).take 22 = vC p.vote := by
            have := flat_partK (e := sA p) hD23 (i := i - 1) (by simp [hp'])
            rw [← take_sv hfp, show sC p = (sA p).cells from rfl, ← this, List.take_take]
            rfl
          simp (decide := true) [hpp, agg_vC, hfs, hfp, -W_cond]
          refine ⟨by omega, by omega, by omega, ?_⟩
          by_cases hv : s.vote = p.vote
          · have hd : ddT D (i + 1) = ddT D i := by rw [dd_step hs, if_neg (by simp [hne, hp', hv])]
            refine W_ifF (by simp [hv]) ?_
            simp (decide := true)
            have := CaO.mk (D := D) (i + 1) (by omega) ext hx _ rfl
            rw [hd] at this
            refine ⟨by omega, _, ?_, _, _, View.drop (H := [_, _, _]) [_] (by simp) ?_ ?_, this⟩
            · omega
            · intro j t fz cs h a ha
              match j with
              | 0 => cases h; exact .bd (hDb a ha)
              | 1 => cases h; simp at ha; rw [ha]; exact .own 0 0 _ _ (by simp)
              | 2 => cases h; exact .bd (hb2 a ha)
              | j + 3 => simp at h
            · simp [List.replicate]
          · have hd : ddT D (i + 1) = ddT D i ++ [s] := by rw [dd_step hs, if_pos (.inr (by simp [hp']; exact fun h => hv h.symm))]
            refine W_ifT (by simp [hv]) ?_
            simp (decide := true) [a1, a4, agg_sC, hls]
            have := CaO.mk (D := D) (i + 1) (by omega) [] (by simp) _ rfl
            rw [hd, hf2, List.length_append, List.length_singleton] at this
            refine ⟨by omega, by omega, _, ?_, _, _, View.renumS [0, 1, 5] (by simp) (by simp) (by simp) ?_ ?_, this⟩
            · omega
            · simp only [gcS_row, gcS_nil]
              refine ⟨rfl, fun a ha => .bd (hDb a ha), rfl, fun a ha => ?_, rfl, fun a ha => .bd (hb3 a ha), trivial⟩
              simp at ha
              rw [ha]
              exact .own 0 0 _ _ (by simp)
            · simp [List.replicate]
        · have hd : ddT D (i + 1) = ddT D i ++ [s] := by rw [dd_step hs, if_pos (.inl h0)]
          refine W_ifT (by simp) ?_
          simp (decide := true) [a1, a4, agg_sC, hls]
          have := CaO.mk (D := D) (i + 1) (by omega) [] (by simp) _ rfl
          rw [hd, hf2, List.length_append, List.length_singleton] at this
          refine ⟨by omega, by omega, _, ?_, _, _, View.renumS [0, 1, 5] (by simp) (by simp) (by simp) ?_ ?_, this⟩
          · omega
          · simp only [gcS_row, gcS_nil]
            refine ⟨rfl, fun a ha => .bd (hDb a ha), rfl, fun a ha => ?_, rfl, fun a ha => .bd (hb3 a ha), trivial⟩
            simp at ha
            rw [ha]
            exact .own 0 0 _ _ (by simp)
          · simp [List.replicate]
      · obtain rfl : i = D.length := by omega
        refine W_ifF (by simp) ?_
        simp (decide := true)
        have hE : ∀ e ∈ (ddT D D.length).map sA, e.cells.length = 23 := fun e he => by obtain ⟨x, h, rfl⟩ := List.mem_map.1 he; exact sC_len (hDf x (dd_mem x h))
        refine ⟨_, ⟨_, View.fz1 (id := 2) rfl (.own hE (by simp) ?_)⟩, .ls (fun a ha => by obtain ⟨x, -, rfl⟩ := List.mem_map.1 ha; exact bd_sA 0 x), D, ⟨hDp, hDa⟩, rfl⟩
        have hls := flat_lenK hE
        rw [List.length_map] at hls
        rw [List.drop_zero, List.take_append_of_le_length (by omega), List.take_of_length_le (by omega)]
end

section
open Go.RowKit
set_option maxRecDepth 10000
attribute [-simp] List.map_take List.map_drop UInt8.ofNat_add List.map_flatten

/-- The canonical form of signed votes. -/
def canS (l : List SignedS) : List SignedS := ddT (sortL lessS l) l.length
theorem sorted_ascS {L : List SignedS} (hf : Fits L) : AscS (sortL lessS L) := by
  obtain ⟨r, hr⟩ := fs_list L hf
  have h := sortL_asc (lt := ltF) (fun a b h => lessS_asymm a.2 b.2 h) (fun a b c => lessS_ntrans a.2 b.2 c.2) r
  have e : ∀ r : List FS, (sortL ltF r).map (·.1) = sortL lessS (r.map (·.1)) := by
    have ins : ∀ (x : FS) (r : List FS), (insL ltF x r).map (·.1) = insL lessS x.1 (r.map (·.1)) := by
      intro x r
      induction r with
      | nil => rfl
      | cons y r ih =>
        rw [List.map_cons]
        unfold insL
        by_cases hc : ltF y x = true
        · rw [if_pos hc, if_pos (show lessS y.1 x.1 = true from hc), List.map_cons, ih]
        · rw [if_neg hc, if_neg (show ¬ lessS y.1 x.1 = true from hc)]
          rfl
    intro r
    induction r with
    | nil => rfl
    | cons x r ih => rw [List.map_cons]; unfold sortL; rw [ins, ih]
  rw [← hr, ← e]
  intro i j x y hij hx hy
  rw [List.getElem?_map] at hx hy
  obtain ⟨a, ha, rfl⟩ := Option.map_eq_some_iff.1 hx
  obtain ⟨b, hb, rfl⟩ := Option.map_eq_some_iff.1 hy
  obtain ⟨hi, rfl⟩ := List.getElem?_eq_some_iff.1 ha
  obtain ⟨hj, rfl⟩ := List.getElem?_eq_some_iff.1 hb
  exact List.pairwise_iff_getElem.1 h i j hi hj hij
theorem canS_is {L : List SignedS} (hf : Fits L) : IsCan L (canS L) := by
  have hp := sortL_perm (lt := lessS) L
  have hfs : Fits (sortL lessS L) := fun x hx => hf x (hp.mem_iff.1 hx)
  have h1 := dd_can hfs (sorted_ascS hf) (sortL lessS L).length (Nat.le_refl _)
  rw [List.take_of_length_le (Nat.le_refl _), hp.length_eq] at h1
  exact can_ext h1 (fun x => hp.mem_iff)
/-- signed.Canonical. -/
theorem Canonical_any (l : List SignedS) (hf : Fits l) (hl : l.length ≤ 39) (hs : ∀ s ∈ l, s.sig.length ≤ 100000) : PCall Tryz.prog 44 [.ls 23 (l.map sA)] [] (fun x _ => Bd 0 x ∧ x = .ls 23 ((canS l).map sA)) := by
  refine (Canonical_of SliceStable_any l hf hl hs).mono ?_
  rintro x _ ⟨hb, D, ⟨hp, ha⟩, rfl⟩
  refine ⟨hb, ?_⟩
  have h1 := dd_can (fun s hs => hf s (hp.mem_iff.1 hs)) ha D.length (Nat.le_refl _)
  rw [List.take_of_length_le (Nat.le_refl _)] at h1
  rw [can_unique hf (can_ext h1 (fun x => hp.mem_iff)) (canS_is hf)]
theorem canS_fit {L : List SignedS} (hf : Fits L) : Fits (canS L) := can_fit (canS_is hf) hf
theorem canS_mem {L : List SignedS} (hf : Fits L) {x : SignedS} (h : x ∈ canS L) : x ∈ L := (canS_is hf).mem x h
theorem canS_len (L : List SignedS) : (canS L).length ≤ L.length := dd_len _ _
theorem vC_bd (v : VoteS) : ∀ a ∈ vC v, Bd 0 a := fun a ha => by
  have := bd_vA 0 v
  unfold vA at this
  cases this with
  | agg g => exact g a ha
inductive VoI (C : List SignedS) : Nat → List AV → List AObj → Prop
  | mk (i : Nat) (h : i ≤ C.length) (m : Nat) (hm : m = C.length - i) : VoI C m ([.any, .any, .any, .own 0 0 i 22, .any, .any, .any, .ls 23 (C.map sA), .c (.int .i64 C.length), .c (.int .i64 i)] ++ List.replicate 10 .any) [.row 36 false (pre (fun s => vA s.vote) C i)]
/-- signed.Votes. -/
theorem sVotes_any (l : List SignedS) (hf : Fits l) (hl : l.length ≤ 39) (hs : ∀ s ∈ l, s.sig.length ≤ 100000) : PCall Tryz.prog 16 [.ls 23 (l.map sA)] [] (fun x _ => Bd 0 x ∧ x = .ls 22 (((canS l).map (·.vote)).map vA)) := by
  refine PCall.viewR (PCall.enter mixed Tryz.func16 rfl Tryz.ntmps16 Tryz.results16 (by simp) (by kernel_rfl) ?_)
  simp [List.replicate]
  refine (Canonical_any l hf hl hs).use (by simp) ?_
  have hcf := canS_fit hf
  have hcl := canS_len l
  generalize canS l = C at *
  simp
  have h22 : ∀ x ∈ C, (vA x.vote).cells.length = 22 := fun x hx => vC_len (hcf x hx)
  refine W_loop (VoI C) C.length ?_ ?_
  · refine ⟨_, _, ?_, .mk 0 (by omega) _ rfl⟩
    rw [pre_zero]
    exact View.virt 36 rfl (Pw.at_ (by simp [List.replicate])).2
  rintro _ _ _ ⟨i, hi, m, hm⟩
  have hfl := pre_len h22 hi
  simp [List.replicate, -W_cond]
  by_cases hlt : i < C.length
  · obtain ⟨s, hx⟩ : ∃ s, C[i]? = some s := ⟨_, List.getElem?_eq_getElem hlt⟩
    have hfs := hcf s (List.mem_of_getElem? hx)
    have a1 := sC_len hfs
    have a2 := take_sv hfs
    have a4 := take_sC hfs
    have hvl := vC_len hfs
    refine W_ifT (by simp [hlt]) ?_
    simp [hx, a1, a2, a4, agg_vC, agg_sC, hvl]
    have := VoI.mk (C := C) (i + 1) (by omega) _ rfl
    rw [pre_succ hx] at this
    refine ⟨by omega, by omega, _, ?_, _, _, View.renum [3] (by simp) ?_ ?_, this⟩
    · omega
    · simp
      refine ⟨by rw [List.take_of_length_le (by omega), take_vC hfs], ?_⟩
      rintro a (h | h)
      · exact pre_bd (fun x _ => bd_vA 0 x.vote) a h
      · exact vC_bd s.vote a h
    · simp [List.replicate]
  · obtain rfl : i = C.length := by omega
    refine W_ifF (by simp) ?_
    simp
    exact ⟨_, View.fz1 (id := 0) rfl (Fz.pre h22)⟩
def vfdS (K : List (List UInt8)) (l : List SignedS) : List SignedS := canS (l.filter (vfy K))
inductive VfI (K : List (List UInt8)) (l : List SignedS) : Nat → List AV → List AObj → Prop
  | mk (i : Nat) (h : i ≤ l.length) (C : List SignedS) (hC : C = (l.take i).filter (vfy K)) (m : Nat) (hm : m = l.length - i) : VfI K l m ([namesA K, .any, .any, .any, .any, .own 0 0 C.length 23, .any, .any, .ls 23 (l.map sA), .c (.int .i64 l.length), .c (.int .i64 i)] ++ List.replicate 13 .any) [.row 38 false (flat (C.map sA))]
theorem flS_bd (C : List SignedS) : ∀ a ∈ flat (C.map sA), Bd 0 a := Bd.flat (fun e he => by obtain ⟨s, -, rfl⟩ := List.mem_map.1 he; exact bd_sA 0 s)
theorem sC_bd (s : SignedS) : ∀ a ∈ sC s, Bd 0 a := fun a ha => by
  have := bd_sA 0 s
  unfold sA at this
  cases this with
  | agg g => exact g a ha
theorem flS_len {C : List SignedS} (hf : Fits C) : (flat (C.map sA)).length = C.length * 23 := by
  rw [flat_lenK (k := 23) (fun e he => by obtain ⟨x, h, rfl⟩ := List.mem_map.1 he; exact sC_len (hf x h)), List.length_map]
set_option maxHeartbeats 1000000 in
/-- evidence.Verified. -/
theorem Verified_any (K : List (List UInt8)) (hK : ∀ k ∈ K, k.length = 8) (hKl : K.length ≤ 100000) (l : List SignedS) (hf : Fits l) (hl : l.length ≤ 39) (hs : ∀ s ∈ l, s.sig.length ≤ 100000) : PCall Tryz.prog 17 [namesA K, .ls 23 (l.map sA)] [] (fun x _ => Bd 0 x ∧ x = .ls 23 ((vfdS K l).map sA)) := by
  refine PCall.enter mixed Tryz.func17 rfl Tryz.ntmps17 Tryz.results17 (by simp) (by kernel_rfl) ?_
  simp [List.replicate]
  refine W_loop (VfI K l) l.length ?_ ?_
  · refine ⟨_, _, ?_, .mk 0 (by omega) [] (by simp) _ rfl⟩
    exact View.virt 38 rfl (Pw.at_ (by simp [List.replicate])).2
  rintro _ _ _ ⟨i, hi, C, hC, m, hm⟩
  have hCf : Fits C := fun x hx => by rw [hC] at hx; exact hf x (List.mem_of_mem_take (List.mem_filter.1 hx).1)
  have hCl : C.length ≤ 39 := by
    have := List.length_filter_le (vfy K) (l.take i)
    rw [← hC, List.length_take] at this
    omega
  have hfl := flS_len hCf
  simp [List.replicate, -W_cond]
  by_cases hlt : i < l.length
  · obtain ⟨s, hx⟩ : ∃ s, l[i]? = some s := ⟨_, List.getElem?_eq_getElem hlt⟩
    have hfs := hf s (List.mem_of_getElem? hx)
    have hss := hs s (List.mem_of_getElem? hx)
    have a1 := sC_len hfs
    have a4 := take_sC hfs
    refine W_ifT (by simp [hlt]) ?_
    simp [hx, a1, a4, agg_sC, -W_cond]
    refine (verifies_any K s hK hKl hfs hss).use (by simp) ?_
    simp [-W_cond]
    by_cases hv : vfy K s = true
    · refine W_ifT (by simp [hv]) ?_
      simp [a1, a4, agg_sC, hfl]
      have h1 : (l.take (i + 1)).filter (vfy K) = C ++ [s] := by rw [List.take_add_one, hx, List.filter_append, ← hC]; simp [hv]
      have := VfI.mk (K := K) (l := l) (i + 1) (by omega) (C ++ [s]) h1.symm _ rfl
      rw [show flat ((C ++ [s]).map sA) = flat (C.map sA) ++ sC s by simp [flat], List.length_append, List.length_singleton] at this
      refine ⟨by omega, by omega, _, ?_, _, _, View.renum [3] (by simp) ?_ ?_, this⟩
      · omega
      · simp [List.take_of_length_le (Nat.le_of_eq hfl)]
        rintro a (h | h)
        · exact flS_bd C a h
        · exact sC_bd s a h
      · simp [List.replicate]
    · refine W_ifF (by simp [hv]) ?_
      simp
      have h1 : (l.take (i + 1)).filter (vfy K) = C := by rw [List.take_add_one, hx, List.filter_append, ← hC]; simp [hv]
      refine ⟨by omega, _, ?_, _, _, View.renum [0] (by simp) ?_ ?_, VfI.mk (K := K) (l := l) (i + 1) (by omega) C h1.symm _ rfl⟩
      · omega
      · simp
        exact flS_bd C
      · simp [List.replicate]
  · obtain rfl : i = l.length := by omega
    refine W_ifF (by simp) ?_
    simp
    refine PCall.freeze (id := 0) (args' := [.ls 23 (C.map sA)]) rfl ?_ ?_
    · simp
      refine .own (fun e he => by obtain ⟨x, h, rfl⟩ := List.mem_map.1 he; exact sC_len (hCf x h)) (by simp) ?_
      rw [List.drop_zero, List.take_of_length_le (Nat.le_of_eq hfl)]
    rw [List.take_length] at hC
    have hsC : ∀ s ∈ C, s.sig.length ≤ 100000 := fun x hx => by rw [hC] at hx; exact hs x (List.mem_filter.1 hx).1
    refine (Canonical_any C hCf hCl hsC).use (by simp) ?_
    simp [vfdS, hC]
end
end Go.Proofs.YthknobbilcolnaaGreat
