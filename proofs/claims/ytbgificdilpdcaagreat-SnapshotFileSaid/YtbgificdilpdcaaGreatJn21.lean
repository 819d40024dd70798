/- The order of texts, sorting and striking repetitions on plain lists. No condition. slices.SortFunc of texts. Conditions: sizes. Striking repetitions, on plain lists. No condition. slices.CompactFunc of texts. Conditions: sizes. -/
import Derived.Test.YtbgificdilpdcaaGreatJn1
import Derived.Test.YtbgificdilpdcaaGreatClo
import Derived.Test.YtbgificdilpdcaaGreatJn20
import Derived.Test.YtbgificdilpdcaaGreatLay2
namespace Go.Proofs.YtbgificdilpdcaaGreat
section
open Go

theorem lessT_irrefl : ∀ a : List UInt8, lessT a a = false
  | [] => rfl
  | x :: l => by
    have ih := lessT_irrefl l
    unfold lessT at ih ⊢
    simp [Op.bytesLess, ih]
theorem lessT_trans : ∀ a b c : List UInt8, lessT a b = true → lessT b c = true → lessT a c = true
  | _, [], _, h, _ => by simp [lessT, Op.bytesLess] at h
  | _, _ :: _, [], _, h => by simp [lessT, Op.bytesLess] at h
  | [], _ :: _, _ :: _, _, _ => rfl
  | x :: l, y :: m, z :: n, h1, h2 => by
    have ih := lessT_trans l m n
    unfold lessT at ih h1 h2 ⊢
    simp only [Op.bytesLess, Bool.or_eq_true, decide_eq_true_eq, Bool.and_eq_true, beq_iff_eq] at h1 h2 ⊢
    rcases h1 with h1 | ⟨rfl, h1⟩
    · rcases h2 with h2 | ⟨rfl, h2⟩
      · exact .inl (UInt8.lt_trans h1 h2)
      · exact .inl h1
    · rcases h2 with h2 | ⟨rfl, h2⟩
      · exact .inl h2
      · exact .inr ⟨rfl, ih h1 h2⟩
theorem lessT_total : ∀ a b : List UInt8, lessT a b = false → lessT b a = false → a = b
  | [], [], _, _ => rfl
  | [], _ :: _, h, _ => by simp [lessT, Op.bytesLess] at h
  | _ :: _, [], _, h => by simp [lessT, Op.bytesLess] at h
  | x :: l, y :: m, h1, h2 => by
    have ih := lessT_total l m
    unfold lessT at ih h1 h2
    simp only [Op.bytesLess, Bool.or_eq_false_iff, decide_eq_false_iff_not, Bool.and_eq_false_imp, beq_iff_eq] at h1 h2
    have e : x = y := by
      have a1 := h1.1
      have a2 := h2.1
      rw [UInt8.lt_iff_toNat_lt] at a1 a2
      exact UInt8.toNat.inj (by omega)
    subst e
    rw [ih (h1.2 rfl) (h2.2 rfl)]
theorem lessT_ntrans (a b c : List UInt8) (h1 : lessT a b = false) (h2 : lessT b c = false) : lessT a c = false := by
  cases h : lessT a c with
  | false => rfl
  | true =>
    exfalso
    cases h3 : lessT b a with
    | true => rw [lessT_trans b a c h3 h] at h2; cases h2
    | false =>
      have := lessT_total a b h1 h3
      subst this
      rw [h] at h2; cases h2
theorem lessT_asymm {a b : List UInt8} (h : lessT a b = true) : lessT b a = false := by
  cases h1 : lessT b a with
  | false => rfl
  | true => have := lessT_trans a b a h h1; rw [lessT_irrefl] at this; cases this

/-! ### one order, any type -/
section
variable {α : Type} (lt : α → α → Bool)
def insL (x : α) : List α → List α
  | [] => [x]
  | y :: l => if lt y x then y :: insL x l else x :: y :: l
/-- The list in ascending order. -/
def sortL : List α → List α
  | [] => []
  | x :: l => insL lt x (sortL l)
def AscL (l : List α) : Prop := l.Pairwise (fun a b => lt b a = false)
variable {lt}
theorem insL_perm (x : α) : ∀ l : List α, (insL lt x l).Perm (x :: l)
  | [] => List.Perm.refl _
  | y :: l => by
    unfold insL
    split
    · exact ((insL_perm x l).cons y).trans (List.Perm.swap x y l)
    · exact List.Perm.refl _
theorem sortL_perm : ∀ l : List α, (sortL lt l).Perm l
  | [] => List.Perm.refl _
  | x :: l => (insL_perm x (sortL lt l)).trans ((sortL_perm l).cons x)
theorem insL_asc (hs : ∀ a b, lt a b = true → lt b a = false) (ht : ∀ a b c, lt a b = false → lt b c = false → lt a c = false) (x : α) : ∀ l : List α, AscL lt l → AscL lt (insL lt x l)
  | [], _ => by simp [insL, AscL]
  | y :: l, h => by
    unfold insL
    unfold AscL at *
    rw [List.pairwise_cons] at h
    by_cases hc : lt y x = true
    · rw [if_pos hc, List.pairwise_cons]
      refine ⟨fun z hz => ?_, insL_asc hs ht x l h.2⟩
      have := (insL_perm x l).mem_iff.1 hz
      rcases List.mem_cons.1 this with rfl | hz'
      · exact hs _ _ hc
      · exact h.1 z hz'
    · rw [if_neg hc, List.pairwise_cons]
      have hxy : lt y x = false := by simpa using hc
      refine ⟨fun z hz => ?_, List.pairwise_cons.2 h⟩
      rcases List.mem_cons.1 hz with rfl | hz'
      · exact hxy
      · exact ht _ _ _ (h.1 z hz') hxy
theorem sortL_asc (hs : ∀ a b, lt a b = true → lt b a = false) (ht : ∀ a b c, lt a b = false → lt b c = false → lt a c = false) : ∀ l : List α, AscL lt (sortL lt l)
  | [] => by simp [sortL, AscL]
  | x :: l => insL_asc hs ht x _ (sortL_asc hs ht l)
theorem asc_unique (hto : ∀ a b, lt a b = false → lt b a = false → a = b) : ∀ l m : List α, AscL lt l → AscL lt m → l.Perm m → l = m
  | [], m, _, _, hp => (List.Perm.nil_eq hp)
  | x :: l, [], _, _, hp => by have := hp.length_eq; simp at this
  | x :: l, y :: m, h1, h2, hp => by
    unfold AscL at h1 h2
    rw [List.pairwise_cons] at h1 h2
    have e : x = y := by
      have hx : x ∈ y :: m := hp.mem_iff.1 (by simp)
      have hy : y ∈ x :: l := hp.mem_iff.2 (by simp)
      rcases List.mem_cons.1 hx with h | h
      · exact h
      · rcases List.mem_cons.1 hy with h' | h'
        · exact h'.symm
        · exact hto _ _ (h2.1 x h) (h1.1 y h') |>.symm ▸ rfl
    subst e
    rw [asc_unique hto l m h1.2 h2.2 (List.Perm.cons_inv hp)]
end
theorem sortT_unique {l m : List (List UInt8)} (h1 : AscL lessT m) (hp : m.Perm l) : m = sortL lessT l :=
  asc_unique lessT_total _ _ h1 (sortL_asc (fun _ _ h => lessT_asymm h) lessT_ntrans l) (hp.trans (sortL_perm l).symm)

/-- A list without neighbours that are equal. -/
def compL {α : Type} [DecidableEq α] : List α → List α
  | a :: b :: l => if a = b then compL (b :: l) else a :: compL (b :: l)
  | l => l
end

section
open Go.RowKit Go.Shelf Go.Sort

/-- A value that reads as a text, as long as only blocks of M are written. -/
abbrev TxE (M : Nat → Prop) (w : World) : Type := { p : Value × List UInt8 // RdF M w 1 p.1 p.2.length (p.2.map byteV) }
instance (M : Nat → Prop) (w : World) : Inhabited (TxE M w) := ⟨⟨(.slice none 0 0, []), RdF.nil _ _ _⟩⟩
abbrev encE {M : Nat → Prop} {w : World} (x : TxE M w) : Value := x.1.1
abbrev cmpE {M : Nat → Prop} {w : World} (x y : TxE M w) : Int := cmpB x.1.2 y.1.2
theorem ltE {M : Nat → Prop} {w : World} (x y : TxE M w) : ltOf cmpE x y = lessT x.1.2 y.1.2 := cmpB_lt _ _
theorem swoE {M : Nat → Prop} {w : World} : SWO (ltOf (cmpE (M := M) (w := w))) where
  irrefl x := by rw [ltE]; exact lessT_irrefl _
  trans x y z h1 h2 := by rw [ltE] at *; exact lessT_trans _ _ _ h1 h2
  ntrans x y z h1 h2 := by rw [ltE] at *; exact lessT_ntrans _ _ _ h1 h2
theorem oneE {M : Nat → Prop} {w : World} : OneCell (encE (M := M) (w := w)) := fun x => by
  obtain ⟨A, c, e, -⟩ := x.2.now.slice
  show x.1.1.oneCell' = true
  rw [e]
  rfl
theorem upd_sort {α : Type} [Inhabited α] (enc : α → Value) (w : World) (blk off m : Nat) (dk : Array α) (os : Array Obj) : Upd (fun k => k = blk) w (sortWorld enc w blk off m dk os) := by
  refine ⟨rfl, rfl, rfl, ?_, fun k hk hn => ?_⟩
  · show w.heap.size ≤ (w.heap.modify blk _ ++ os).size
    rw [Array.size_append, Array.size_modify]
    omega
  · show (w.heap.modify blk _ ++ os)[k]? = w.heap[k]?
    rw [Array.getElem?_append_left (by rw [Array.size_modify]; exact hk), Array.getElem?_modify, if_neg (fun e => hn e.symm)]
theorem blk_sort {α : Type} [Inhabited α] (enc : α → Value) {w : World} {blk : Nat} {t : TypeId} {cur : Array Value} (h : Blk w blk t cur) (off m : Nat) (dk : Array α) (os : Array Obj) : Blk (sortWorld enc w blk off m dk os) blk t (putCells enc off dk cur) := by
  show (w.heap.modify blk _ ++ os)[blk]? = _
  rw [Array.getElem?_append_left (by rw [Array.size_modify]; exact h.lt), Array.getElem?_modify, if_pos rfl]
  have h' : w.heap[blk]? = some (.cells cur t (0, 0)) := h
  rw [h']
  rfl
def SortTPost (w : World) (M : Nat → Prop) (A : Option Addr) (c : Nat) (l : List (List UInt8)) (e : Ending) (w' : World) : Prop := e = .returned (.tuple #[]) ∧ TxM w' M A c (sortL lessT l) ∧ Upd (OwnB (.slice A l.length c)) w w'
theorem sortL_len {α : Type} {lt : α → α → Bool} (l : List α) : (sortL lt l).length = l.length := (sortL_perm l).length_eq
theorem bCmpReads {M : Nat → Prop} {w : World} {blk off size : Nat} (hM : M blk) : CmpReads Tryz.prog 72 #[] (encE (M := M) (w := w)) cmpE blk off size w := by
  intro m os dk _ x y
  have hu : Upd M w (sortWorld encE w blk off m dk os) := (upd_sort encE w blk off m dk os).mono (fun k _ e => by rw [show k = blk from e]; exact hM)
  refine (bCompare_any (x.2.upd hu).now (y.2.upd hu).now).mono ?_
  rintro e w' ⟨rfl, rfl⟩
  exact ⟨rfl, 0, rfl⟩
set_option maxRecDepth 100000 in
theorem SortT_any {w : World} {M : Nat → Prop} {A : Option Addr} {c : Nat} {l : List (List UInt8)} (hT : TxM w M A c l) (hM : ∀ k, OwnB (.slice A l.length c) k → M k) (hs : l.length ≤ 100000000) : Calls Tryz.prog 71 #[.slice A l.length c, fnV 72] w (SortTPost w M A c l) := by
  obtain ⟨us, e1, e2, e0, e3⟩ := hT
  rcases Nat.eq_zero_or_pos l.length with h0 | h0
  · have hl : l = [] := List.eq_nil_of_length_eq_zero h0
    subst hl
    have hc := AnyF.slices_SortFunc_none (P := Tryz.prog) (ρ := Tryz.sortTexts_ren) { Tryz.sortTexts with } A c (fnV 72) w
    refine Calls.mono (show Calls Tryz.prog 71 _ _ _ from hc) ?_
    rintro e w' ⟨rfl, rfl⟩
    exact ⟨rfl, ⟨us, e1, e2, e0, e3⟩, Upd.refl _ _⟩
  · rcases e2.2 with ⟨_, hz⟩ | ⟨g, cap, cur, hv, hb, hn, hcm, hcs, hx⟩
    · omega
    injection hv with hA _ hc
    subst hA
    subst hc
    have hMg : M g := hM g (by simp [OwnB, Value.ownBlock])
    have hsz : c * 1 ≤ cur.size := hcs
    obtain ⟨r, hr, hrx⟩ := list_choose (R := fun (i : Nat) (y : TxE M w) => us[i]? = some y.1.1 ∧ l[i]? = some y.1.2) (List.range l.length) (fun i hi => by
      have hi' : i < l.length := List.mem_range.1 hi
      obtain ⟨u, hu1, hu2⟩ := e3 i _ (List.getElem?_eq_getElem hi')
      exact ⟨⟨(u, l[i]), hu2⟩, hu1, List.getElem?_eq_getElem hi'⟩)
    rw [List.length_range] at hr
    have hri : ∀ i (y : TxE M w), r[i]? = some y → us[i]? = some y.1.1 ∧ l[i]? = some y.1.2 := fun i y hy => by
      have hi : i < l.length := by rw [← hr]; exact (List.getElem?_eq_some_iff.1 hy).1
      obtain ⟨z, hz, hz2⟩ := hrx i i (by rw [List.getElem?_range hi])
      rw [hy] at hz
      rw [Option.some.inj hz]
      exact hz2
    have hrl : r.map (·.1.2) = l := by
      apply List.ext_getElem?
      intro i
      rw [List.getElem?_map]
      cases hc : r[i]? with
      | none =>
        have : l[i]? = none := by rw [List.getElem?_eq_none_iff] at hc ⊢; omega
        rw [this]; rfl
      | some y => rw [(hri i y hc).2]; rfl
    have hds : r.toArray.size = l.length := by simp [hr]
    have hcell : ∀ j u, us[j]? = some u → cur[j]? = some u := fun j u hu => by
      rw [← hx, List.getElem?_take] at hu
      split at hu
      · simpa using hu
      · cases hu
    have hH : Holds encE w g 0 r.toArray := by
      intro j hj
      have hj' : j < r.length := by simpa using hj
      refine ⟨?_, hb.frozen _⟩
      rw [Nat.zero_add, hb.cell]
      have h1 := (hri j _ (List.getElem?_eq_getElem hj')).1
      rw [hcell _ _ h1]
      have : r.toArray[j]! = r[j] := by rw [getElem!_pos _ j hj]; simp
      rw [this]
    have hcon := Any.slices_SortFunc (P := Tryz.prog) (ρ := Tryz.sortTexts_ren) Tryz.sortTexts (encE (M := M) (w := w)) oneE cmpE swoE 72 #[] g 0 c r.toArray w (enters_of Tryz.func72 (by kernel_rfl) rfl) (bCmpReads hMg).lays hH hb.lt (by rw [hds]; omega)
    rw [hds] at hcon
    refine Calls.mono (show Calls Tryz.prog 71 #[.slice (some ⟨g, 0, none⟩) l.length c, fnV 72] w _ from hcon) ?_
    rintro e w' ⟨rfl, d', n, os, ⟨p1, _, p3⟩, hsrt, rfl⟩
    have hd' : d'.size = l.length := by rw [p1, hds]
    have hperm : d'.toList.Perm r := by
      have q1 : d'.extract 0 l.length = d' := by rw [← hd']; simp
      have q2 : r.toArray.extract 0 l.length = r.toArray := by rw [← hds]; simp
      rw [q1, q2] at p3
      exact p3
    have hl' : d'.toList.map (·.1.2) = sortL lessT l := by
      refine sortT_unique ?_ (by rw [← hrl]; exact hperm.map _)
      unfold AscL
      rw [List.pairwise_map, List.pairwise_iff_getElem]
      intro i j hi hj hij
      have := hsrt i j (Nat.zero_le _) hij (by rw [← hd']; simpa using hj)
      rw [ltE] at this
      have f1 : d'[i]! = d'.toList[i] := by rw [getElem!_pos _ i (by simpa using hi)]; simp
      have f2 : d'[j]! = d'.toList[j] := by rw [getElem!_pos _ j (by simpa using hj)]; simp
      rw [f1, f2] at this
      exact this
    have hup := upd_sort (encE (M := M) (w := w)) w g 0 n d' os
    have hupM : Upd M w (sortWorld encE w g 0 n d' os) := hup.mono (fun k _ e => by rw [show k = g from e]; exact hMg)
    refine ⟨rfl, ⟨d'.toList.map (·.1.1), by simp [sortL_len, hd'], ?_, ?_, fun i s hs' => ?_⟩, hup.mono (fun k _ e => by rw [show k = g from e]; simp [OwnB, Value.ownBlock])⟩
    · rw [sortL_len]
      refine ⟨by simp [hd'], .inr ⟨g, c, _, rfl, blk_sort encE hb 0 n d' os, hn, hcm, ?_, ?_⟩⟩
      · simp only [putCells, Array.size_mapIdx]
        exact hcs
      · apply List.ext_getElem?
        intro i
        rw [List.getElem?_take, List.getElem?_map]
        by_cases hi : i < l.length
        · rw [if_pos (by omega)]
          simp only [putCells, Array.getElem?_toList, Array.getElem?_mapIdx]
          have hic : i < cur.size := by omega
          rw [Array.getElem?_eq_getElem hic]
          simp only [Option.map_some]
          rw [if_pos (by omega), Nat.sub_zero, Array.getElem?_eq_getElem (by omega)]
          simp only [Option.map_some]
          rw [getElem!_pos d' i (by omega)]
        · rw [if_neg (by omega), Array.getElem?_toList, Array.getElem?_eq_none (by omega)]
          rfl
    · intro u hu
      obtain ⟨x, _, rfl⟩ := List.mem_map.1 hu
      exact oneE x
    · rw [← hl', List.getElem?_map] at hs'
      obtain ⟨y, hy, rfl⟩ := Option.map_eq_some_iff.1 hs'
      exact ⟨y.1.1, by rw [List.getElem?_map, hy]; rfl, y.2.upd hupM⟩
end

section
open Go
theorem take_two {α : Type} {l : List α} {k : Nat} {a b : α} (h1 : l[k]? = some a) (h2 : l[k + 1]? = some b) : l.take (k + 1 + 1) = l.take k ++ [a] ++ [b] := by
  obtain ⟨x1, y1⟩ := List.getElem?_eq_some_iff.1 h1
  obtain ⟨x2, y2⟩ := List.getElem?_eq_some_iff.1 h2
  rw [List.take_succ_eq_append_getElem x2, List.take_succ_eq_append_getElem x1, y1, y2]
theorem take_one {α : Type} {l : List α} {k : Nat} {a : α} (h1 : l[k]? = some a) : l.take (k + 1) = l.take k ++ [a] := by
  obtain ⟨x1, y1⟩ := List.getElem?_eq_some_iff.1 h1
  rw [List.take_succ_eq_append_getElem x1, y1]
section
variable {α : Type} [DecidableEq α]
theorem compL_two (a b : α) (l : List α) : compL (a :: b :: l) = if a = b then compL (b :: l) else a :: compL (b :: l) := by rw [compL]
theorem compL_snoc : ∀ (m : List α) (a b : α), compL (m ++ [a] ++ [b]) = if a = b then compL (m ++ [a]) else compL (m ++ [a]) ++ [b]
  | [], a, b => by
    simp only [List.nil_append, List.singleton_append]
    rw [compL_two]
    split
    · next h => rw [h]
    · rfl
  | [x], a, b => by
    have ih := compL_snoc [] a b
    simp only [List.nil_append, List.cons_append] at ih ⊢
    rw [compL_two x a [b], compL_two x a [], ih]
    by_cases h1 : x = a
    · simp only [if_pos h1]
    · simp only [if_neg h1]
      by_cases h2 : a = b
      · simp only [if_pos h2]
      · simp only [if_neg h2, List.cons_append]
  | x :: y :: m, a, b => by
    have ih := compL_snoc (y :: m) a b
    simp only [List.cons_append] at ih ⊢
    rw [compL_two x y (m ++ [a] ++ [b]), compL_two x y (m ++ [a]), ih]
    by_cases h1 : x = y
    · simp only [if_pos h1]
    · simp only [if_neg h1]
      by_cases h2 : a = b
      · simp only [if_pos h2]
      · simp only [if_neg h2, List.cons_append]
/-- One element more. -/
theorem comp_next {l : List α} {k : Nat} {a b : α} (h1 : l[k]? = some a) (h2 : l[k + 1]? = some b) : compL (l.take (k + 1 + 1)) = if a = b then compL (l.take (k + 1)) else compL (l.take (k + 1)) ++ [b] := by
  rw [take_two h1 h2, compL_snoc, take_one h1]
theorem comp_one (l : List α) : compL (l.take 1) = l.take 1 := by
  cases l <;> rfl
theorem comp_two {l : List α} {k : Nat} {a b : α} (h1 : l[k]? = some a) (h2 : l[k + 1]? = some b) (hne : a ≠ b) (h : compL (l.take (k + 1)) = l.take (k + 1)) : compL (l.take (k + 1 + 1)) = l.take (k + 1 + 1) := by
  rw [comp_next h1 h2, if_neg hne, h, take_two h1 h2, take_one h1]
theorem comp_small {l : List α} (h : l.length < 2) : compL l = l := by
  match l, h with
  | [], _ => rfl
  | [a], _ => rfl
theorem comp_len : ∀ l : List α, (compL l).length ≤ l.length
  | [] => Nat.le_refl _
  | [a] => Nat.le_refl _
  | a :: b :: l => by
    have ih := comp_len (b :: l)
    rw [compL_two]
    split
    · simp only [List.length_cons] at ih ⊢; omega
    · simp only [List.length_cons] at ih ⊢; omega
end
end

section
open Go.RowKit

def CompTPost (w : World) (M : Nat → Prop) (A : Option Addr) (c : Nat) (l : List (List UInt8)) (e : Ending) (w' : World) : Prop := e = .returned (.slice A (compL l).length c) ∧ TxM w' M A c (compL l) ∧ Upd (OwnB (.slice A l.length c)) w w'
/-- The block while it is compacted: the first cells hold what was kept, the cells from p on are as they were. -/
structure CpSt (w : World) (M : Nat → Prop) (g : Nat) (us : List Value) (l : List (List UInt8)) (size p q : Nat) (cur : Array Value) : Prop where
  size : cur.size = size
  len : (compL (l.take (p + 1))).length = q
  le : q ≤ p
  cells : ∀ (i : Nat) t, (compL (l.take (p + 1)))[i]? = some t → ∃ u, cur[i]? = some u ∧ u.oneCell' = true ∧ RdF M w 1 u t.length (t.map byteV)
  rest : ∀ i, p ≤ i → i < l.length → cur[i]? = us[i]?
def Cp1Rel (w : World) (l : List (List UInt8)) (i : Value) (wr : World) : Prop := ∃ k : Nat, i = .int .i64 ((k : Int) + 1) ∧ k + 1 ≤ l.length ∧ compL (l.take (k + 1)) = l.take (k + 1) ∧ Upd NoF w wr
def Cp2Rel (w : World) (M : Nat → Prop) (g : Nat) (us : List Value) (l : List (List UInt8)) (size k0 : Nat) (x i : Value) (wr : World) : Prop :=
  ∃ (j q : Nat) (cur : Array Value), x = .int .i64 (q : Int) ∧ i = .int .i64 ((j : Int) + 1) ∧ k0 + j + 1 ≤ l.length ∧ CpSt w M g us l size (k0 + j) q cur ∧ Blk wr g 28 cur ∧ Upd (fun k => k = g) w wr
section
variable {w : World} {M : Nat → Prop} {g : Nat} {us : List Value} {l : List (List UInt8)} {size p q : Nat} {cur : Array Value} {s t : List UInt8} {u : Value}
theorem CpSt.skip (h : CpSt w M g us l size p q cur) (h1 : l[p]? = some s) (h2 : l[p + 1]? = some t) (he : s = t) : CpSt w M g us l size (p + 1) q cur := by
  have e : compL (l.take (p + 1 + 1)) = compL (l.take (p + 1)) := by rw [comp_next h1 h2, if_pos he]
  exact ⟨h.size, by rw [e]; exact h.len, Nat.le_succ_of_le h.le, by rw [e]; exact h.cells, fun i hi => h.rest i (by omega)⟩
theorem CpSt.keep (h : CpSt w M g us l size p q cur) (h1 : l[p]? = some s) (h2 : l[p + 1]? = some t) (he : s ≠ t) (hu : u.oneCell' = true) (hr : RdF M w 1 u t.length (t.map byteV)) (hs : l.length ≤ size) : CpSt w M g us l size (p + 1) (q + 1) (cur.setIfInBounds q u) := by
  have e : compL (l.take (p + 1 + 1)) = compL (l.take (p + 1)) ++ [t] := by rw [comp_next h1 h2, if_neg he]
  have hlt : p + 1 < l.length := (List.getElem?_eq_some_iff.1 h2).1
  have hq := h.le
  have hsz := h.size
  have hln := h.len
  refine ⟨by simp [hsz], by rw [e]; simp [hln], by omega, fun i x hx => ?_, fun i hi hi2 => ?_⟩
  · rw [e] at hx
    rcases Nat.lt_or_ge i q with hlt' | hge
    · rw [List.getElem?_append_left (by omega)] at hx
      obtain ⟨y, a, b⟩ := h.cells i x hx
      refine ⟨y, ?_, b⟩
      rw [Array.getElem?_setIfInBounds, if_neg (by omega)]
      exact a
    · rw [List.getElem?_append_right (by omega)] at hx
      have h0 : i - (compL (l.take (p + 1))).length = 0 := by have := (List.getElem?_eq_some_iff.1 hx).1; simp at this; omega
      rw [h0] at hx
      simp at hx
      subst hx
      have hi : i = q := by omega
      subst hi
      refine ⟨u, ?_, hu, hr⟩
      rw [Array.getElem?_setIfInBounds, if_pos rfl, if_pos (by omega)]
  · rw [Array.getElem?_setIfInBounds, if_neg (by omega)]
    exact h.rest i (by omega) hi2
end
theorem run_clear_t {w : World} {g b n : Nat} (hn : 0 < n) {cur : Array Value} (hb : Blk w g 28 cur) (hs : b + n ≤ cur.size) : ∃ w', (∀ ty c, (Builtin.clear_ #[23] ty #[.slice (some ⟨g, b, none⟩) n c]).run Tryz.prog w = .ok (.tuple #[]) w') ∧ Blk w' g 28 (cur.toList.take b ++ List.replicate n (Value.slice none 0 0) ++ cur.toList.drop (b + n)).toArray ∧ Upd (fun k => k = g) w w' :=
  ⟨_, fun ty c => run_clear (P := Tryz.prog) w 23 28 ty (.slice none 0 0) Tryz.underlying23 (fun w => by kernel_rfl) rfl rfl g b n c hn cur hb hs, hb.row _, (Upd.refl (fun k => k = g) w).setRow (.inl rfl) _⟩


set_option maxRecDepth 100000 in
set_option maxHeartbeats 16000000 in
theorem CompactT_any {w : World} {M : Nat → Prop} {A : Option Addr} {c : Nat} {l : List (List UInt8)} (hT : TxM w M A c l) (hM : ∀ k, OwnB (.slice A l.length c) k → M k) (hs : l.length ≤ 100000000) : Calls Tryz.prog 74 #[.slice A l.length c, fnV 65] w (CompTPost w M A c l) := by
  obtain ⟨us, e1, e2, e0, e3⟩ := hT
  rcases Nat.lt_or_ge l.length 2 with h2 | h2
  · have HC := Lib.hid (comp_small h2)
    have HTX := Lib.hid (show TxM w M A c l from ⟨us, e1, e2, e0, e3⟩)
    obtain ⟨n, hn⟩ : ∃ n, l.length = n := ⟨_, rfl⟩
    have HN := Lib.hid hn
    rw [hn] at h2 hs ⊢
    have t0 : decide ((n : Int) < 2) = true := by simp; omega
    have t0' : decide (n < 2) = true := by simp; omega
    unfold fnV
    clear e1 e2 e0 e3 hM hn
    go_enter Tryz.func74, Tryz.ntmps74
    go_wp2
    go_ret
    unfold CompTPost
    rw [HC.out]
    exact ⟨by rw [HN.out]; rfl, HTX.out, Upd.refl _ _⟩
  rcases e2.2 with ⟨_, hz⟩ | ⟨g, cap, cur, hv, hb, hnc, hcm, hcs, hx⟩
  · omega
  injection hv with hA _ hc
  subst hA
  subst hc
  have hMg : M g := hM g (by simp [OwnB, Value.ownBlock])
  have hcell : ∀ j u, us[j]? = some u → cur[j]? = some u := fun j u hu => by
    rw [← hx, List.getElem?_take] at hu
    split at hu
    · simpa using hu
    · cases hu
  have HCE := Lib.hid hcell
  have H3 := Lib.hid e3
  have H0 := Lib.hid e0
  have HMG := Lib.hid hMg
  have HOW := Lib.hid e2
  have HTX := Lib.hid (show TxM w M (some ⟨g, 0, none⟩) c l from ⟨us, e1, e2, e0, e3⟩)
  have HB := Lib.hid hb
  have HCS := Lib.hid (show c ≤ cur.size by omega)
  have HUL := Lib.hid e1
  have hcm' : c ≤ 9223372036854775807 := hcm
  obtain ⟨n, hn⟩ : ∃ n, l.length = n := ⟨_, rfl⟩
  have HN := Lib.hid hn
  rw [hn] at h2 hs hnc ⊢
  have t0 : decide ((n : Int) < 2) = false := by simp; omega
  have t0' : decide (n < 2) = false := by simp; omega
  clear e1 e2 e0 e3 hM hb hx hcs hcell hMg hn hcm
  go_enter Tryz.func74, Tryz.ntmps74
  go_wp2
  clear t0 t0'
  go_loopw [5] (fun i wr => Cp1Rel w l i wr) (fun i _ => n - (intOf i).toNat)
  case atStart => exact ⟨0, rfl, by have := HN.out; omega, comp_one l, Upd.refl _ _⟩
  case round =>
    obtain ⟨k, rfl, hk, hcp, hu⟩ := hrel
    have HCP := Lib.hid hcp
    have HU := Lib.hid hu
    have hnn := HN.out
    by_cases hlt : k + 1 < n
    · obtain ⟨s, hsx⟩ : ∃ x, l[k]? = some x := ⟨_, List.getElem?_eq_getElem (by omega)⟩
      obtain ⟨t, htx⟩ : ∃ x, l[k + 1]? = some x := ⟨_, List.getElem?_eq_getElem (by omega)⟩
      obtain ⟨us', hs1, hs2⟩ := H3.out k s hsx
      obtain ⟨ut', ht1, ht2⟩ := H3.out (k + 1) t htx
      obtain ⟨Au, cu, rfl, -⟩ := hs2.now.slice
      obtain ⟨Av, cv, rfl, -⟩ := ht2.now.slice
      have t1 : decide ((k : Int) + 1 < (n : Int)) = true := by simp; omega
      have XS := Lib.hid (show ∀ wq, Upd NoF wr.drew wq → wq.cell? ⟨g, k, none⟩ = some (.slice Au s.length cu) from fun wq hq => ((hq.blk (Blk.drew (hu.blk HB.out (fun f => f))) (fun f => f)).cell k).trans (HCE.out k _ hs1))
      have XT := Lib.hid (show ∀ wq, Upd NoF wr.drew wq → wq.cell? ⟨g, k + 1, none⟩ = some (.slice Av t.length cv) from fun wq hq => ((hq.blk (Blk.drew (hu.blk HB.out (fun f => f))) (fun f => f)).cell (k + 1)).trans (HCE.out (k + 1) _ ht1))
      have CALL := Lib.hid (show ∀ wq, Upd NoF wr.drew wq → Calls Tryz.prog 65 #[.slice Av t.length cv, .slice Au s.length cu] wq (fun e w' => e = .returned (.bool (t == s)) ∧ w' = wq) from fun wq hq => by
        have h1 : Upd M w wq := ((hu.trans (((Upd.refl NoF wr).drew).trans hq (fun _ _ f => f)) (fun _ _ f => f))).mono (fun _ _ f => f.elim)
        exact bEqual_any (ht2 wq h1) (hs2 wq h1))
      have HSX := Lib.hid hsx
      have HTY := Lib.hid htx
      have HS2 := Lib.hid hs2
      have HT2 := Lib.hid ht2
      have HT1 := Lib.hid ht1
      clear hsx htx hs1 ht1 hs2 ht2 hu hcp hnn
      go_wp2_with fail
      refine wp_region_rgw (rgR [isV (fnV 65), isV (.slice (some ⟨g, 0, none⟩) n c), isV (.int .i64 ((k : Int) + 1)), isV (.pointer (some ⟨g, k + 1, none⟩)), isV (.slice Av t.length cv), isV (.slice (some ⟨g, 0, none⟩) n c), isV (.int .i64 ((k : Int) + 1)), isV (.int .i64 (k : Int)), isV (.pointer (some ⟨g, k, none⟩)), isV (.slice Au s.length cu), isV (.bool (t == s))]) (fun w w' => Upd NoF w w') (fun _ wq => Upd NoF wr.drew wq) (by kernel_rfl) (by kernel_rfl) (by kernel_rfl) (by rfl) (fun w => Upd.refl _ _) (rgR_keep (by
        intro p hp; simp only [List.mem_cons, List.not_mem_nil, or_false] at hp; rcases hp with rfl | rfl | rfl | rfl | rfl | rfl | rfl | rfl | rfl | rfl | rfl <;> first | exact stb_isV _ | exact stb_any)) (Upd.refl _ _) ?_ ?_
      · refine ⟨?_, ?_, ?_, ?_, ?_, ?_, ?_, ?_, ?_, ?_, ?_, trivial⟩
        · refine fun ρ w' L hW hLi hcl hd hdep hext hc hg hf => ?_
          rw [if_pos (show wantedR _ _ _ = true from rfl)]
          have e1 : ρ (.tmp 1) = fnV 65 := hext 1 (by kernel_rfl)
          clear hdep hext hcl
          have HW := Lib.hid hW
          clear hW
          unfold OpDone
          go_simp
          exact ⟨rfl, Upd.refl _ _, HW.out⟩
        · refine fun ρ w' L hW hLi hcl hd hdep hext hc hg hf => ?_
          rw [if_pos (show wantedR _ _ _ = true from rfl)]
          have e0 : ρ (.tmp 0) = .slice (some ⟨g, 0, none⟩) n c := hext 0 (by kernel_rfl)
          clear hdep hext hcl
          have HW := Lib.hid hW
          clear hW
          unfold OpDone
          go_simp
          exact ⟨rfl, Upd.refl _ _, HW.out⟩
        · refine fun ρ w' L hW hLi hcl hd hdep hext hc hg hf => ?_
          rw [if_pos (show wantedR _ _ _ = true from rfl)]
          have e5 : ρ (.tmp 5) = .int .i64 ((k : Int) + 1) := hext 5 (by kernel_rfl)
          clear hdep hext hcl
          have HW := Lib.hid hW
          clear hW
          unfold OpDone
          go_simp
          exact ⟨rfl, Upd.refl _ _, HW.out⟩
        · refine fun ρ w' L hW hLi hcl hd hdep hext hc hg hf => ?_
          rw [if_pos (show wantedR _ _ _ = true from rfl)]
          have e19 : ρ (.tmp 19) = .slice (some ⟨g, 0, none⟩) n c := hdep 1 _ rfl (by kernel_rfl)
          have e20 : ρ (.tmp 20) = .int .i64 ((k : Int) + 1) := hdep 2 _ rfl (by kernel_rfl)
          have q0 : (0 : Int) ≤ (k : Int) + 1 := by omega
          have q1 : (k : Int) + 1 < (n : Int) := by omega
          have q3 : ((k : Int) + 1).toNat = k + 1 := by omega
          have q2 : k + 1 < n := by omega
          clear hdep hext hcl
          have HW := Lib.hid hW
          clear hW
          unfold OpDone
          go_simp
          exact ⟨rfl, Upd.refl _ _, HW.out⟩
        · refine fun ρ w' L hW hLi hcl hd hdep hext hc hg hf => ?_
          rw [if_pos (show wantedR _ _ _ = true from rfl)]
          have e21 : ρ (.tmp 21) = .pointer (some ⟨g, k + 1, none⟩) := hdep 3 _ rfl (by kernel_rfl)
          have yy := XT.out w' hW
          clear hdep hext hcl
          have HW := Lib.hid hW
          clear hW
          unfold OpDone
          go_simp
          exact ⟨rfl, Upd.refl _ _, HW.out⟩
        · refine fun ρ w' L hW hLi hcl hd hdep hext hc hg hf => ?_
          rw [if_pos (show wantedR _ _ _ = true from rfl)]
          have e0 : ρ (.tmp 0) = .slice (some ⟨g, 0, none⟩) n c := hext 0 (by kernel_rfl)
          clear hdep hext hcl
          have HW := Lib.hid hW
          clear hW
          unfold OpDone
          go_simp
          exact ⟨rfl, Upd.refl _ _, HW.out⟩
        · refine fun ρ w' L hW hLi hcl hd hdep hext hc hg hf => ?_
          rw [if_pos (show wantedR _ _ _ = true from rfl)]
          have e5 : ρ (.tmp 5) = .int .i64 ((k : Int) + 1) := hext 5 (by kernel_rfl)
          clear hdep hext hcl
          have HW := Lib.hid hW
          clear hW
          unfold OpDone
          go_simp
          exact ⟨rfl, Upd.refl _ _, HW.out⟩
        · refine fun ρ w' L hW hLi hcl hd hdep hext hc hg hf => ?_
          rw [if_pos (show wantedR _ _ _ = true from rfl)]
          have e24 : ρ (.tmp 24) = .int .i64 ((k : Int) + 1) := hdep 6 _ rfl (by kernel_rfl)
          have ww : IntKind.i64.wrap (k : Int) = k := IntWalk.i64_in _ (by omega)
          clear hdep hext hcl
          have HW := Lib.hid hW
          clear hW
          unfold OpDone
          go_simp
          exact ⟨rfl, Upd.refl _ _, HW.out⟩
        · refine fun ρ w' L hW hLi hcl hd hdep hext hc hg hf => ?_
          rw [if_pos (show wantedR _ _ _ = true from rfl)]
          have e23 : ρ (.tmp 23) = .slice (some ⟨g, 0, none⟩) n c := hdep 5 _ rfl (by kernel_rfl)
          have e25 : ρ (.tmp 25) = .int .i64 (k : Int) := hdep 7 _ rfl (by kernel_rfl)
          have q0 : (0 : Int) ≤ (k : Int) := by omega
          have q1 : (k : Int) < (n : Int) := by omega
          have q2 : k < n := by omega
          clear hdep hext hcl
          have HW := Lib.hid hW
          clear hW
          unfold OpDone
          go_simp
          exact ⟨rfl, Upd.refl _ _, HW.out⟩
        · refine fun ρ w' L hW hLi hcl hd hdep hext hc hg hf => ?_
          rw [if_pos (show wantedR _ _ _ = true from rfl)]
          have e26 : ρ (.tmp 26) = .pointer (some ⟨g, k, none⟩) := hdep 8 _ rfl (by kernel_rfl)
          have yy := XS.out w' hW
          clear hdep hext hcl
          have HW := Lib.hid hW
          clear hW
          unfold OpDone
          go_simp
          exact ⟨rfl, Upd.refl _ _, HW.out⟩
        · refine fun ρ w' L hW hLi hcl hd hdep hext hc hg hf => ?_
          rw [if_pos (show wantedR _ _ _ = true from rfl)]
          have e18 : ρ (.tmp 18) = fnV 65 := hdep 0 _ rfl (by kernel_rfl)
          have e22 : ρ (.tmp 22) = .slice Av t.length cv := hdep 4 _ rfl (by kernel_rfl)
          have e27 : ρ (.tmp 27) = .slice Au s.length cu := hdep 9 _ rfl (by kernel_rfl)
          clear hdep hext
          have CL := Lib.hid (CALL.out w' hW)
          have HW := Lib.hid hW
          clear hW
          unfold OpDone
          unfold fnV at *
          go_simp
          refine CL.out.mono ?_
          rintro e w5 ⟨rfl, rfl⟩
          exact ⟨_, rfl, rfl, Upd.refl _ _, HW.out⟩
      intro vs W8 L8 hL8 hW8 hR
      have hv0 : vs 0 = fnV 65 := hR 0 _ rfl
      have hv1 : vs 1 = .slice (some ⟨g, 0, none⟩) n c := hR 1 _ rfl
      have hv2 : vs 2 = .int .i64 ((k : Int) + 1) := hR 2 _ rfl
      have hv3 : vs 3 = .pointer (some ⟨g, k + 1, none⟩) := hR 3 _ rfl
      have hv4 : vs 4 = .slice Av t.length cv := hR 4 _ rfl
      have hv5 : vs 5 = .slice (some ⟨g, 0, none⟩) n c := hR 5 _ rfl
      have hv6 : vs 6 = .int .i64 ((k : Int) + 1) := hR 6 _ rfl
      have hv7 : vs 7 = .int .i64 (k : Int) := hR 7 _ rfl
      have hv8 : vs 8 = .pointer (some ⟨g, k, none⟩) := hR 8 _ rfl
      have hv9 : vs 9 = .slice Au s.length cu := hR 9 _ rfl
      have hv10 : vs 10 = .bool (t == s) := hR 10 _ rfl
      simp only [putAll, Act.put, List.setIfInBounds_toArray, List.set_cons_zero, List.set_cons_succ, hv0, hv1, hv2, hv3, hv4, hv5, hv6, hv7, hv8, hv9, hv10]
      clear hR hv0 hv1 hv2 hv3 hv4 hv5 hv6 hv7 hv8 hv9 hv10
      have HU8 := Lib.hid (show Upd NoF w W8 from HU.out.trans (((Upd.refl NoF wr).drew).trans hW8 (fun _ _ f => f)) (fun _ _ f => f))
      clear hW8
      cases hst : (t == s) with
      | false =>
        have HNE := Lib.hid (show s ≠ t from fun e => by rw [e] at hst; simp at hst)
        clear hst
        go_wp2
        go_roundw
        case rel => exact ⟨k + 1, by go_num, by have := HN.out; omega, comp_two HSX.out HTY.out HNE.out HCP.out, HU8.out⟩
        case measure => simp [intOf]; omega
      | true =>
        have HEQ := Lib.hid (show s = t from (eq_of_beq hst).symm)
        clear hst
        obtain ⟨k0, hk0⟩ : ∃ x, x = k + 1 := ⟨_, rfl⟩
        have hk0i : (k : Int) + 1 = (k0 : Int) := by omega
        have hk0n : k0 < n := by omega
        have HK0 := Lib.hid hk0
        rw [hk0i]
        have z1 : (0 : Int) ≤ (k0 : Int) := by omega
        have z2 : (k0 : Int) ≤ (n : Int) := by omega
        have z3 : (k0 : Int) ≤ (c : Int) := by omega
        clear t1 hk0 hk0i hlt hk
        go_wp2
        obtain ⟨n2, hn2⟩ : ∃ x, n - k0 = x := ⟨_, rfl⟩
        obtain ⟨c2, hc2⟩ : ∃ x, c - k0 = x := ⟨_, rfl⟩
        rw [hn2, hc2]
        have hn2' : k0 + n2 = n := by omega
        have hc2' : k0 + c2 = c := by omega
        have HC0 := Lib.hid (show CpSt w M g us l cur.size (k0 + 0) k0 cur from by
          have hq := HK0.out
          have e : compL (l.take (k + 1 + 1)) = l.take (k + 1) := by rw [comp_next HSX.out HTY.out, if_pos HEQ.out, HCP.out]
          subst hq
          refine ⟨rfl, ?_, Nat.le_refl _, fun i x hx => ?_, fun i hi hi2 => ?_⟩
          · rw [Nat.add_zero, e, List.length_take]
            have := HN.out
            omega
          · rw [Nat.add_zero, e, List.getElem?_take] at hx
            split at hx
            · obtain ⟨u, h1, h2⟩ := H3.out i x hx
              exact ⟨u, HCE.out i u h1, H0.out u (List.mem_of_getElem? h1), h2⟩
            · cases hx
          · obtain ⟨u, hu⟩ : ∃ u, us[i]? = some u := ⟨_, List.getElem?_eq_getElem (by have := HUL.out; omega)⟩
            rw [hu, HCE.out i u hu])
        clear hn2 hc2 z1 z2 z3
        obtain ⟨wo, rfl⟩ : ∃ wo : World, wo = wr := ⟨_, rfl⟩
        go_loopw [5, 7] (fun x i wr => Cp2Rel w M g us l cur.size k0 x i wr) (fun _ i _ => n2 - (intOf i).toNat)
        case atStart => exact ⟨0, k0, cur, rfl, rfl, by have := HN.out; omega, HC0.out, HU8.out.blk HB.out (fun f => f), HU8.out.mono (fun _ _ f => f.elim)⟩
        case round =>
          clear XS XT CALL HS2 HT2 HT1 HSX HTY HEQ HCP HU HU8 HC0
          obtain ⟨j, q, cu1, rfl, rfl, hj, hst, hb1, hu⟩ := hrel
          have HST := Lib.hid hst
          have HB1 := Lib.hid hb1
          have HU := Lib.hid hu
          have hnn := HN.out
          have hqj : q ≤ k0 + j := hst.le
          by_cases hlt : j + 1 < n2
          · obtain ⟨s, hsx⟩ : ∃ x, l[k0 + j]? = some x := ⟨_, List.getElem?_eq_getElem (by omega)⟩
            obtain ⟨t, htx⟩ : ∃ x, l[k0 + j + 1]? = some x := ⟨_, List.getElem?_eq_getElem (by omega)⟩
            obtain ⟨us', hs1, hs2⟩ := H3.out (k0 + j) s hsx
            obtain ⟨ut', ht1, ht2⟩ := H3.out (k0 + j + 1) t htx
            obtain ⟨Au, cu, rfl, -⟩ := hs2.now.slice
            obtain ⟨Av, cv, rfl, -⟩ := ht2.now.slice
            have t1 : decide ((j : Int) + 1 < (n2 : Int)) = true := by simp; omega
            have XS := Lib.hid (show ∀ wq, Upd NoF wr.drew wq → wq.cell? ⟨g, k0 + j, none⟩ = some (.slice Au s.length cu) from fun wq hq => ((hq.blk (Blk.drew hb1) (fun f => f)).cell (k0 + j)).trans ((hst.rest _ (Nat.le_refl _) (by omega)).trans hs1))
            have XT := Lib.hid (show ∀ wq, Upd NoF wr.drew wq → wq.cell? ⟨g, k0 + (j + 1), none⟩ = some (.slice Av t.length cv) from fun wq hq => ((hq.blk (Blk.drew hb1) (fun f => f)).cell (k0 + (j + 1))).trans ((hst.rest _ (by omega) (by omega)).trans ht1))
            have CALL := Lib.hid (show ∀ wq, Upd NoF wr.drew wq → Calls Tryz.prog 65 #[.slice Av t.length cv, .slice Au s.length cu] wq (fun e w' => e = .returned (.bool (t == s)) ∧ w' = wq) from fun wq hq => by
              have h1 : Upd M w wq := (hu.mono (fun k _ e => by rw [show k = g from e]; exact HMG.out)).trans (((Upd.refl NoF wr).drew).trans hq (fun _ _ f => f)) (fun _ _ f => f.elim)
              exact bEqual_any (ht2 wq h1) (hs2 wq h1))
            have HSX := Lib.hid hsx
            have HTY := Lib.hid htx
            have HT2 := Lib.hid ht2
            clear hsx htx hs1 ht1 hs2 ht2 hu hst hb1 hnn
            go_wp2_with fail
            refine wp_region_rgw (rgR [isV (fnV 65), isV (.slice (some ⟨g, k0, none⟩) n2 c2), isV (.int .i64 ((j : Int) + 1)), isV (.pointer (some ⟨g, k0 + (j + 1), none⟩)), isV (.slice Av t.length cv), isV (.slice (some ⟨g, k0, none⟩) n2 c2), isV (.int .i64 ((j : Int) + 1)), isV (.int .i64 (j : Int)), isV (.pointer (some ⟨g, k0 + j, none⟩)), isV (.slice Au s.length cu), isV (.bool (t == s)), isV (.bool (!(t == s)))]) (fun w w' => Upd NoF w w') (fun _ wq => Upd NoF wr.drew wq) (by kernel_rfl) (by kernel_rfl) (by kernel_rfl) (by rfl) (fun w => Upd.refl _ _) (rgR_keep (by
              intro p hp; simp only [List.mem_cons, List.not_mem_nil, or_false] at hp; rcases hp with rfl | rfl | rfl | rfl | rfl | rfl | rfl | rfl | rfl | rfl | rfl | rfl <;> first | exact stb_isV _ | exact stb_any)) (Upd.refl _ _) ?_ ?_
            · refine ⟨?_, ?_, ?_, ?_, ?_, ?_, ?_, ?_, ?_, ?_, ?_, ?_, trivial⟩
              · refine fun ρ w' L hW hLi hcl hd hdep hext hc hg hf => ?_
                rw [if_pos (show wantedR _ _ _ = true from rfl)]
                have e1 : ρ (.tmp 1) = fnV 65 := hext 1 (by kernel_rfl)
                clear hdep hext hcl
                have HW := Lib.hid hW
                clear hW
                unfold OpDone
                go_simp
                exact ⟨rfl, Upd.refl _ _, HW.out⟩
              · refine fun ρ w' L hW hLi hcl hd hdep hext hc hg hf => ?_
                rw [if_pos (show wantedR _ _ _ = true from rfl)]
                have e6 : ρ (.tmp 6) = .slice (some ⟨g, k0, none⟩) n2 c2 := hext 6 (by kernel_rfl)
                clear hdep hext hcl
                have HW := Lib.hid hW
                clear hW
                unfold OpDone
                go_simp
                exact ⟨rfl, Upd.refl _ _, HW.out⟩
              · refine fun ρ w' L hW hLi hcl hd hdep hext hc hg hf => ?_
                rw [if_pos (show wantedR _ _ _ = true from rfl)]
                have e7 : ρ (.tmp 7) = .int .i64 ((j : Int) + 1) := hext 7 (by kernel_rfl)
                clear hdep hext hcl
                have HW := Lib.hid hW
                clear hW
                unfold OpDone
                go_simp
                exact ⟨rfl, Upd.refl _ _, HW.out⟩
              · refine fun ρ w' L hW hLi hcl hd hdep hext hc hg hf => ?_
                rw [if_pos (show wantedR _ _ _ = true from rfl)]
                have e39 : ρ (.tmp 39) = .slice (some ⟨g, k0, none⟩) n2 c2 := hdep 1 _ rfl (by kernel_rfl)
                have e40 : ρ (.tmp 40) = .int .i64 ((j : Int) + 1) := hdep 2 _ rfl (by kernel_rfl)
                have q0 : (0 : Int) ≤ (j : Int) + 1 := by omega
                have q1 : (j : Int) + 1 < (n2 : Int) := by omega
                have q3 : ((j : Int) + 1).toNat = j + 1 := by omega
                have q2 : j + 1 < n2 := by omega
                clear hdep hext hcl
                have HW := Lib.hid hW
                clear hW
                unfold OpDone
                go_simp
                exact ⟨rfl, Upd.refl _ _, HW.out⟩
              · refine fun ρ w' L hW hLi hcl hd hdep hext hc hg hf => ?_
                rw [if_pos (show wantedR _ _ _ = true from rfl)]
                have e41 : ρ (.tmp 41) = .pointer (some ⟨g, k0 + (j + 1), none⟩) := hdep 3 _ rfl (by kernel_rfl)
                have yy := XT.out w' hW
                clear hdep hext hcl
                have HW := Lib.hid hW
                clear hW
                unfold OpDone
                go_simp
                exact ⟨rfl, Upd.refl _ _, HW.out⟩
              · refine fun ρ w' L hW hLi hcl hd hdep hext hc hg hf => ?_
                rw [if_pos (show wantedR _ _ _ = true from rfl)]
                have e6 : ρ (.tmp 6) = .slice (some ⟨g, k0, none⟩) n2 c2 := hext 6 (by kernel_rfl)
                clear hdep hext hcl
                have HW := Lib.hid hW
                clear hW
                unfold OpDone
                go_simp
                exact ⟨rfl, Upd.refl _ _, HW.out⟩
              · refine fun ρ w' L hW hLi hcl hd hdep hext hc hg hf => ?_
                rw [if_pos (show wantedR _ _ _ = true from rfl)]
                have e7 : ρ (.tmp 7) = .int .i64 ((j : Int) + 1) := hext 7 (by kernel_rfl)
                clear hdep hext hcl
                have HW := Lib.hid hW
                clear hW
                unfold OpDone
                go_simp
                exact ⟨rfl, Upd.refl _ _, HW.out⟩
              · refine fun ρ w' L hW hLi hcl hd hdep hext hc hg hf => ?_
                rw [if_pos (show wantedR _ _ _ = true from rfl)]
                have e44 : ρ (.tmp 44) = .int .i64 ((j : Int) + 1) := hdep 6 _ rfl (by kernel_rfl)
                have ww : IntKind.i64.wrap (j : Int) = j := IntWalk.i64_in _ (by omega)
                clear hdep hext hcl
                have HW := Lib.hid hW
                clear hW
                unfold OpDone
                go_simp
                exact ⟨rfl, Upd.refl _ _, HW.out⟩
              · refine fun ρ w' L hW hLi hcl hd hdep hext hc hg hf => ?_
                rw [if_pos (show wantedR _ _ _ = true from rfl)]
                have e43 : ρ (.tmp 43) = .slice (some ⟨g, k0, none⟩) n2 c2 := hdep 5 _ rfl (by kernel_rfl)
                have e45 : ρ (.tmp 45) = .int .i64 (j : Int) := hdep 7 _ rfl (by kernel_rfl)
                have q0 : (0 : Int) ≤ (j : Int) := by omega
                have q1 : (j : Int) < (n2 : Int) := by omega
                have q2 : j < n2 := by omega
                clear hdep hext hcl
                have HW := Lib.hid hW
                clear hW
                unfold OpDone
                go_simp
                exact ⟨rfl, Upd.refl _ _, HW.out⟩
              · refine fun ρ w' L hW hLi hcl hd hdep hext hc hg hf => ?_
                rw [if_pos (show wantedR _ _ _ = true from rfl)]
                have e46 : ρ (.tmp 46) = .pointer (some ⟨g, k0 + j, none⟩) := hdep 8 _ rfl (by kernel_rfl)
                have yy := XS.out w' hW
                clear hdep hext hcl
                have HW := Lib.hid hW
                clear hW
                unfold OpDone
                go_simp
                exact ⟨rfl, Upd.refl _ _, HW.out⟩
              · refine fun ρ w' L hW hLi hcl hd hdep hext hc hg hf => ?_
                rw [if_pos (show wantedR _ _ _ = true from rfl)]
                have e38 : ρ (.tmp 38) = fnV 65 := hdep 0 _ rfl (by kernel_rfl)
                have e42 : ρ (.tmp 42) = .slice Av t.length cv := hdep 4 _ rfl (by kernel_rfl)
                have e47 : ρ (.tmp 47) = .slice Au s.length cu := hdep 9 _ rfl (by kernel_rfl)
                clear hdep hext
                have CL := Lib.hid (CALL.out w' hW)
                have HW := Lib.hid hW
                clear hW
                unfold OpDone
                unfold fnV at *
                go_simp
                refine CL.out.mono ?_
                rintro e w5 ⟨rfl, rfl⟩
                exact ⟨_, rfl, rfl, Upd.refl _ _, HW.out⟩
              · refine fun ρ w' L hW hLi hcl hd hdep hext hc hg hf => ?_
                rw [if_pos (show wantedR _ _ _ = true from rfl)]
                have e48 : ρ (.tmp 48) = .bool (t == s) := hdep 10 _ rfl (by kernel_rfl)
                clear hdep hext hcl
                have HW := Lib.hid hW
                clear hW
                unfold OpDone
                go_simp
                exact ⟨rfl, Upd.refl _ _, HW.out⟩
            intro vs W8 L8 hL8 hW8 hR
            have hv0 : vs 0 = fnV 65 := hR 0 _ rfl
            have hv1 : vs 1 = .slice (some ⟨g, k0, none⟩) n2 c2 := hR 1 _ rfl
            have hv2 : vs 2 = .int .i64 ((j : Int) + 1) := hR 2 _ rfl
            have hv3 : vs 3 = .pointer (some ⟨g, k0 + (j + 1), none⟩) := hR 3 _ rfl
            have hv4 : vs 4 = .slice Av t.length cv := hR 4 _ rfl
            have hv5 : vs 5 = .slice (some ⟨g, k0, none⟩) n2 c2 := hR 5 _ rfl
            have hv6 : vs 6 = .int .i64 ((j : Int) + 1) := hR 6 _ rfl
            have hv7 : vs 7 = .int .i64 (j : Int) := hR 7 _ rfl
            have hv8 : vs 8 = .pointer (some ⟨g, k0 + j, none⟩) := hR 8 _ rfl
            have hv9 : vs 9 = .slice Au s.length cu := hR 9 _ rfl
            have hv10 : vs 10 = .bool (t == s) := hR 10 _ rfl
            have hv11 : vs 11 = .bool (!(t == s)) := hR 11 _ rfl
            simp only [putAll, Act.put, List.setIfInBounds_toArray, List.set_cons_zero, List.set_cons_succ, hv0, hv1, hv2, hv3, hv4, hv5, hv6, hv7, hv8, hv9, hv10, hv11]
            clear hR hv0 hv1 hv2 hv3 hv4 hv5 hv6 hv7 hv8 hv9 hv10 hv11
            have HB8 := Lib.hid (show Blk W8 g 28 cu1 from hW8.blk (Blk.drew HB1.out) (fun f => f))
            have HU8 := Lib.hid (show Upd (fun k => k = g) w W8 from HU.out.trans (((Upd.refl NoF wr).drew).trans hW8 (fun _ _ f => f)) (fun _ _ f => f.elim))
            have XT8 := Lib.hid (XT.out W8 hW8)
            clear hW8
            cases hst : (t == s) with
            | true =>
              have HEQ := Lib.hid (show s = t from (eq_of_beq hst).symm)
              clear hst
              go_wp2
              go_roundw
              case rel => exact ⟨j + 1, q, cu1, rfl, by go_num, by have := HN.out; omega, HST.out.skip HSX.out HTY.out HEQ.out, HB8.out, HU8.out⟩
              case measure => simp [intOf]; omega
            | false =>
              have HNE := Lib.hid (show s ≠ t from fun e => by rw [e] at hst; simp at hst)
              have x1 := XT8.out
              have q0 : (0 : Int) ≤ (j : Int) + 1 := by omega
              have q1 : (j : Int) + 1 < (n2 : Int) := by omega
              have q3 : ((j : Int) + 1).toNat = j + 1 := by omega
              have q2 : j + 1 < n2 := by omega
              have r0 : (0 : Int) ≤ (q : Int) := by omega
              have r1 : (q : Int) < (n : Int) := by omega
              have r2 : q < n := by omega
              have r3 : W8.frozen? ⟨g, q, none⟩ = false := HB8.out.frozen q
              obtain ⟨v0, hv0⟩ : ∃ v, W8.cell? ⟨g, q, none⟩ = some v := ⟨_, (HB8.out.cell q).trans (Array.getElem?_eq_getElem (by have := HST.out.size; have := HCS.out; omega))⟩
              clear hst
              go_wp2
              go_roundw
              case rel => exact ⟨j + 1, q + 1, _, by go_num, by go_num, by have := HN.out; omega, HST.out.keep HSX.out HTY.out HNE.out rfl HT2.out (by have := HCS.out; have := HN.out; omega), HB8.out.put q _, HU8.out.setCell (p := ⟨g, q, none⟩) (.inl rfl) _⟩
              case measure => simp [intOf]; omega
          · have t1 : decide ((j : Int) + 1 < (n2 : Int)) = false := by simp; omega
            have HFIN := Lib.hid (show l.take (k0 + j + 1) = l from List.take_of_length_le (by omega))
            have HQN := Lib.hid (show q < n by omega)
            have HQN' := Lib.hid (show q + (n - q) = n by omega)
            have z1 : (0 : Int) ≤ (q : Int) := by omega
            have z2 : (q : Int) ≤ (n : Int) := by omega
            have z3 : (q : Int) ≤ (c : Int) := by omega
            have z4 : q < c := by omega
            have z5 : q < n := by omega
            clear hst hb1 hu hnn hlt hqj hj hn2' hc2' hk0n
            obtain ⟨w9, hcl, hb9, hu9⟩ := run_clear_t (b := q) (n := n - q) (by omega) HB1.out (by have := HST.out.size; have := HCS.out; omega)
            have B9 := Lib.hid hb9
            have U9 := Lib.hid hu9
            clear hb9 hu9
            go_wp2
            go_ret
            have hsc := HST.out.len
            rw [HFIN.out] at hsc
            have U := HU.out.trans U9.out (fun _ _ f => f)
            have UM : Upd M w w9 := U.mono (fun k _ e => by rw [show k = g from e]; exact HMG.out)
            have hszc := HST.out.size
            have hcs := HCS.out
            have hpick : ∀ i, i < q → ((cu1.toList.take q ++ List.replicate (n - q) (Value.slice none 0 0) ++ cu1.toList.drop (q + (n - q))))[i]? = cu1[i]? := fun i hi => by
              rw [List.append_assoc, List.getElem?_append_left (by simp; omega), List.getElem?_take, if_pos hi]
              simp
            refine ⟨?_, ⟨cu1.toList.take q, by rw [hsc]; simp; omega, ?_, ?_, fun i s hs => ?_⟩, U.mono (fun k _ e => by rw [show k = g from e]; simp [OwnB, Value.ownBlock])⟩
            · rw [hsc]; rfl
            · rw [hsc]
              refine ⟨by simp; omega, .inr ⟨g, c, _, rfl, B9.out, by omega, hcm', ?_, ?_⟩⟩
              · simp; omega
              · rw [Nat.mul_one, List.append_assoc, List.take_append_of_le_length (by simp; omega), List.take_take, Nat.min_self]
            · intro u hu
              obtain ⟨i, hi⟩ := List.getElem?_of_mem hu
              rw [List.getElem?_take] at hi
              split at hi
              · next hiq =>
                obtain ⟨t, ht⟩ : ∃ t, (compL l)[i]? = some t := ⟨_, List.getElem?_eq_getElem (by omega)⟩
                obtain ⟨y, y1, y2, _⟩ := HST.out.cells i t (by rw [HFIN.out]; exact ht)
                rw [Array.getElem?_toList, y1] at hi
                rw [← Option.some.inj hi]
                exact y2
              · cases hi
            · obtain ⟨y, y1, y2, y3⟩ := HST.out.cells i s (by rw [HFIN.out]; exact hs)
              have hiq : i < q := by rw [← hsc]; exact (List.getElem?_eq_some_iff.1 hs).1
              exact ⟨y, by rw [List.getElem?_take, if_pos hiq, Array.getElem?_toList]; exact y1, y3.upd UM⟩
    · have t1 : decide ((k : Int) + 1 < (n : Int)) = false := by simp; omega
      have HFIN := Lib.hid (show compL l = l from by have := HCP.out; rw [List.take_of_length_le (by omega)] at this; exact this)
      clear hcp hu hnn
      go_wp2
      go_ret
      unfold CompTPost
      rw [HFIN.out, HN.out]
      exact ⟨rfl, TxM.upd HTX.out HU.out (fun _ _ f => f) (fun _ _ f => f.elim), HU.out.mono (fun _ _ f => f.elim)⟩
end
end Go.Proofs.YtbgificdilpdcaaGreat
