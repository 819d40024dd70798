/- The hash, on plain data: what both implementations compute. No condition. Votes, signed votes and views on plain data: what Valid, Encode, Decode and the orders of the program and of the reference compute, and that Decode inverts Encode. No condition. The order of texts, sorting and striking repetitions on plain lists. No condition. Striking repetitions, on plain lists. No condition. Names in ascending order; walking a graph of items from its references, on plain data. No condition. General words on memory for the proofs of this seat: a block known whole, what may have been written, slices that read as lists, slices that own their block, append. No condition. -/
import GoSem.ClaimWide
import Derived.Laws.BitsAllLaws
import Derived.WalkKit
import Derived.WalkLawsBesides
import Derived.Below
import Derived.Laws.OwnMore
import Derived.Deep.Draws
namespace Go.Proofs.YtengcmfdfmnacaaGreat
section
open Go

def rot13 (y : Int) : Int := bits .or .u64 (IntKind.u64.wrap (y * 8192)) (y / 2251799813685248)
def rot32 (x : Int) : Int := bits .or .u64 (IntKind.u64.wrap (x * 4294967296)) (x / 4294967296)
def mixS (p : Int × Int) : Int × Int :=
  (IntKind.u64.wrap (rot32 (IntKind.u64.wrap (p.1 + p.2)) * 11400714819323198485), bits .xor .u64 (rot13 p.2) (IntKind.u64.wrap (p.1 + p.2)))
def mixN : Nat → Int × Int → Int × Int
  | 0, p => p
  | n + 1, p => mixS (mixN n p)

/-- The number whose bytes, the highest first, are bs. -/
def be (bs : List UInt8) : Nat := bs.foldl (fun v c => v * 256 + c.toNat) 0
def wordN (bs : List UInt8) : Nat := be (bs.take 8) * 256 ^ (8 - bs.length)
def hstep (p : Int × Int) (bs : List UInt8) : Int × Int := mixN 2 (bits .xor .u64 p.1 (wordN bs), p.2)
def hk (bs : List UInt8) : Nat → Int × Int
  | 0 => (2611923443488327891, 1376283091369227076)
  | k + 1 => hstep (hk bs k) (bs.drop (8 * k))
def ofV (v : Int) : List UInt8 := [v / 72057594037927936, v / 281474976710656, v / 1099511627776, v / 4294967296, v / 16777216, v / 65536, v / 256, v].map (fun z => UInt8.ofNat (z % 256).toNat)
def hend (p : Int × Int) (n : Nat) : Int × Int := mixN 4 (p.1, bits .xor .u64 p.2 n)
def hsum (bs : List UInt8) : List UInt8 := let q := hend (hk bs ((bs.length + 7) / 8)) bs.length; ofV (bits .xor .u64 q.1 q.2)
def tagged (tag : UInt8) (bs : List UInt8) : List UInt8 := hsum (tag :: bs)

theorem be_snoc (l : List UInt8) (c : UInt8) : be (l ++ [c]) = be l * 256 + c.toNat := by simp [be]
theorem be_go : ∀ (l : List UInt8) (v : Nat), l.foldl (fun v c => v * 256 + c.toNat) v < (v + 1) * 256 ^ l.length
  | [], v => by simp
  | c :: l, v => by
    have h := be_go l (v * 256 + c.toNat)
    have hc := c.toNat_lt
    rw [List.foldl_cons, List.length_cons, Nat.pow_succ]
    refine Nat.lt_of_lt_of_le h ?_
    rw [Nat.mul_comm (256 ^ l.length), ← Nat.mul_assoc]
    exact Nat.mul_le_mul_right _ (by omega)
theorem be_lt (l : List UInt8) : be l < 256 ^ l.length := by
  have := be_go l 0
  simpa [be] using this
theorem be_take_succ (l : List UInt8) (k : Nat) (c : UInt8) (h : l[k]? = some c) : be (l.take (k + 1)) = be (l.take k) * 256 + c.toNat := by
  obtain ⟨hlt, rfl⟩ := List.getElem?_eq_some_iff.1 h
  rw [List.take_succ_eq_append_getElem hlt, be_snoc]
theorem be_take_lt (l : List UInt8) (k : Nat) : be (l.take k) < 256 ^ k := by
  refine Nat.lt_of_lt_of_le (be_lt _) (Nat.pow_le_pow_right (by omega) (List.length_take_le _ _))

theorem wrap_u64 (n : Int) : IntKind.u64.wrap n = n % 18446744073709551616 := by simp [IntKind.wrap, IntKind.bits, IntKind.signed]
theorem wrap_u64_nat (n : Nat) (h : n < 18446744073709551616) : IntKind.u64.wrap (n : Int) = n := by rw [wrap_u64]; omega
/-- Two numbers whose bits lie apart. -/
theorem or_join (i a b : Nat) (ha : a % 2 ^ i = 0) (hb : b < 2 ^ i) (h1 : a < 18446744073709551616) (h2 : b < 18446744073709551616) : bits .or .u64 (a : Int) (b : Int) = ((a + b : Nat) : Int) := by
  rw [u64_or_nat a b h1 h2, nat_join i a b ha hb]

/-- One more byte at the end: v<<8 | c. -/
theorem or_byte (v : Nat) (c : UInt8) (h : v < 72057594037927936) : bits .or .u64 (IntKind.u64.wrap ((v : Int) * 256)) (c.toNat : Int) = ((v * 256 + c.toNat : Nat) : Int) := by
  have hc := c.toNat_lt
  have e : ((v : Int) * 256) = ((v * 256 : Nat) : Int) := by omega
  rw [e, wrap_u64_nat _ (by omega)]
  exact or_join 8 _ _ (by omega) (by omega) (by omega) (by omega)

/-- One more byte at its place: w | c << (56 - 8 i). -/
theorem or_place (u i : Nat) (c : UInt8) (hi : i < 8) (hu : u < 256 ^ i) : bits .or .u64 ((u * 256 ^ (8 - i) : Nat) : Int) (IntKind.u64.wrap ((c.toNat : Int) * 2 ^ (56 - 8 * i))) = (((u * 256 + c.toNat) * 256 ^ (7 - i) : Nat) : Int) := by
  have hc := c.toNat_lt
  have hp : (256 : Nat) ^ (8 - i) = 256 * 256 ^ (7 - i) := by rw [show 8 - i = (7 - i) + 1 by omega, Nat.pow_succ, Nat.mul_comm]
  have h2 : (2 : Nat) ^ (56 - 8 * i) = 256 ^ (7 - i) := by rw [show (256 : Nat) = 2 ^ 8 from rfl, ← Nat.pow_mul]; congr 1; omega
  have e : ((c.toNat : Int) * 2 ^ (56 - 8 * i)) = ((c.toNat * 256 ^ (7 - i) : Nat) : Int) := by rw [← h2]; simp
  have hpos : 0 < 256 ^ (7 - i) := Nat.pow_pos (by omega)
  have hall : 256 ^ i * 256 ^ (8 - i) = 18446744073709551616 := by rw [← Nat.pow_add, show i + (8 - i) = 8 by omega]
  have hb : c.toNat * 256 ^ (7 - i) < 256 ^ (8 - i) := by rw [hp]; exact Nat.mul_lt_mul_of_pos_right hc hpos
  have hle : 256 ^ (8 - i) ≤ 18446744073709551616 := by rw [← hall]; exact Nat.le_mul_of_pos_left _ (Nat.pow_pos (by omega))
  have ha : u * 256 ^ (8 - i) < 18446744073709551616 := by rw [← hall]; exact Nat.mul_lt_mul_of_pos_right hu (Nat.pow_pos (by omega))
  have hq : (256 : Nat) ^ (8 - i) = 2 ^ (8 * (8 - i)) := by rw [show (256 : Nat) = 2 ^ 8 from rfl, ← Nat.pow_mul]
  rw [e, wrap_u64_nat _ (by omega), or_join (8 * (8 - i)) _ _ (by rw [hq]; exact Nat.mul_mod_left _ _) (by rw [← hq]; exact hb) ha (by omega), hp, Nat.add_mul, Nat.mul_assoc]
def byteAt (v : Int) (i : Nat) : UInt8 := UInt8.ofNat ((v / 2 ^ (8 * i)) % 256).toNat
/-- The lowest n bytes of v, the highest first. -/
def beB (v : Int) : Nat → List UInt8
  | 0 => []
  | n + 1 => byteAt v n :: beB v n
theorem beB_len (v : Int) (n : Nat) : (beB v n).length = n := by induction n with | zero => rfl | succ n ih => simp [beB, ih]
end

section
open Go

structure VoteS where
  kind : Int
  slot : Int
  round : Int
  choice : Int
  signer : Int
  support : Int
  parent : List UInt8
  value : List UInt8

structure SignedS where
  vote : VoteS
  sig : List UInt8

structure ViewS where
  votes : List SignedS
  texts : List (List UInt8)

theorem VoteS.ext' {a b : VoteS} (h1 : a.kind = b.kind) (h2 : a.slot = b.slot) (h3 : a.round = b.round) (h4 : a.choice = b.choice) (h5 : a.signer = b.signer) (h6 : a.support = b.support) (h7 : a.parent = b.parent) (h8 : a.value = b.value) : a = b := by
  cases a; cases b; simp_all
theorem SignedS.ext' {a b : SignedS} (h1 : a.vote = b.vote) (h2 : a.sig = b.sig) : a = b := by cases a; cases b; simp_all
theorem ViewS.ext' {a b : ViewS} (h1 : a.votes = b.votes) (h2 : a.texts = b.texts) : a = b := by cases a; cases b; simp_all

instance : DecidableEq VoteS := fun a b => decidable_of_iff (a.kind = b.kind ∧ a.slot = b.slot ∧ a.round = b.round ∧ a.choice = b.choice ∧ a.signer = b.signer ∧ a.support = b.support ∧ a.parent = b.parent ∧ a.value = b.value)
  ⟨fun ⟨h1, h2, h3, h4, h5, h6, h7, h8⟩ => VoteS.ext' h1 h2 h3 h4 h5 h6 h7 h8, fun h => by subst h; simp⟩
instance : DecidableEq SignedS := fun a b => decidable_of_iff (a.vote = b.vote ∧ a.sig = b.sig) ⟨fun ⟨h1, h2⟩ => SignedS.ext' h1 h2, fun h => by subst h; simp⟩
instance : DecidableEq ViewS := fun a b => decidable_of_iff (a.votes = b.votes ∧ a.texts = b.texts) ⟨fun ⟨h1, h2⟩ => ViewS.ext' h1 h2, fun h => by subst h; simp⟩

def in64 (z : Int) : Prop := -9223372036854775808 ≤ z ∧ z ≤ 9223372036854775807
/-- A vote as memory can hold it. -/
structure VoteS.Fit (v : VoteS) : Prop where
  kind : in64 v.kind
  slot : in64 v.slot
  round : in64 v.round
  choice : in64 v.choice
  signer : in64 v.signer
  support : in64 v.support
  parent : v.parent.length = 8
  value : v.value.length = 8

abbrev zero8 : List UInt8 := [0, 0, 0, 0, 0, 0, 0, 0]

def slotsOf (k : Int) : Int := if k ≤ 4 then 9 else 0
def roundsOk (v : VoteS) : Prop :=
  if v.kind = 3 then 1 ≤ v.round ∧ v.round ≤ 12 ∧ 0 ≤ v.choice ∧ v.choice ≤ 1 ∧ (v.round ≠ 1 ∨ v.choice ≠ 0 ∨ v.support = 0)
  else if v.kind = 4 then 1 ≤ v.round ∧ v.round ≤ 12 ∧ 0 ≤ v.choice ∧ v.choice ≤ 2
  else v.round = 0 ∧ v.support = 0 ∧ v.choice = 1
def ValidP (v : VoteS) : Prop :=
  1 ≤ v.kind ∧ v.kind ≤ 7 ∧ 0 ≤ v.signer ∧ v.signer ≤ 9 ∧ 0 ≤ v.support ∧ v.support ≤ 1023 ∧ (v.choice = 1 ↔ v.value ≠ zero8) ∧ 0 ≤ v.slot ∧ v.slot ≤ slotsOf v.kind ∧ roundsOk v
instance (v : VoteS) : Decidable (roundsOk v) := by unfold roundsOk; infer_instance
instance (v : VoteS) : Decidable (ValidP v) := by unfold ValidP; infer_instance
def validB (v : VoteS) : Bool := decide (ValidP v)
def byteZ (z : Int) : UInt8 := UInt8.ofNat (z % 256).toNat
def encV (v : VoteS) : List UInt8 := [byteZ v.kind, byteZ v.slot, byteZ v.round, byteZ v.choice, byteZ v.signer] ++ beB v.support 2 ++ v.parent ++ v.value
def at8 (b : List UInt8) (i : Nat) : UInt8 := b[i]?.getD 0
def decV (b : List UInt8) : VoteS :=
  ⟨(at8 b 0).toNat, (at8 b 1).toNat, (at8 b 2).toNat, (at8 b 3).toNat, (at8 b 4).toNat, be ((b.drop 5).take 2), (b.drop 7).take 8, (b.drop 15).take 8⟩

theorem ValidP.small {v : VoteS} (h : ValidP v) : v.kind < 256 ∧ v.slot < 256 ∧ 0 ≤ v.round ∧ v.round < 256 ∧ 0 ≤ v.choice ∧ v.choice < 256 ∧ v.signer < 256 := by
  obtain ⟨h1, h2, h3, h4, h5, h6, h7, h8, h9, h10⟩ := h
  unfold slotsOf at h9
  unfold roundsOk at h10
  refine ⟨by omega, by split at h9 <;> omega, ?_, ?_, ?_, ?_, by omega⟩ <;> (split at h10 <;> (try split at h10) <;> omega)

/-! ### orders -/
def lessN (a b : List UInt8) : Bool := decide (be a < be b)
def lessV (a b : VoteS) : Bool :=
  if a.parent = b.parent then
    if a.slot = b.slot then if a.round = b.round then if a.kind = b.kind then if a.signer = b.signer then if a.choice = b.choice then
      if a.value = b.value then decide (a.support < b.support) else lessN a.value b.value
    else decide (a.choice < b.choice) else decide (a.signer < b.signer) else decide (a.kind < b.kind) else decide (a.round < b.round) else decide (a.slot < b.slot)
  else lessN a.parent b.parent
def lessT (a b : List UInt8) : Bool := Op.bytesLess a b
def lessS (a b : SignedS) : Bool := if a.vote = b.vote then lessT a.sig b.sig else lessV a.vote b.vote

def chainB {α : Type} (r : α → α → Bool) : List α → Bool
  | a :: b :: l => r a b && chainB r (b :: l)
  | _ => true
/-! ### signed votes -/
def okS (s : SignedS) : Bool := validB s.vote && s.sig.length == 370
def encS (s : SignedS) : List UInt8 := encV s.vote ++ s.sig
def decS (b : List UInt8) : SignedS := ⟨decV (b.take 23), b.drop 23⟩
/-! ### views -/
def encT (t : List UInt8) : List UInt8 := beB t.length 2 ++ t
def encView (V : ViewS) : List UInt8 := beB V.votes.length 4 ++ (V.votes.map encS).flatten ++ beB V.texts.length 4 ++ (V.texts.map encT).flatten
def okT (t : List UInt8) : Bool := decide (t.length ≤ 65535)
def argB (V : ViewS) : Bool := V.votes.all okS && V.texts.all okT
def ordB (V : ViewS) : Bool := chainB lessS V.votes && chainB lessT V.texts
/-- What Encode returns. -/
def encodeS (V : ViewS) : List UInt8 × Int := if argB V then if ordB V then (encView V, 0) else ([], 10) else ([], 1)

def decVotes : Nat → List UInt8 → Option (List SignedS × List UInt8)
  | 0, b => some ([], b)
  | n + 1, b => if b.length < 393 then none else if validB (decS (b.take 393)).vote then (decVotes n (b.drop 393)).map (fun p => (decS (b.take 393) :: p.1, p.2)) else none
def decTexts : Nat → List UInt8 → Option (List (List UInt8) × List UInt8)
  | 0, b => some ([], b)
  | n + 1, b => if b.length < 2 then none else if b.length < 2 + be (b.take 2) then none else (decTexts n (b.drop (2 + be (b.take 2)))).map (fun p => ((b.drop 2).take (be (b.take 2)) :: p.1, p.2))
def decRest (vs : List SignedS) (b : List UInt8) : Option ViewS :=
  if b.length < 4 then none else
  match decTexts (be (b.take 4)) (b.drop 4) with
  | none => none
  | some (ts, r) => if r = [] then if ordB ⟨vs, ts⟩ then some ⟨vs, ts⟩ else none else none
/-- What Decode returns (none: ErrForm). -/
def decodeS (b : List UInt8) : Option ViewS :=
  if b.length < 4 then none else
  match decVotes (be (b.take 4)) (b.drop 4) with
  | none => none
  | some (vs, r) => decRest vs r
end

section
open Go

theorem lessT_irrefl : ∀ a : List UInt8, lessT a a = false
  | [] => rfl
  | x :: l => by
    have ih := lessT_irrefl l
    unfold lessT at ih ⊢
    simp [Op.bytesLess, ih]
theorem lessT_trans : ∀ a b c : List UInt8, lessT a b = true → lessT b c = true → lessT a c = true
  | _, [], _, h, _ => by simp [lessT, Op.bytesLess] at h
  | _, _ :: _, [], _, h => by simp [lessT, Op.bytesLess] at h
  | [], _ :: _, _ :: _, _, _ => rfl
  | x :: l, y :: m, z :: n, h1, h2 => by
    have ih := lessT_trans l m n
    unfold lessT at ih h1 h2 ⊢
    simp only [Op.bytesLess, Bool.or_eq_true, decide_eq_true_eq, Bool.and_eq_true, beq_iff_eq] at h1 h2 ⊢
    rcases h1 with h1 | ⟨rfl, h1⟩
    · rcases h2 with h2 | ⟨rfl, h2⟩
      · exact .inl (UInt8.lt_trans h1 h2)
      · exact .inl h1
    · rcases h2 with h2 | ⟨rfl, h2⟩
      · exact .inl h2
      · exact .inr ⟨rfl, ih h1 h2⟩
theorem lessT_total : ∀ a b : List UInt8, lessT a b = false → lessT b a = false → a = b
  | [], [], _, _ => rfl
  | [], _ :: _, h, _ => by simp [lessT, Op.bytesLess] at h
  | _ :: _, [], _, h => by simp [lessT, Op.bytesLess] at h
  | x :: l, y :: m, h1, h2 => by
    have ih := lessT_total l m
    unfold lessT at ih h1 h2
    simp only [Op.bytesLess, Bool.or_eq_false_iff, decide_eq_false_iff_not, Bool.and_eq_false_imp, beq_iff_eq] at h1 h2
    have e : x = y := by
      have a1 := h1.1
      have a2 := h2.1
      rw [UInt8.lt_iff_toNat_lt] at a1 a2
      exact UInt8.toNat.inj (by omega)
    subst e
    rw [ih (h1.2 rfl) (h2.2 rfl)]
theorem lessT_ntrans (a b c : List UInt8) (h1 : lessT a b = false) (h2 : lessT b c = false) : lessT a c = false := by
  cases h : lessT a c with
  | false => rfl
  | true =>
    exfalso
    cases h3 : lessT b a with
    | true => rw [lessT_trans b a c h3 h] at h2; cases h2
    | false =>
      have := lessT_total a b h1 h3
      subst this
      rw [h] at h2; cases h2
theorem lessT_asymm {a b : List UInt8} (h : lessT a b = true) : lessT b a = false := by
  cases h1 : lessT b a with
  | false => rfl
  | true => have := lessT_trans a b a h h1; rw [lessT_irrefl] at this; cases this

/-! ### one order, any type -/
section
variable {α : Type} (lt : α → α → Bool)
def insL (x : α) : List α → List α
  | [] => [x]
  | y :: l => if lt y x then y :: insL x l else x :: y :: l
/-- The list in ascending order. -/
def sortL : List α → List α
  | [] => []
  | x :: l => insL lt x (sortL l)
def AscL (l : List α) : Prop := l.Pairwise (fun a b => lt b a = false)
variable {lt}
end
/-- A list without neighbours that are equal. -/
def compL {α : Type} [DecidableEq α] : List α → List α
  | a :: b :: l => if a = b then compL (b :: l) else a :: compL (b :: l)
  | l => l
end

section
open Go
theorem take_two {α : Type} {l : List α} {k : Nat} {a b : α} (h1 : l[k]? = some a) (h2 : l[k + 1]? = some b) : l.take (k + 1 + 1) = l.take k ++ [a] ++ [b] := by
  obtain ⟨x1, y1⟩ := List.getElem?_eq_some_iff.1 h1
  obtain ⟨x2, y2⟩ := List.getElem?_eq_some_iff.1 h2
  rw [List.take_succ_eq_append_getElem x2, List.take_succ_eq_append_getElem x1, y1, y2]
theorem take_one {α : Type} {l : List α} {k : Nat} {a : α} (h1 : l[k]? = some a) : l.take (k + 1) = l.take k ++ [a] := by
  obtain ⟨x1, y1⟩ := List.getElem?_eq_some_iff.1 h1
  rw [List.take_succ_eq_append_getElem x1, y1]
section
variable {α : Type} [DecidableEq α]
theorem compL_two (a b : α) (l : List α) : compL (a :: b :: l) = if a = b then compL (b :: l) else a :: compL (b :: l) := by rw [compL]
theorem compL_snoc : ∀ (m : List α) (a b : α), compL (m ++ [a] ++ [b]) = if a = b then compL (m ++ [a]) else compL (m ++ [a]) ++ [b]
  | [], a, b => by
    simp only [List.nil_append, List.singleton_append]
    rw [compL_two]
    split
    · next h => rw [h]
    · rfl
  | [x], a, b => by
    have ih := compL_snoc [] a b
    simp only [List.nil_append, List.cons_append] at ih ⊢
    rw [compL_two x a [b], compL_two x a [], ih]
    by_cases h1 : x = a
    · simp only [if_pos h1]
    · simp only [if_neg h1]
      by_cases h2 : a = b
      · simp only [if_pos h2]
      · simp only [if_neg h2, List.cons_append]
  | x :: y :: m, a, b => by
    have ih := compL_snoc (y :: m) a b
    simp only [List.cons_append] at ih ⊢
    rw [compL_two x y (m ++ [a] ++ [b]), compL_two x y (m ++ [a]), ih]
    by_cases h1 : x = y
    · simp only [if_pos h1]
    · simp only [if_neg h1]
      by_cases h2 : a = b
      · simp only [if_pos h2]
      · simp only [if_neg h2, List.cons_append]
/-- One element more. -/
theorem comp_next {l : List α} {k : Nat} {a b : α} (h1 : l[k]? = some a) (h2 : l[k + 1]? = some b) : compL (l.take (k + 1 + 1)) = if a = b then compL (l.take (k + 1)) else compL (l.take (k + 1)) ++ [b] := by
  rw [take_two h1 h2, compL_snoc, take_one h1]
theorem comp_one (l : List α) : compL (l.take 1) = l.take 1 := by
  cases l <;> rfl
theorem comp_two {l : List α} {k : Nat} {a b : α} (h1 : l[k]? = some a) (h2 : l[k + 1]? = some b) (hne : a ≠ b) (h : compL (l.take (k + 1)) = l.take (k + 1)) : compL (l.take (k + 1 + 1)) = l.take (k + 1 + 1) := by
  rw [comp_next h1 h2, if_neg hne, h, take_two h1 h2, take_one h1]
theorem comp_small {l : List α} (h : l.length < 2) : compL l = l := by
  match l, h with
  | [], _ => rfl
  | [a], _ => rfl
end
end

section
open Go

theorem be_cons_go : ∀ (l : List UInt8) (v : Nat), l.foldl (fun v c => v * 256 + c.toNat) v = v * 256 ^ l.length + be l
  | [], v => by simp [be]
  | c :: l, v => by
    unfold be
    rw [List.foldl_cons, List.foldl_cons, be_cons_go l, be_cons_go l, List.length_cons, Nat.pow_succ, Nat.add_mul, Nat.zero_mul, Nat.zero_add, Nat.add_assoc, Nat.mul_assoc, Nat.mul_comm 256]
theorem be_cons (c : UInt8) (l : List UInt8) : be (c :: l) = c.toNat * 256 ^ l.length + be l := by
  show List.foldl (fun v c => v * 256 + c.toNat) 0 (c :: l) = _
  rw [List.foldl_cons, be_cons_go l]
  simp
theorem be_inj : ∀ (a b : List UInt8), a.length = b.length → be a = be b → a = b
  | [], [], _, _ => rfl
  | [], _ :: _, h, _ => by simp at h
  | _ :: _, [], h, _ => by simp at h
  | x :: a, y :: b, h, e => by
    have h : a.length = b.length := by simpa using h
    rw [be_cons, be_cons, h] at e
    have h1 := be_lt a
    have h2 := be_lt b
    rw [h] at h1
    have hp : 0 < 256 ^ b.length := Nat.pow_pos (by omega)
    have hx : x.toNat = y.toNat := by
      have e1 : (x.toNat * 256 ^ b.length + be a) / 256 ^ b.length = x.toNat := by
        rw [Nat.mul_comm, Nat.mul_add_div hp, Nat.div_eq_of_lt h1]; omega
      have e2 : (y.toNat * 256 ^ b.length + be b) / 256 ^ b.length = y.toNat := by
        rw [Nat.mul_comm, Nat.mul_add_div hp, Nat.div_eq_of_lt h2]; omega
      rw [e, e2] at e1
      exact e1.symm
    rw [hx] at e
    rw [UInt8.toNat.inj hx, be_inj a b h (by omega)]
theorem be_ne {a b : List UInt8} (ha : a.length = 8) (hb : b.length = 8) (h : a ≠ b) : be a ≠ be b := fun e => h (be_inj a b (by omega) e)

/-! ### lists of names in ascending order -/
def AscN (l : List (List UInt8)) : Prop := l.Pairwise fun a b => be a < be b
def All8 (l : List (List UInt8)) : Prop := ∀ n ∈ l, n.length = 8
/-- A name put into an ascending list, unless it is there. -/
def insN (n : List UInt8) : List (List UInt8) → List (List UInt8)
  | [] => [n]
  | x :: l => if be x < be n then x :: insN n l else if x = n then x :: l else n :: x :: l
def ascSet (l : List (List UInt8)) : List (List UInt8) := l.foldl (fun o n => insN n o) []
theorem mem_insN {n y : List UInt8} : ∀ {l : List (List UInt8)}, y ∈ insN n l ↔ y = n ∨ y ∈ l
  | [] => by simp [insN]
  | x :: l => by
    unfold insN
    split
    · rw [List.mem_cons, mem_insN (l := l), List.mem_cons]
      constructor
      · rintro (h | h | h)
        · exact .inr (.inl h)
        · exact .inl h
        · exact .inr (.inr h)
      · rintro (h | h | h)
        · exact .inr (.inl h)
        · exact .inl h
        · exact .inr (.inr h)
    · split
      · rename_i e
        constructor
        · exact .inr
        · rintro (h | h)
          · rw [h, e]; exact List.mem_cons_self
          · exact h
      · rw [List.mem_cons]
theorem asc_insN {n : List UInt8} (hn : n.length = 8) : ∀ {l : List (List UInt8)}, All8 l → AscN l → AscN (insN n l)
  | [], _, _ => by simp [insN, AscN]
  | x :: l, h8, h => by
    unfold insN
    have hx := h8 x List.mem_cons_self
    have h8' : All8 l := fun y hy => h8 y (List.mem_cons_of_mem _ hy)
    have h' := List.pairwise_cons.1 h
    split
    · rename_i hlt
      refine List.pairwise_cons.2 ⟨fun y hy => ?_, asc_insN hn h8' h'.2⟩
      rcases mem_insN.1 hy with rfl | hy
      · exact hlt
      · exact h'.1 y hy
    · split
      · exact h
      · rename_i hge hne
        have hlt : be n < be x := by have := be_ne hx hn hne; omega
        refine List.pairwise_cons.2 ⟨fun y hy => ?_, h⟩
        rcases List.mem_cons.1 hy with rfl | hy
        · exact hlt
        · have := h'.1 y hy; omega
theorem all8_insN {n : List UInt8} (hn : n.length = 8) {l : List (List UInt8)} (h8 : All8 l) : All8 (insN n l) := fun y hy => by
  rcases mem_insN.1 hy with rfl | hy
  · exact hn
  · exact h8 y hy
theorem ascSet_go : ∀ (l o : List (List UInt8)), All8 l → All8 o → AscN o → AscN (l.foldl (fun o n => insN n o) o) ∧ All8 (l.foldl (fun o n => insN n o) o) ∧ ∀ y, y ∈ l.foldl (fun o n => insN n o) o ↔ y ∈ l ∨ y ∈ o
  | [], o, _, h8, h => ⟨h, h8, fun y => by simp⟩
  | x :: l, o, hl, h8, h => by
    have hx := hl x List.mem_cons_self
    obtain ⟨h1, h2, h3⟩ := ascSet_go l (insN x o) (fun y hy => hl y (List.mem_cons_of_mem _ hy)) (all8_insN hx h8) (asc_insN hx h8 h)
    refine ⟨h1, h2, fun y => ?_⟩
    rw [List.foldl_cons, h3, mem_insN, List.mem_cons]
    constructor
    · rintro (h | h | h)
      · exact .inl (.inr h)
      · exact .inl (.inl h)
      · exact .inr h
    · rintro ((h | h) | h)
      · exact .inr (.inl h)
      · exact .inl h
      · exact .inr (.inr h)
theorem ascSet_asc {l : List (List UInt8)} (h : All8 l) : AscN (ascSet l) := (ascSet_go l [] h (by simp [All8]) (by simp [AscN])).1
theorem ascSet_all8 {l : List (List UInt8)} (h : All8 l) : All8 (ascSet l) := (ascSet_go l [] h (by simp [All8]) (by simp [AscN])).2.1
theorem mem_ascSet {l : List (List UInt8)} (h : All8 l) (y : List UInt8) : y ∈ ascSet l ↔ y ∈ l := by
  have := (ascSet_go l [] h (by simp [All8]) (by simp [AscN])).2.2 y
  simpa [ascSet] using this
theorem ascSet_snoc (l : List (List UInt8)) (n : List UInt8) : ascSet (l ++ [n]) = insN n (ascSet l) := by simp [ascSet]
theorem ascN_unique : ∀ (l m : List (List UInt8)), AscN l → AscN m → (∀ y, y ∈ l ↔ y ∈ m) → l = m
  | [], [], _, _, _ => rfl
  | [], x :: m, _, _, h => by have := (h x).2 List.mem_cons_self; cases this
  | x :: l, [], _, _, h => by have := (h x).1 List.mem_cons_self; cases this
  | x :: l, y :: m, hl, hm, h => by
    have hl' := List.pairwise_cons.1 hl
    have hm' := List.pairwise_cons.1 hm
    have e : x = y := by
      rcases List.mem_cons.1 ((h x).1 List.mem_cons_self) with e | hx
      · exact e
      · rcases List.mem_cons.1 ((h y).2 List.mem_cons_self) with e | hy
        · exact e.symm
        · have h1 := hm'.1 x hx
          have h2 := hl'.1 y hy
          omega
    subst e
    rw [ascN_unique l m hl'.2 hm'.2 (fun z => ?_)]
    constructor
    · intro hz
      rcases List.mem_cons.1 ((h z).1 (List.mem_cons_of_mem _ hz)) with rfl | hz'
      · have := hl'.1 z hz; omega
      · exact hz'
    · intro hz
      rcases List.mem_cons.1 ((h z).2 (List.mem_cons_of_mem _ hz)) with rfl | hz'
      · have := hm'.1 z hz; omega
      · exact hz'
theorem ascSet_eq {l m : List (List UInt8)} (hl : All8 l) (hm : AscN m) (h : ∀ y, y ∈ m ↔ y ∈ l) : m = ascSet l := ascN_unique _ _ hm (ascSet_asc hl) (fun y => (h y).trans (mem_ascSet hl y).symm)
/-- A list without repetitions beside one another. -/
def compN : List (List UInt8) → List (List UInt8)
  | [] => []
  | [x] => [x]
  | x :: y :: l => if x = y then compN (y :: l) else x :: compN (y :: l)
theorem compN_eq : ∀ l, compN l = compL l
  | [] => rfl
  | [_] => rfl
  | x :: y :: l => by unfold compN; rw [compL_two, compN_eq (y :: l)]
theorem mem_compN (z : List UInt8) : ∀ l : List (List UInt8), z ∈ compN l ↔ z ∈ l
  | [] => by simp [compN]
  | [x] => by simp [compN]
  | x :: y :: l => by
    unfold compN
    have ih := mem_compN z (y :: l)
    split
    · rename_i e
      rw [ih, e]
      simp
    · rw [List.mem_cons, ih]
      simp
theorem asc_compN : ∀ l : List (List UInt8), All8 l → l.Pairwise (fun a b => be a ≤ be b) → AscN (compN l)
  | [], _, _ => by simp [compN, AscN]
  | [x], _, _ => by simp [compN, AscN]
  | x :: y :: l, h8, h => by
    unfold compN
    have h' := List.pairwise_cons.1 h
    have ih := asc_compN (y :: l) (fun z hz => h8 z (List.mem_cons_of_mem _ hz)) h'.2
    split
    · exact ih
    · rename_i hne
      refine List.pairwise_cons.2 ⟨fun z hz => ?_, ih⟩
      have hz := (mem_compN z (y :: l)).1 hz
      have hxy : be x < be y := by
        have h1 := h'.1 y List.mem_cons_self
        have h2 := be_ne (h8 x List.mem_cons_self) (h8 y (List.mem_cons_of_mem _ List.mem_cons_self)) hne
        omega
      rcases List.mem_cons.1 hz with rfl | hz
      · exact hxy
      · have := (List.pairwise_cons.1 h'.2).1 z hz
        omega
theorem compN_sorted {l m : List (List UInt8)} (h8 : All8 l) (hp : m.Perm l) (hs : m.Pairwise (fun a b => be a ≤ be b)) : compN m = ascSet l :=
  ascSet_eq h8 (asc_compN m (fun y hy => h8 y (hp.mem_iff.1 hy)) hs) (fun y => (mem_compN y m).trans hp.mem_iff)
/-- A sorted list without repetitions. -/
theorem sorted_nodup {l m : List (List UInt8)} (h8 : All8 l) (hp : m.Perm l) (hn : l.Nodup) (hs : m.Pairwise (fun a b => be a ≤ be b)) : m = ascSet l := by
  refine ascSet_eq h8 ?_ (fun y => hp.mem_iff)
  have h1 : m.Nodup := hp.nodup_iff.2 hn
  have h8' : All8 m := fun y hy => h8 y (hp.mem_iff.1 hy)
  clear hp hn
  induction m with
  | nil => exact List.Pairwise.nil
  | cons x m ih =>
    have hs' := List.pairwise_cons.1 hs
    have hn' := List.nodup_cons.1 h1
    refine List.pairwise_cons.2 ⟨fun y hy => ?_, ih hs'.2 hn'.2 (fun y hy => h8' y (List.mem_cons_of_mem _ hy))⟩
    have h2 := be_ne (h8' x List.mem_cons_self) (h8' y (List.mem_cons_of_mem _ hy)) (fun e => hn'.1 (e ▸ hy))
    have := hs'.1 y hy
    omega
/-! ### items and their references -/
structure ItP where
  name : List UInt8
  kind : Int
  parent : List UInt8
  heads : List (Int × List UInt8)
  tips : List (List UInt8)
def rawPar (i : ItP) : List (List UInt8) := if i.kind = 3 then [i.parent] else if i.kind = 4 then i.parent :: i.heads.map (·.2) ++ i.tips else []
structure ItP.Fit (i : ItP) : Prop where
  name : i.name.length = 8
  parent : i.parent.length = 8
  heads : ∀ h ∈ i.heads, h.2.length = 8
  tips : All8 i.tips
theorem rawPar_all8 {i : ItP} (h : i.Fit) : All8 (rawPar i) := by
  unfold rawPar
  split
  · intro n hn
    have : n = i.parent := by simpa using hn
    rw [this]; exact h.parent
  · split
    · intro n hn
      rcases List.mem_append.1 hn with hn | hn
      · rcases List.mem_cons.1 hn with rfl | hn
        · exact h.parent
        · obtain ⟨x, hx, rfl⟩ := List.mem_map.1 hn
          exact h.heads x hx
      · exact h.tips n hn
    · intro n hn; cases hn
def parents (i : ItP) : List (List UInt8) := ascSet (rawPar i)
/-- The first item with a name. -/
def itemOf (l : List ItP) (n : List UInt8) : Option ItP := l.find? fun i => i.name = n
/-- Going through what is reached from the names that wait: the last one first. -/
inductive Clo (l : List ItP) : List (List UInt8) → List (List UInt8) → List (List UInt8) → Prop
  | done (seen) : Clo l [] seen seen
  | skip {todo n seen fin} : (itemOf l n = none ∨ n ∈ seen) → Clo l todo seen fin → Clo l (todo ++ [n]) seen fin
  | take {todo n seen fin i} : itemOf l n = some i → n ∉ seen → Clo l (todo ++ parents i) (seen ++ [n]) fin → Clo l (todo ++ [n]) seen fin
theorem snoc_inj {α : Type} {a b : List α} {x y : α} (h : a ++ [x] = b ++ [y]) : a = b ∧ x = y := by
  have := List.append_inj' h rfl
  exact ⟨this.1, by simpa using this.2⟩
theorem Clo.det {l : List ItP} {todo seen fin fin' : List (List UInt8)} (h : Clo l todo seen fin) (h' : Clo l todo seen fin') : fin = fin' := by
  induction h generalizing fin' with
  | done seen =>
    generalize hm : ([] : List (List UInt8)) = m at h'
    cases h' with
    | done => rfl
    | skip => simp at hm
    | take => simp at hm
  | @skip todo n seen fin hc _ ih =>
    generalize hm : todo ++ [n] = m at h'
    cases h' with
    | done => simp at hm
    | skip _ h2 => obtain ⟨rfl, rfl⟩ := snoc_inj hm; exact ih h2
    | take h1 h2 _ =>
      obtain ⟨rfl, rfl⟩ := snoc_inj hm
      rcases hc with hc | hc
      · rw [hc] at h1; cases h1
      · exact absurd hc h2
  | @take todo n seen fin i h1 h2 _ ih =>
    generalize hm : todo ++ [n] = m at h'
    cases h' with
    | done => simp at hm
    | skip hc _ =>
      obtain ⟨rfl, rfl⟩ := snoc_inj hm
      rcases hc with hc | hc
      · rw [hc] at h1; cases h1
      · exact absurd hc h2
    | take h3 _ h5 =>
      obtain ⟨rfl, rfl⟩ := snoc_inj hm
      rw [h1] at h3
      cases h3
      exact ih h5
/-- Going down from a name by parents, until the genesis, a name that is not there, or one that was seen. -/
inductive Dwn (l : List ItP) : List UInt8 → List (List UInt8) → List (List UInt8) → Prop
  | stop {n seen} : (itemOf l n = none ∨ n ∈ seen) → Dwn l n seen seen
  | root {n seen i} : itemOf l n = some i → n ∉ seen → i.kind = 1 → Dwn l n seen (seen ++ [n])
  | step {n seen fin i} : itemOf l n = some i → n ∉ seen → i.kind ≠ 1 → Dwn l i.parent (seen ++ [n]) fin → Dwn l n seen fin
theorem Dwn.det {l : List ItP} {n : List UInt8} {seen fin fin' : List (List UInt8)} (h : Dwn l n seen fin) (h' : Dwn l n seen fin') : fin = fin' := by
  induction h generalizing fin' with
  | stop hc =>
    cases h' with
    | stop => rfl
    | root h1 h2 => rcases hc with hc | hc; (· rw [hc] at h1; cases h1); exact absurd hc h2
    | step h1 h2 => rcases hc with hc | hc; (· rw [hc] at h1; cases h1); exact absurd hc h2
  | root h1 h2 h3 =>
    cases h' with
    | stop hc => rcases hc with hc | hc; (· rw [hc] at h1; cases h1); exact absurd hc h2
    | root => rfl
    | step h4 _ h6 => rw [h1] at h4; cases h4; exact absurd h3 h6
  | step h1 h2 h3 _ ih =>
    cases h' with
    | stop hc => rcases hc with hc | hc; (· rw [hc] at h1; cases h1); exact absurd hc h2
    | root h4 _ h6 => rw [h1] at h4; cases h4; exact absurd h6 h3
    | step h4 _ _ h7 => rw [h1] at h4; cases h4; exact ih h7
/-- How many names of the list have not been seen. -/
def unseen (l : List ItP) (seen : List (List UInt8)) : Nat := (l.filter fun i => !seen.contains i.name).length
theorem unseen_take {l : List ItP} {seen : List (List UInt8)} {n : List UInt8} {i : ItP} (h : itemOf l n = some i) (hn : n ∉ seen) : unseen l (seen ++ [n]) < unseen l seen := by
  unfold unseen
  have hm := List.mem_of_find?_eq_some h
  have hi : i.name = n := by simpa using List.find?_some h
  have h1 : ∀ x : ItP, (!(seen ++ [n]).contains x.name) = true → (!seen.contains x.name) = true := by
    intro x hx
    simp only [Bool.not_eq_true', List.contains_eq_mem, decide_eq_false_iff_not, List.mem_append, not_or] at hx ⊢
    exact hx.1
  have e : (l.filter fun i => !(seen ++ [n]).contains i.name) = (l.filter fun i => !seen.contains i.name).filter fun i => !(seen ++ [n]).contains i.name := by
    rw [List.filter_filter]
    congr 1
    funext x
    cases hx : !(seen ++ [n]).contains x.name with
    | true => rw [h1 x hx]; rfl
    | false => rfl
  rw [e]
  refine Nat.lt_of_le_of_ne (List.length_filter_le _ _) (fun heq => ?_)
  rw [List.length_filter_eq_length_iff] at heq
  have := heq i (List.mem_filter.2 ⟨hm, by simp [hi, hn]⟩)
  simp [hi] at this
theorem unseen_le (l : List ItP) (seen : List (List UInt8)) : unseen l seen ≤ l.length := List.length_filter_le _ _
end

section
open Go.RowKit

abbrev byteV (b : UInt8) : Value := .int .u8 b.toNat
abbrev strV (l : List UInt8) : Value := .string ⟨l.toArray⟩

/-! ### blocks known whole -/
def Blk (w : World) (g : Nat) (t : TypeId) (cs : Array Value) : Prop := w.heap[g]? = some (.cells cs t (0, 0))

section
variable {w w' : World} {g : Nat} {t : TypeId} {cs : Array Value}
theorem Blk.lt (h : Blk w g t cs) : g < w.heap.size := (Array.getElem?_eq_some_iff.1 h).1
theorem Blk.cell (h : Blk w g t cs) (i : Nat) : w.cell? ⟨g, i, none⟩ = cs[i]? := cell_of_row w g i cs t (0, 0) h
theorem Blk.frozen (h : Blk w g t cs) (i : Nat) : w.frozen? ⟨g, i, none⟩ = false := frozen_of_row w g i cs t h
theorem Blk.new (w : World) (t : TypeId) (cs : Array Value) : Blk (w.alloc (.cells cs t)) w.heap.size t cs := heap_alloc_new w _
theorem Blk.alloc (h : Blk w g t cs) (o : Obj) : Blk (w.alloc o) g t cs := (Below.heap_alloc w o g h.lt).trans h
theorem Blk.drew (h : Blk w g t cs) : Blk w.drew g t cs := h
theorem Blk.drewN (h : Blk w g t cs) (n : Nat) : Blk (w.drewN n) g t cs := h
theorem Blk.put (h : Blk w g t cs) (i : Nat) (u : Value) : Blk (w.setCell ⟨g, i, none⟩ u) g t (cs.setIfInBounds i u) := heap_setCell_same w g i cs t u h
theorem Blk.far (h : Blk w g t cs) {p : Addr} (hp : g ≠ p.block) (u : Value) : Blk (w.setCell p u) g t cs := (heap_setCell_other w p g u hp).trans h
theorem Blk.unlike {g' : Nat} {t' : TypeId} {cs' : Array Value} (h : Blk w g t cs) (h' : Blk w g' t' cs') (hne : t ≠ t') : g ≠ g' := by
  rintro rfl
  unfold Blk at h h'
  rw [h] at h'
  injection h' with h'
  injection h' with _ ht
  exact hne ht
end

/-! ### what may have been written: 'Upd F w w'': of the blocks that were there only those in F may have turned -/
structure Upd (F : Nat → Prop) (w w' : World) : Prop where
  os : w'.os = w.os
  tape : w'.tape = w.tape
  output : w'.output = w.output
  size : w.heap.size ≤ w'.heap.size
  block : ∀ k, k < w.heap.size → ¬ F k → w'.heap[k]? = w.heap[k]?

def NoF : Nat → Prop := fun _ => False

section
variable {F G : Nat → Prop} {w w' w'' : World}
theorem Upd.refl (F : Nat → Prop) (w : World) : Upd F w w := ⟨rfl, rfl, rfl, Nat.le_refl _, fun _ _ _ => rfl⟩
theorem Upd.trans (h : Upd F w w') (k : Upd G w' w'') (hG : ∀ i, i < w.heap.size → G i → F i) : Upd F w w'' :=
  ⟨k.os.trans h.os, k.tape.trans h.tape, k.output.trans h.output, Nat.le_trans h.size k.size,
   fun i hi hn => (k.block i (Nat.lt_of_lt_of_le hi h.size) (fun g => hn (hG i hi g))).trans (h.block i hi hn)⟩
theorem Upd.mono (h : Upd F w w') (hF : ∀ i, i < w.heap.size → F i → G i) : Upd G w w' :=
  ⟨h.os, h.tape, h.output, h.size, fun i hi hn => h.block i hi (fun f => hn (hF i hi f))⟩
theorem Upd.drew (h : Upd F w w') : Upd F w w'.drew := ⟨h.os, h.tape, h.output, h.size, h.block⟩
theorem Upd.drewN (h : Upd F w w') (n : Nat) : Upd F w (w'.drewN n) := ⟨h.os, h.tape, h.output, h.size, h.block⟩
theorem Upd.alloc (h : Upd F w w') (o : Obj) : Upd F w (w'.alloc o) :=
  ⟨h.os, h.tape, h.output, Nat.le_trans h.size (by simp), fun i hi hn => (Below.heap_alloc w' o i (Nat.lt_of_lt_of_le hi h.size)).trans (h.block i hi hn)⟩
theorem Upd.setCell (h : Upd F w w') {p : Addr} (hp : F p.block ∨ w.heap.size ≤ p.block) (u : Value) : Upd F w (w'.setCell p u) :=
  ⟨h.os, h.tape, h.output, by simpa [World.setCell] using h.size, fun i hi hn => (heap_setCell_other w' p i u (by
    rintro rfl
    rcases hp with hp | hp
    · exact hn hp
    · omega)).trans (h.block i hi hn)⟩
theorem Upd.setRow (h : Upd F w w') {g : Nat} (hp : F g ∨ w.heap.size ≤ g) (cs : Array Value) : Upd F w (w'.setRow g cs) :=
  ⟨h.os, h.tape, h.output, by simpa [World.setRow] using h.size, fun i hi hn => (setRow_other w' g i cs (by
    rintro rfl
    rcases hp with hp | hp
    · exact hn hp
    · omega)).trans (h.block i hi hn)⟩
theorem Upd.of_below {B : Nat} (h : Below B w w') (hF : ∀ i, i < w.heap.size → B ≤ i → F i) : Upd F w w' :=
  ⟨h.os, h.tape, h.output, h.size, fun i hi hn => h.block i (by
    rcases Nat.lt_or_ge i B with hlt | hge
    · exact hlt
    · exact absurd (hF i hi hge) hn)⟩
theorem Upd.below {B : Nat} (h : Upd F w w') (hB : B ≤ w.heap.size) (hF : ∀ i, i < B → ¬ F i) : Below B w w' :=
  ⟨h.os, h.tape, h.output, h.size, fun i hi => h.block i (by omega) (hF i hi)⟩
theorem Upd.blk {g : Nat} {t : TypeId} {cs : Array Value} (h : Upd F w w') (hb : Blk w g t cs) (hn : ¬ F g) : Blk w' g t cs := (h.block g hb.lt hn).trans hb
theorem Upd.cell (h : Upd F w w') {p : Addr} {v : Value} (hc : w.cell? p = some v) (hn : ¬ F p.block) : w'.cell? p = some v :=
  (World.cell?_of_block (h.block p.block (block_lt_of_cell hc) hn)).trans hc
end

/-! ### slices that read as lists -/
/-- The slice value v has n elements; its cells (size of them an element) read as xs. -/
def Rd (w : World) (size : Nat) (v : Value) (n : Nat) (xs : List Value) : Prop :=
  ∃ A c, v = .slice A n c ∧ n ≤ c ∧ c ≤ maxLen ∧ xs.length = n * size ∧
    (0 < n → ∃ g o, A = some ⟨g, o, none⟩ ∧ ∀ j u, xs[j]? = some u → w.cell? ⟨g, o + j, none⟩ = some u)

/-- .. and goes on doing so while only blocks of F are written. -/
def RdF (F : Nat → Prop) (w : World) (size : Nat) (v : Value) (n : Nat) (xs : List Value) : Prop := ∀ w', Upd F w w' → Rd w' size v n xs

def RdB (F : Nat → Prop) (w : World) (v : Value) (bs : List UInt8) : Prop := RdF F w 1 v bs.length (bs.map byteV)
def RdI (F : Nat → Prop) (w : World) (v : Value) (zs : List Int) : Prop := RdF F w 1 v zs.length (zs.map (Value.int .i64))

section
variable {F G : Nat → Prop} {w w' : World} {size n : Nat} {v : Value} {xs : List Value}
theorem RdF.now (h : RdF F w size v n xs) : Rd w size v n xs := h w (Upd.refl F w)
theorem RdF.upd (h : RdF F w size v n xs) (hu : Upd F w w') : RdF F w' size v n xs := fun w'' h'' => h w'' (hu.trans h'' (fun _ _ f => f))
theorem RdF.upd' (h : RdF F w size v n xs) (hu : Upd F w w') (hG : ∀ i, i < w.heap.size → G i → F i) : RdF G w' size v n xs := fun w'' h'' => h w'' (hu.trans h'' hG)
theorem RdF.mono (h : RdF F w size v n xs) (hG : ∀ i, i < w.heap.size → G i → F i) : RdF G w size v n xs := fun w'' h'' => h w'' (h''.mono hG)
theorem Rd.nil (w : World) (size : Nat) : Rd w size (.slice none 0 0) 0 [] := ⟨none, 0, rfl, Nat.le_refl _, Nat.zero_le _, by simp, fun h => absurd h (by omega)⟩
theorem RdF.nil (F : Nat → Prop) (w : World) (size : Nat) : RdF F w size (.slice none 0 0) 0 [] := fun w' _ => Rd.nil w' size
theorem Rd.of_blk {g o c : Nat} {t : TypeId} {cs : Array Value} (hb : Blk w g t cs) (hn : n ≤ c) (hm : c ≤ maxLen) (hl : xs.length = n * size) (hx : ∀ j u, xs[j]? = some u → cs[o + j]? = some u) :
    Rd w size (.slice (some ⟨g, o, none⟩) n c) n xs :=
  ⟨_, c, rfl, hn, hm, hl, fun _ => ⟨g, o, rfl, fun j u hu => (hb.cell _).trans (hx j u hu)⟩⟩
theorem RdF.of_blk {g o c : Nat} {t : TypeId} {cs : Array Value} (hb : Blk w g t cs) (hF : ¬ F g) (hn : n ≤ c) (hm : c ≤ maxLen) (hl : xs.length = n * size) (hx : ∀ j u, xs[j]? = some u → cs[o + j]? = some u) :
    RdF F w size (.slice (some ⟨g, o, none⟩) n c) n xs := fun _ hu => Rd.of_blk (hu.blk hb hF) hn hm hl hx
theorem Rd.len (h : Rd w size v n xs) : xs.length = n * size := by obtain ⟨_, _, _, _, _, hl, _⟩ := h; exact hl
theorem Rd.le (h : Rd w size v n xs) : n ≤ maxLen := by obtain ⟨_, _, _, hn, hc, _⟩ := h; omega
end

/-! ### slices that own their block -/
/-- The slice v of n elements of type e (size cells each) is nil, or lies at the head of a block of its own, of which xs are the first cells. -/
def Own (w : World) (e : TypeId) (size : Nat) (v : Value) (n : Nat) (xs : List Value) : Prop :=
  xs.length = n * size ∧ ((v = .slice none 0 0 ∧ n = 0) ∨
   ∃ g cap cur, v = .slice (some ⟨g, 0, none⟩) n cap ∧ Blk w g e cur ∧ n ≤ cap ∧ cap ≤ maxLen ∧ cap * size ≤ cur.size ∧ cur.toList.take (n * size) = xs)

/-- The block of a slice. -/
def OwnB (v : Value) : Nat → Prop := fun k => v.ownBlock = some k

section
variable {F : Nat → Prop} {w w' : World} {e : TypeId} {size n : Nat} {v : Value} {xs : List Value}
theorem Own.nil (w : World) (e : TypeId) (size : Nat) : Own w e size (.slice none 0 0) 0 [] := ⟨by simp, .inl ⟨rfl, rfl⟩⟩
theorem Own.lt (h : Own w e size v n xs) {k : Nat} (hk : OwnB v k) : k < w.heap.size := by
  rcases h.2 with ⟨rfl, _⟩ | ⟨g, cap, cur, rfl, hb, _⟩
  · simp [OwnB, Value.ownBlock] at hk
  · simp [OwnB, Value.ownBlock] at hk
    exact hk ▸ hb.lt
theorem Own.upd (h : Own w e size v n xs) (hu : Upd F w w') (hF : ∀ k, OwnB v k → ¬ F k) : Own w' e size v n xs := by
  refine ⟨h.1, ?_⟩
  rcases h.2 with hn | ⟨g, cap, cur, rfl, hb, r⟩
  · exact .inl hn
  · exact .inr ⟨g, cap, cur, rfl, hu.blk hb (hF g (by simp [OwnB, Value.ownBlock])), r⟩
theorem Own.blk_ne (h : Own w e size v n xs) {g : Nat} {t : TypeId} {cs : Array Value} (hb : Blk w g t cs) (hne : e ≠ t) : ¬ OwnB v g := by
  rcases h.2 with ⟨rfl, _⟩ | ⟨g', cap, cur, rfl, hb', _⟩
  · simp [OwnB, Value.ownBlock]
  · simp [OwnB, Value.ownBlock]
    exact hb'.unlike hb hne
theorem Own.form (h : Own w e size v n xs) : ∃ A c, v = .slice A n c := by
  rcases h.2 with ⟨rfl, rfl⟩ | ⟨g, cap, cur, rfl, _⟩
  · exact ⟨_, _, rfl⟩
  · exact ⟨_, _, rfl⟩
theorem Own.rd (h : Own w e size v n xs) : Rd w size v n xs := by
  rcases h.2 with ⟨rfl, rfl⟩ | ⟨g, cap, cur, rfl, hb, hn, hc, hs, hx⟩
  · have : xs = [] := List.eq_nil_of_length_eq_zero (by simpa using h.1)
    subst this
    exact Rd.nil w size
  · refine Rd.of_blk hb hn hc h.1 (fun j u hu => ?_)
    rw [← hx, List.getElem?_take] at hu
    split at hu
    · simpa using hu
    · cases hu
theorem Own.rdF (h : Own w e size v n xs) (hF : ∀ k, OwnB v k → ¬ F k) : RdF F w size v n xs := fun _ hu => (h.upd hu hF).rd
end

/-- A slice whose source is nil, empty or not, appended to one that owns its block (bytes of the elements: 2^47 at most). -/
theorem run_append {P : Program} (w : World) (t ty e : TypeId) (i : TypeInfo) (z : Value) (size bytes : Nat) (ht : P.underlying t = some (.slice e)) (hi : P.info? e = some i) (hz : i.zero = some z)
    (hsize : i.size = size) (hby : i.bytes = bytes) (hzs : z.cells.size = size)
    (v : Value) (n : Nat) (xs : List Value) (hown : Own w e size v n xs) (s : Value) (m : Nat) (ys : List Value) (hs : Rd w size s m ys) (h1 : ∀ u ∈ ys, u.oneCell' = true)
    (h63 : n + m ≤ maxLen) (hbytes : (n + m) * bytes ≤ 140737488355328) :
    ∃ v' w', (Builtin.append_ #[t, t] ty #[v, s]).run P w = .ok v' w' ∧ Own w' e size v' (n + m) (xs ++ ys) ∧ Upd (OwnB v) w w' ∧ (∀ k, OwnB v' k → OwnB v k ∨ w.heap.size ≤ k) := by
  subst hsize
  subst hby
  obtain ⟨A, c, rfl, hmc, hc, hyl, hA⟩ := hs
  have hlen : (xs ++ ys).length = (n + m) * i.size := by rw [List.length_append, hown.1, hyl, Nat.add_mul]
  have hsmall : n + m ≤ 9223372036854775807 := by simp only [maxLen] at h63; omega
  rcases Nat.eq_zero_or_pos m with hm | hm
  · subst hm
    have hy : ys = [] := List.eq_nil_of_length_eq_zero (by simpa using hyl)
    subst hy
    refine ⟨v, w, ?_, by simpa using hown, Upd.refl _ _, fun k hk => .inl hk⟩
    rcases hown.2 with ⟨rfl, rfl⟩ | ⟨g, cap, cur, rfl, hb, hnc, _⟩
    · cases A <;> simp [Builtin.append_, run_underlying ht, sizeOf, typeInfo, hi, Builtin.lenOf, Builtin.firstCells, loadCells, loadCellsFrom]
    · cases A <;> simp [Builtin.append_, run_underlying ht, sizeOf, typeInfo, hi, Builtin.lenOf, Builtin.firstCells, hnc, storeCells, loadCells, loadCellsFrom]
  · obtain ⟨g0, o0, rfl, hcell⟩ := hA hm
    have hcells : ∀ j u, ys[j]? = some u → w.cell? ((⟨g0, o0, none⟩ : Addr).add j) = some u := by
      intro j u hu
      have : (⟨g0, o0, none⟩ : Addr).add j = ⟨g0, o0 + j, none⟩ := by unfold Addr.add; split <;> simp_all
      rw [this]; exact hcell j u hu
    have grown : ∀ (old : Nat), old < n + m →
        Own (w.drew.alloc (.cells (xs.toArray ++ ys.toArray ++ Builtin.zeroCells z.cells (grownCap w (n + m) old e - (n + m))) e)) e i.size
          (.slice (some ⟨w.heap.size, 0, none⟩) (n + m) (grownCap w (n + m) old e)) (n + m) (xs ++ ys) := by
      intro old ho
      have hge := grownCap_ge w (n + m) old e
      have hcm : grownCap w (n + m) old e ≤ maxLen := grownCap_le_maxLen w (n + m) old e h63
      refine ⟨hlen, .inr ⟨w.heap.size, _, _, rfl, Blk.new w.drew _ _, hge, hcm, ?_, ?_⟩⟩
      · simp only [Array.size_append, List.size_toArray, size_zeroCells, hzs, hown.1, hyl, ← Nat.add_mul]
        exact Nat.le_of_eq (by congr 1; omega)
      · simp only [Array.toList_append, List.append_assoc]
        rw [← List.append_assoc, ← hlen]
        exact List.take_left
    rcases hown.2 with ⟨rfl, rfl⟩ | ⟨g, cap, cur, rfl, hb, hnc, hcm, hcs, htake⟩
    · have hx : xs = [] := List.eq_nil_of_length_eq_zero (by simpa using hown.1)
      subst hx
      have hr := run_append_nil (P := P) w t ty e i z ht hi hz ⟨g0, o0, none⟩ m c ys hyl hcells hm (by omega) (by simp only [Nat.zero_add] at hbytes; omega)
      have hg := grown 0 (by omega)
      simp only [Nat.zero_add, List.nil_append] at hg ⊢
      refine ⟨_, _, hr, by simpa using hg, (((Upd.refl _ w).drew).alloc _), fun k hk => ?_⟩
      simp [OwnB, Value.ownBlock] at hk
      exact .inr (by omega)
    · by_cases hroom : n + m ≤ cap
      · have hfit : n * i.size + ys.length ≤ cur.size := by
          rw [hyl, ← Nat.add_mul]
          exact Nat.le_trans (Nat.mul_le_mul_right _ hroom) hcs
        have hr := run_append_room (P := P) w t ty e i ht hi g n cap cur hb ⟨g0, o0, none⟩ m c ys hyl hcells h1 hroom hfit
        refine ⟨_, _, hr, ⟨hlen, .inr ⟨g, cap, _, rfl, setRow_heap w g cur _ e (0, 0) hb, hroom, hcm, ?_, ?_⟩⟩, (Upd.refl _ w).setRow (.inl (by simp [OwnB, Value.ownBlock])) _, fun k hk => .inl (by simpa [OwnB, Value.ownBlock] using hk)⟩
        · simp only [List.size_toArray, List.length_append, List.length_take, List.length_drop, Array.length_toList]
          omega
        · rw [htake]
          simp only []
          rw [← hlen, List.take_append_of_le_length (Nat.le_refl _), List.take_length]
      · have holds : ∀ j u, xs[j]? = some u → w.cell? ((⟨g, 0, none⟩ : Addr).add j) = some u := by
          intro j u hu
          have : (⟨g, 0, none⟩ : Addr).add j = ⟨g, j, none⟩ := by unfold Addr.add; split <;> simp_all
          rw [this, hb.cell]
          rw [← htake, List.getElem?_take] at hu
          split at hu
          · simpa using hu
          · cases hu
        have hr := run_append_grow (P := P) w t ty e i z ht hi hz ⟨g, 0, none⟩ n cap xs hown.1 holds ⟨g0, o0, none⟩ m c ys hyl hcells (by omega) (by omega) (growslice_fits (by omega) hbytes)
        refine ⟨_, _, hr, grown cap (by omega), (((Upd.refl _ w).drew).alloc _), fun k hk => ?_⟩
        simp [OwnB, Value.ownBlock] at hk
        exact .inr (by omega)

/-- .. at the operation. -/
theorem wpList_append_to {P : Program} (w : World) {ops : Array Oper} {rest : List Oper} {o : Oper} {a : Act} {Q : Exit → Act → World → Prop} (hgd : o.guard = none) (s x : Operand) (t : TypeId)
    (ho : o.op = .call { callee := .builtin .append, args := #[s, x], argTypes := #[t, t] })
    (e : TypeId) (i : TypeInfo) (z : Value) (size bytes : Nat) (ht : P.underlying t = some (.slice e)) (hi : P.info? e = some i) (hz : i.zero = some z)
    (hsize : i.size = size) (hby : i.bytes = bytes) (hzs : z.cells.size = size)
    (v : Value) (n : Nat) (xs : List Value) (hs : a.eval s = v) (hown : Own w e size v n xs)
    (u : Value) (m : Nat) (ys : List Value) (hx : a.eval x = u) (hr : Rd w size u m ys) (h1 : ∀ u ∈ ys, u.oneCell' = true)
    (h63 : n + m ≤ maxLen) (hbytes : (n + m) * bytes ≤ 140737488355328)
    (h : ∀ A c w', Own w' e size (.slice A (n + m) c) (n + m) (xs ++ ys) → Upd (OwnB v) w w' → (∀ k, OwnB (.slice A (n + m) c) k → OwnB v k ∨ w.heap.size ≤ k) → wpList P ops Q rest (a.put o.dst (.slice A (n + m) c)) w') : wpList P ops Q (o :: rest) a w := by
  refine wpList_plain hgd fun _ hK => ?_
  obtain ⟨v', w', hrun, h2, h3, h4⟩ := run_append (P := P) w t o.type e i z size bytes ht hi hz hsize hby hzs v n xs hown u m ys hr h1 h63 hbytes
  unfold Oper.wp execOp
  simp only [ho, resolve, invoke, builtin, Sem.run_bind, Sem.run_pure, Result.andThen_ok, List.map_toArray, List.map_cons, List.map_nil, hs, hx, hrun]
  obtain ⟨A, c, rfl⟩ := h2.form
  exact hK _ _ (h A c w' h2 h3 h4)

theorem Blk.row {w : World} {g : Nat} {t : TypeId} {cs : Array Value} (h : Blk w g t cs) (cs' : Array Value) : Blk (w.setRow g cs') g t cs' := setRow_heap w g cs cs' t (0, 0) h
theorem bytes_oneCell (bs : List UInt8) : ∀ u ∈ bs.map byteV, u.oneCell' = true := by
  intro u hu
  obtain ⟨b, _, rfl⟩ := List.mem_map.1 hu
  rfl
end
end Go.Proofs.YtengcmfdfmnacaaGreat
