/- The hash, on plain data: what both implementations compute. No condition. The genesis on plain data: its text, its validity. No condition. Votes, signed votes and views on plain data: what Valid, Encode, Decode and the orders of the program and of the reference compute, and that Decode inverts Encode. No condition. General words on memory for the proofs of this seat: a block known whole, what may have been written, slices that read as lists, slices that own their block, append. No condition. The disk of the program in memory, and what the map of its files does. No condition. The hash functions of package hash and of the reference: rotations, mixing, words. No condition. The hash functions of package hash and of the reference: names of numbers, words. No condition. -/
import GoSem.ClaimWide
import Derived.Laws.BitsAllLaws
import Derived.WalkKit
import Derived.WalkLawsBesides
import Derived.Below
import Derived.Laws.OwnMore
import Derived.Deep.Draws
import Derived.Test.YtengcmfdfmnacaaGreatLay
import Derived.Maps.OwnSet
import Derived.Maps.Ext
import Derived.Sort.KeysCollected
import Derived.WalkSpells
import Derived.Lib.Hide
import Derived.Laws.MathBits
import Derived.RegionTactic
import Derived.BigRegion
import Derived.StillTailTactics
import Derived.Deep.QuietTactic
import Derived.BigQuiet
namespace Go.Proofs.YtengcmfdfmnacaaGreat
section
open Go

def rot13 (y : Int) : Int := bits .or .u64 (IntKind.u64.wrap (y * 8192)) (y / 2251799813685248)
def rot32 (x : Int) : Int := bits .or .u64 (IntKind.u64.wrap (x * 4294967296)) (x / 4294967296)
def mixS (p : Int × Int) : Int × Int :=
  (IntKind.u64.wrap (rot32 (IntKind.u64.wrap (p.1 + p.2)) * 11400714819323198485), bits .xor .u64 (rot13 p.2) (IntKind.u64.wrap (p.1 + p.2)))
def mixN : Nat → Int × Int → Int × Int
  | 0, p => p
  | n + 1, p => mixS (mixN n p)

/-- The number whose bytes, the highest first, are bs. -/
def be (bs : List UInt8) : Nat := bs.foldl (fun v c => v * 256 + c.toNat) 0
def wordN (bs : List UInt8) : Nat := be (bs.take 8) * 256 ^ (8 - bs.length)
def hstep (p : Int × Int) (bs : List UInt8) : Int × Int := mixN 2 (bits .xor .u64 p.1 (wordN bs), p.2)
def hk (bs : List UInt8) : Nat → Int × Int
  | 0 => (2611923443488327891, 1376283091369227076)
  | k + 1 => hstep (hk bs k) (bs.drop (8 * k))
def ofV (v : Int) : List UInt8 := [v / 72057594037927936, v / 281474976710656, v / 1099511627776, v / 4294967296, v / 16777216, v / 65536, v / 256, v].map (fun z => UInt8.ofNat (z % 256).toNat)
def hend (p : Int × Int) (n : Nat) : Int × Int := mixN 4 (p.1, bits .xor .u64 p.2 n)
def hsum (bs : List UInt8) : List UInt8 := let q := hend (hk bs ((bs.length + 7) / 8)) bs.length; ofV (bits .xor .u64 q.1 q.2)
def tagged (tag : UInt8) (bs : List UInt8) : List UInt8 := hsum (tag :: bs)

theorem be_snoc (l : List UInt8) (c : UInt8) : be (l ++ [c]) = be l * 256 + c.toNat := by simp [be]
theorem be_go : ∀ (l : List UInt8) (v : Nat), l.foldl (fun v c => v * 256 + c.toNat) v < (v + 1) * 256 ^ l.length
  | [], v => by simp
  | c :: l, v => by
    have h := be_go l (v * 256 + c.toNat)
    have hc := c.toNat_lt
    rw [List.foldl_cons, List.length_cons, Nat.pow_succ]
    refine Nat.lt_of_lt_of_le h ?_
    rw [Nat.mul_comm (256 ^ l.length), ← Nat.mul_assoc]
    exact Nat.mul_le_mul_right _ (by omega)
theorem be_lt (l : List UInt8) : be l < 256 ^ l.length := by
  have := be_go l 0
  simpa [be] using this
theorem be_take_succ (l : List UInt8) (k : Nat) (c : UInt8) (h : l[k]? = some c) : be (l.take (k + 1)) = be (l.take k) * 256 + c.toNat := by
  obtain ⟨hlt, rfl⟩ := List.getElem?_eq_some_iff.1 h
  rw [List.take_succ_eq_append_getElem hlt, be_snoc]
theorem be_take_lt (l : List UInt8) (k : Nat) : be (l.take k) < 256 ^ k := by
  refine Nat.lt_of_lt_of_le (be_lt _) (Nat.pow_le_pow_right (by omega) (List.length_take_le _ _))

theorem wrap_u64 (n : Int) : IntKind.u64.wrap n = n % 18446744073709551616 := by simp [IntKind.wrap, IntKind.bits, IntKind.signed]
theorem wrap_u64_nat (n : Nat) (h : n < 18446744073709551616) : IntKind.u64.wrap (n : Int) = n := by rw [wrap_u64]; omega
/-- Two numbers whose bits lie apart. -/
theorem or_join (i a b : Nat) (ha : a % 2 ^ i = 0) (hb : b < 2 ^ i) (h1 : a < 18446744073709551616) (h2 : b < 18446744073709551616) : bits .or .u64 (a : Int) (b : Int) = ((a + b : Nat) : Int) := by
  rw [u64_or_nat a b h1 h2, nat_join i a b ha hb]

/-- One more byte at the end: v<<8 | c. -/
theorem or_byte (v : Nat) (c : UInt8) (h : v < 72057594037927936) : bits .or .u64 (IntKind.u64.wrap ((v : Int) * 256)) (c.toNat : Int) = ((v * 256 + c.toNat : Nat) : Int) := by
  have hc := c.toNat_lt
  have e : ((v : Int) * 256) = ((v * 256 : Nat) : Int) := by omega
  rw [e, wrap_u64_nat _ (by omega)]
  exact or_join 8 _ _ (by omega) (by omega) (by omega) (by omega)

/-- One more byte at its place: w | c << (56 - 8 i). -/
theorem or_place (u i : Nat) (c : UInt8) (hi : i < 8) (hu : u < 256 ^ i) : bits .or .u64 ((u * 256 ^ (8 - i) : Nat) : Int) (IntKind.u64.wrap ((c.toNat : Int) * 2 ^ (56 - 8 * i))) = (((u * 256 + c.toNat) * 256 ^ (7 - i) : Nat) : Int) := by
  have hc := c.toNat_lt
  have hp : (256 : Nat) ^ (8 - i) = 256 * 256 ^ (7 - i) := by rw [show 8 - i = (7 - i) + 1 by omega, Nat.pow_succ, Nat.mul_comm]
  have h2 : (2 : Nat) ^ (56 - 8 * i) = 256 ^ (7 - i) := by rw [show (256 : Nat) = 2 ^ 8 from rfl, ← Nat.pow_mul]; congr 1; omega
  have e : ((c.toNat : Int) * 2 ^ (56 - 8 * i)) = ((c.toNat * 256 ^ (7 - i) : Nat) : Int) := by rw [← h2]; simp
  have hpos : 0 < 256 ^ (7 - i) := Nat.pow_pos (by omega)
  have hall : 256 ^ i * 256 ^ (8 - i) = 18446744073709551616 := by rw [← Nat.pow_add, show i + (8 - i) = 8 by omega]
  have hb : c.toNat * 256 ^ (7 - i) < 256 ^ (8 - i) := by rw [hp]; exact Nat.mul_lt_mul_of_pos_right hc hpos
  have hle : 256 ^ (8 - i) ≤ 18446744073709551616 := by rw [← hall]; exact Nat.le_mul_of_pos_left _ (Nat.pow_pos (by omega))
  have ha : u * 256 ^ (8 - i) < 18446744073709551616 := by rw [← hall]; exact Nat.mul_lt_mul_of_pos_right hu (Nat.pow_pos (by omega))
  have hq : (256 : Nat) ^ (8 - i) = 2 ^ (8 * (8 - i)) := by rw [show (256 : Nat) = 2 ^ 8 from rfl, ← Nat.pow_mul]
  rw [e, wrap_u64_nat _ (by omega), or_join (8 * (8 - i)) _ _ (by rw [hq]; exact Nat.mul_mod_left _ _) (by rw [← hq]; exact hb) ha (by omega), hp, Nat.add_mul, Nat.mul_assoc]
def byteAt (v : Int) (i : Nat) : UInt8 := UInt8.ofNat ((v / 2 ^ (8 * i)) % 256).toNat
/-- The lowest n bytes of v, the highest first. -/
def beB (v : Int) : Nat → List UInt8
  | 0 => []
  | n + 1 => byteAt v n :: beB v n
theorem beB_len (v : Int) (n : Nat) : (beB v n).length = n := by induction n with | zero => rfl | succ n ih => simp [beB, ih]
end

section
open Go

/-- A genesis. -/
structure GenS where
  n : Int
  stake : Int
  vals : List (List UInt8)
  accs : List (List UInt8)
  bals : List Int
def amtB (n : Int) : Bool := decide (0 ≤ n) && decide (n ≤ 1099511627776)
def validG (g : GenS) : Bool :=
  decide (1 ≤ g.n) && decide (g.n ≤ 7) && decide (1 ≤ g.vals.length) && decide (g.vals.length ≤ 10) && decide (g.n ≤ g.vals.length) && decide (1 ≤ g.accs.length) && decide (g.accs.length ≤ 16) && decide (g.bals.length = g.accs.length) && amtB g.stake && g.bals.all amtB
def encVals (l : List (List UInt8)) : List UInt8 := l.flatten
def encAccs (l : List (List UInt8)) (b : List Int) : List UInt8 := (List.zipWith (fun n a => n ++ beB a 6) l b).flatten
def encG (g : GenS) : List UInt8 := [1, byteAt g.n 0] ++ beB g.stake 6 ++ [byteAt g.vals.length 0] ++ encVals g.vals ++ [byteAt g.accs.length 0] ++ encAccs g.accs g.bals
def nm (b : UInt8) : List UInt8 := [b, 0, 0, 0, 0, 0, 0, 0]
/-- The genesis of the sanity check. -/
def awG : GenS := ⟨4, 0, [nm 1, nm 2, nm 3, nm 4], [nm 5], [1]⟩
theorem awG_valid : validG awG = true := by decide
end

section
open Go

structure VoteS where
  kind : Int
  slot : Int
  round : Int
  choice : Int
  signer : Int
  support : Int
  parent : List UInt8
  value : List UInt8

structure SignedS where
  vote : VoteS
  sig : List UInt8

structure ViewS where
  votes : List SignedS
  texts : List (List UInt8)

theorem VoteS.ext' {a b : VoteS} (h1 : a.kind = b.kind) (h2 : a.slot = b.slot) (h3 : a.round = b.round) (h4 : a.choice = b.choice) (h5 : a.signer = b.signer) (h6 : a.support = b.support) (h7 : a.parent = b.parent) (h8 : a.value = b.value) : a = b := by
  cases a; cases b; simp_all
theorem SignedS.ext' {a b : SignedS} (h1 : a.vote = b.vote) (h2 : a.sig = b.sig) : a = b := by cases a; cases b; simp_all
theorem ViewS.ext' {a b : ViewS} (h1 : a.votes = b.votes) (h2 : a.texts = b.texts) : a = b := by cases a; cases b; simp_all

instance : DecidableEq VoteS := fun a b => decidable_of_iff (a.kind = b.kind ∧ a.slot = b.slot ∧ a.round = b.round ∧ a.choice = b.choice ∧ a.signer = b.signer ∧ a.support = b.support ∧ a.parent = b.parent ∧ a.value = b.value)
  ⟨fun ⟨h1, h2, h3, h4, h5, h6, h7, h8⟩ => VoteS.ext' h1 h2 h3 h4 h5 h6 h7 h8, fun h => by subst h; simp⟩
instance : DecidableEq SignedS := fun a b => decidable_of_iff (a.vote = b.vote ∧ a.sig = b.sig) ⟨fun ⟨h1, h2⟩ => SignedS.ext' h1 h2, fun h => by subst h; simp⟩
instance : DecidableEq ViewS := fun a b => decidable_of_iff (a.votes = b.votes ∧ a.texts = b.texts) ⟨fun ⟨h1, h2⟩ => ViewS.ext' h1 h2, fun h => by subst h; simp⟩

def in64 (z : Int) : Prop := -9223372036854775808 ≤ z ∧ z ≤ 9223372036854775807
/-- A vote as memory can hold it. -/
structure VoteS.Fit (v : VoteS) : Prop where
  kind : in64 v.kind
  slot : in64 v.slot
  round : in64 v.round
  choice : in64 v.choice
  signer : in64 v.signer
  support : in64 v.support
  parent : v.parent.length = 8
  value : v.value.length = 8

abbrev zero8 : List UInt8 := [0, 0, 0, 0, 0, 0, 0, 0]

def slotsOf (k : Int) : Int := if k ≤ 4 then 9 else 0
def roundsOk (v : VoteS) : Prop :=
  if v.kind = 3 then 1 ≤ v.round ∧ v.round ≤ 12 ∧ 0 ≤ v.choice ∧ v.choice ≤ 1 ∧ (v.round ≠ 1 ∨ v.choice ≠ 0 ∨ v.support = 0)
  else if v.kind = 4 then 1 ≤ v.round ∧ v.round ≤ 12 ∧ 0 ≤ v.choice ∧ v.choice ≤ 2
  else v.round = 0 ∧ v.support = 0 ∧ v.choice = 1
def ValidP (v : VoteS) : Prop :=
  1 ≤ v.kind ∧ v.kind ≤ 7 ∧ 0 ≤ v.signer ∧ v.signer ≤ 9 ∧ 0 ≤ v.support ∧ v.support ≤ 1023 ∧ (v.choice = 1 ↔ v.value ≠ zero8) ∧ 0 ≤ v.slot ∧ v.slot ≤ slotsOf v.kind ∧ roundsOk v
instance (v : VoteS) : Decidable (roundsOk v) := by unfold roundsOk; infer_instance
instance (v : VoteS) : Decidable (ValidP v) := by unfold ValidP; infer_instance
def validB (v : VoteS) : Bool := decide (ValidP v)
def byteZ (z : Int) : UInt8 := UInt8.ofNat (z % 256).toNat
def encV (v : VoteS) : List UInt8 := [byteZ v.kind, byteZ v.slot, byteZ v.round, byteZ v.choice, byteZ v.signer] ++ beB v.support 2 ++ v.parent ++ v.value
def at8 (b : List UInt8) (i : Nat) : UInt8 := b[i]?.getD 0
def decV (b : List UInt8) : VoteS :=
  ⟨(at8 b 0).toNat, (at8 b 1).toNat, (at8 b 2).toNat, (at8 b 3).toNat, (at8 b 4).toNat, be ((b.drop 5).take 2), (b.drop 7).take 8, (b.drop 15).take 8⟩

theorem ValidP.small {v : VoteS} (h : ValidP v) : v.kind < 256 ∧ v.slot < 256 ∧ 0 ≤ v.round ∧ v.round < 256 ∧ 0 ≤ v.choice ∧ v.choice < 256 ∧ v.signer < 256 := by
  obtain ⟨h1, h2, h3, h4, h5, h6, h7, h8, h9, h10⟩ := h
  unfold slotsOf at h9
  unfold roundsOk at h10
  refine ⟨by omega, by split at h9 <;> omega, ?_, ?_, ?_, ?_, by omega⟩ <;> (split at h10 <;> (try split at h10) <;> omega)

/-! ### orders -/
def lessN (a b : List UInt8) : Bool := decide (be a < be b)
def lessV (a b : VoteS) : Bool :=
  if a.parent = b.parent then
    if a.slot = b.slot then if a.round = b.round then if a.kind = b.kind then if a.signer = b.signer then if a.choice = b.choice then
      if a.value = b.value then decide (a.support < b.support) else lessN a.value b.value
    else decide (a.choice < b.choice) else decide (a.signer < b.signer) else decide (a.kind < b.kind) else decide (a.round < b.round) else decide (a.slot < b.slot)
  else lessN a.parent b.parent
def lessT (a b : List UInt8) : Bool := Op.bytesLess a b
def lessS (a b : SignedS) : Bool := if a.vote = b.vote then lessT a.sig b.sig else lessV a.vote b.vote

def chainB {α : Type} (r : α → α → Bool) : List α → Bool
  | a :: b :: l => r a b && chainB r (b :: l)
  | _ => true
/-! ### signed votes -/
def okS (s : SignedS) : Bool := validB s.vote && s.sig.length == 370
def encS (s : SignedS) : List UInt8 := encV s.vote ++ s.sig
def decS (b : List UInt8) : SignedS := ⟨decV (b.take 23), b.drop 23⟩
/-! ### views -/
def encT (t : List UInt8) : List UInt8 := beB t.length 2 ++ t
def encView (V : ViewS) : List UInt8 := beB V.votes.length 4 ++ (V.votes.map encS).flatten ++ beB V.texts.length 4 ++ (V.texts.map encT).flatten
def okT (t : List UInt8) : Bool := decide (t.length ≤ 65535)
def argB (V : ViewS) : Bool := V.votes.all okS && V.texts.all okT
def ordB (V : ViewS) : Bool := chainB lessS V.votes && chainB lessT V.texts
/-- What Encode returns. -/
def encodeS (V : ViewS) : List UInt8 × Int := if argB V then if ordB V then (encView V, 0) else ([], 10) else ([], 1)

def decVotes : Nat → List UInt8 → Option (List SignedS × List UInt8)
  | 0, b => some ([], b)
  | n + 1, b => if b.length < 393 then none else if validB (decS (b.take 393)).vote then (decVotes n (b.drop 393)).map (fun p => (decS (b.take 393) :: p.1, p.2)) else none
def decTexts : Nat → List UInt8 → Option (List (List UInt8) × List UInt8)
  | 0, b => some ([], b)
  | n + 1, b => if b.length < 2 then none else if b.length < 2 + be (b.take 2) then none else (decTexts n (b.drop (2 + be (b.take 2)))).map (fun p => ((b.drop 2).take (be (b.take 2)) :: p.1, p.2))
def decRest (vs : List SignedS) (b : List UInt8) : Option ViewS :=
  if b.length < 4 then none else
  match decTexts (be (b.take 4)) (b.drop 4) with
  | none => none
  | some (ts, r) => if r = [] then if ordB ⟨vs, ts⟩ then some ⟨vs, ts⟩ else none else none
/-- What Decode returns (none: ErrForm). -/
def decodeS (b : List UInt8) : Option ViewS :=
  if b.length < 4 then none else
  match decVotes (be (b.take 4)) (b.drop 4) with
  | none => none
  | some (vs, r) => decRest vs r
end

section
open Go.RowKit

abbrev byteV (b : UInt8) : Value := .int .u8 b.toNat
abbrev strV (l : List UInt8) : Value := .string ⟨l.toArray⟩

/-! ### blocks known whole -/
def Blk (w : World) (g : Nat) (t : TypeId) (cs : Array Value) : Prop := w.heap[g]? = some (.cells cs t (0, 0))

section
variable {w w' : World} {g : Nat} {t : TypeId} {cs : Array Value}
theorem Blk.lt (h : Blk w g t cs) : g < w.heap.size := (Array.getElem?_eq_some_iff.1 h).1
theorem Blk.cell (h : Blk w g t cs) (i : Nat) : w.cell? ⟨g, i, none⟩ = cs[i]? := cell_of_row w g i cs t (0, 0) h
theorem Blk.frozen (h : Blk w g t cs) (i : Nat) : w.frozen? ⟨g, i, none⟩ = false := frozen_of_row w g i cs t h
theorem Blk.new (w : World) (t : TypeId) (cs : Array Value) : Blk (w.alloc (.cells cs t)) w.heap.size t cs := heap_alloc_new w _
theorem Blk.alloc (h : Blk w g t cs) (o : Obj) : Blk (w.alloc o) g t cs := (Below.heap_alloc w o g h.lt).trans h
theorem Blk.drew (h : Blk w g t cs) : Blk w.drew g t cs := h
theorem Blk.drewN (h : Blk w g t cs) (n : Nat) : Blk (w.drewN n) g t cs := h
theorem Blk.put (h : Blk w g t cs) (i : Nat) (u : Value) : Blk (w.setCell ⟨g, i, none⟩ u) g t (cs.setIfInBounds i u) := heap_setCell_same w g i cs t u h
theorem Blk.far (h : Blk w g t cs) {p : Addr} (hp : g ≠ p.block) (u : Value) : Blk (w.setCell p u) g t cs := (heap_setCell_other w p g u hp).trans h
theorem Blk.unlike {g' : Nat} {t' : TypeId} {cs' : Array Value} (h : Blk w g t cs) (h' : Blk w g' t' cs') (hne : t ≠ t') : g ≠ g' := by
  rintro rfl
  unfold Blk at h h'
  rw [h] at h'
  injection h' with h'
  injection h' with _ ht
  exact hne ht
end

/-! ### what may have been written: 'Upd F w w'': of the blocks that were there only those in F may have turned -/
structure Upd (F : Nat → Prop) (w w' : World) : Prop where
  os : w'.os = w.os
  tape : w'.tape = w.tape
  output : w'.output = w.output
  size : w.heap.size ≤ w'.heap.size
  block : ∀ k, k < w.heap.size → ¬ F k → w'.heap[k]? = w.heap[k]?

def NoF : Nat → Prop := fun _ => False

section
variable {F G : Nat → Prop} {w w' w'' : World}
theorem Upd.refl (F : Nat → Prop) (w : World) : Upd F w w := ⟨rfl, rfl, rfl, Nat.le_refl _, fun _ _ _ => rfl⟩
theorem Upd.trans (h : Upd F w w') (k : Upd G w' w'') (hG : ∀ i, i < w.heap.size → G i → F i) : Upd F w w'' :=
  ⟨k.os.trans h.os, k.tape.trans h.tape, k.output.trans h.output, Nat.le_trans h.size k.size,
   fun i hi hn => (k.block i (Nat.lt_of_lt_of_le hi h.size) (fun g => hn (hG i hi g))).trans (h.block i hi hn)⟩
theorem Upd.mono (h : Upd F w w') (hF : ∀ i, i < w.heap.size → F i → G i) : Upd G w w' :=
  ⟨h.os, h.tape, h.output, h.size, fun i hi hn => h.block i hi (fun f => hn (hF i hi f))⟩
theorem Upd.drew (h : Upd F w w') : Upd F w w'.drew := ⟨h.os, h.tape, h.output, h.size, h.block⟩
theorem Upd.drewN (h : Upd F w w') (n : Nat) : Upd F w (w'.drewN n) := ⟨h.os, h.tape, h.output, h.size, h.block⟩
theorem Upd.alloc (h : Upd F w w') (o : Obj) : Upd F w (w'.alloc o) :=
  ⟨h.os, h.tape, h.output, Nat.le_trans h.size (by simp), fun i hi hn => (Below.heap_alloc w' o i (Nat.lt_of_lt_of_le hi h.size)).trans (h.block i hi hn)⟩
theorem Upd.setCell (h : Upd F w w') {p : Addr} (hp : F p.block ∨ w.heap.size ≤ p.block) (u : Value) : Upd F w (w'.setCell p u) :=
  ⟨h.os, h.tape, h.output, by simpa [World.setCell] using h.size, fun i hi hn => (heap_setCell_other w' p i u (by
    rintro rfl
    rcases hp with hp | hp
    · exact hn hp
    · omega)).trans (h.block i hi hn)⟩
theorem Upd.setRow (h : Upd F w w') {g : Nat} (hp : F g ∨ w.heap.size ≤ g) (cs : Array Value) : Upd F w (w'.setRow g cs) :=
  ⟨h.os, h.tape, h.output, by simpa [World.setRow] using h.size, fun i hi hn => (setRow_other w' g i cs (by
    rintro rfl
    rcases hp with hp | hp
    · exact hn hp
    · omega)).trans (h.block i hi hn)⟩
theorem Upd.of_below {B : Nat} (h : Below B w w') (hF : ∀ i, i < w.heap.size → B ≤ i → F i) : Upd F w w' :=
  ⟨h.os, h.tape, h.output, h.size, fun i hi hn => h.block i (by
    rcases Nat.lt_or_ge i B with hlt | hge
    · exact hlt
    · exact absurd (hF i hi hge) hn)⟩
theorem Upd.below {B : Nat} (h : Upd F w w') (hB : B ≤ w.heap.size) (hF : ∀ i, i < B → ¬ F i) : Below B w w' :=
  ⟨h.os, h.tape, h.output, h.size, fun i hi => h.block i (by omega) (hF i hi)⟩
theorem Upd.blk {g : Nat} {t : TypeId} {cs : Array Value} (h : Upd F w w') (hb : Blk w g t cs) (hn : ¬ F g) : Blk w' g t cs := (h.block g hb.lt hn).trans hb
theorem Upd.cell (h : Upd F w w') {p : Addr} {v : Value} (hc : w.cell? p = some v) (hn : ¬ F p.block) : w'.cell? p = some v :=
  (World.cell?_of_block (h.block p.block (block_lt_of_cell hc) hn)).trans hc
end

/-! ### slices that read as lists -/
/-- The slice value v has n elements; its cells (size of them an element) read as xs. -/
def Rd (w : World) (size : Nat) (v : Value) (n : Nat) (xs : List Value) : Prop :=
  ∃ A c, v = .slice A n c ∧ n ≤ c ∧ c ≤ maxLen ∧ xs.length = n * size ∧
    (0 < n → ∃ g o, A = some ⟨g, o, none⟩ ∧ ∀ j u, xs[j]? = some u → w.cell? ⟨g, o + j, none⟩ = some u)

/-- .. and goes on doing so while only blocks of F are written. -/
def RdF (F : Nat → Prop) (w : World) (size : Nat) (v : Value) (n : Nat) (xs : List Value) : Prop := ∀ w', Upd F w w' → Rd w' size v n xs

def RdB (F : Nat → Prop) (w : World) (v : Value) (bs : List UInt8) : Prop := RdF F w 1 v bs.length (bs.map byteV)
def RdI (F : Nat → Prop) (w : World) (v : Value) (zs : List Int) : Prop := RdF F w 1 v zs.length (zs.map (Value.int .i64))

section
variable {F G : Nat → Prop} {w w' : World} {size n : Nat} {v : Value} {xs : List Value}
theorem RdF.now (h : RdF F w size v n xs) : Rd w size v n xs := h w (Upd.refl F w)
theorem RdF.upd (h : RdF F w size v n xs) (hu : Upd F w w') : RdF F w' size v n xs := fun w'' h'' => h w'' (hu.trans h'' (fun _ _ f => f))
theorem RdF.upd' (h : RdF F w size v n xs) (hu : Upd F w w') (hG : ∀ i, i < w.heap.size → G i → F i) : RdF G w' size v n xs := fun w'' h'' => h w'' (hu.trans h'' hG)
theorem RdF.mono (h : RdF F w size v n xs) (hG : ∀ i, i < w.heap.size → G i → F i) : RdF G w size v n xs := fun w'' h'' => h w'' (h''.mono hG)
theorem Rd.nil (w : World) (size : Nat) : Rd w size (.slice none 0 0) 0 [] := ⟨none, 0, rfl, Nat.le_refl _, Nat.zero_le _, by simp, fun h => absurd h (by omega)⟩
theorem RdF.nil (F : Nat → Prop) (w : World) (size : Nat) : RdF F w size (.slice none 0 0) 0 [] := fun w' _ => Rd.nil w' size
theorem Rd.of_blk {g o c : Nat} {t : TypeId} {cs : Array Value} (hb : Blk w g t cs) (hn : n ≤ c) (hm : c ≤ maxLen) (hl : xs.length = n * size) (hx : ∀ j u, xs[j]? = some u → cs[o + j]? = some u) :
    Rd w size (.slice (some ⟨g, o, none⟩) n c) n xs :=
  ⟨_, c, rfl, hn, hm, hl, fun _ => ⟨g, o, rfl, fun j u hu => (hb.cell _).trans (hx j u hu)⟩⟩
theorem RdF.of_blk {g o c : Nat} {t : TypeId} {cs : Array Value} (hb : Blk w g t cs) (hF : ¬ F g) (hn : n ≤ c) (hm : c ≤ maxLen) (hl : xs.length = n * size) (hx : ∀ j u, xs[j]? = some u → cs[o + j]? = some u) :
    RdF F w size (.slice (some ⟨g, o, none⟩) n c) n xs := fun _ hu => Rd.of_blk (hu.blk hb hF) hn hm hl hx
theorem Rd.len (h : Rd w size v n xs) : xs.length = n * size := by obtain ⟨_, _, _, _, _, hl, _⟩ := h; exact hl
theorem Rd.le (h : Rd w size v n xs) : n ≤ maxLen := by obtain ⟨_, _, _, hn, hc, _⟩ := h; omega
end

/-! ### slices that own their block -/
/-- The slice v of n elements of type e (size cells each) is nil, or lies at the head of a block of its own, of which xs are the first cells. -/
def Own (w : World) (e : TypeId) (size : Nat) (v : Value) (n : Nat) (xs : List Value) : Prop :=
  xs.length = n * size ∧ ((v = .slice none 0 0 ∧ n = 0) ∨
   ∃ g cap cur, v = .slice (some ⟨g, 0, none⟩) n cap ∧ Blk w g e cur ∧ n ≤ cap ∧ cap ≤ maxLen ∧ cap * size ≤ cur.size ∧ cur.toList.take (n * size) = xs)

/-- The block of a slice. -/
def OwnB (v : Value) : Nat → Prop := fun k => v.ownBlock = some k

section
variable {F : Nat → Prop} {w w' : World} {e : TypeId} {size n : Nat} {v : Value} {xs : List Value}
theorem Own.nil (w : World) (e : TypeId) (size : Nat) : Own w e size (.slice none 0 0) 0 [] := ⟨by simp, .inl ⟨rfl, rfl⟩⟩
theorem Own.lt (h : Own w e size v n xs) {k : Nat} (hk : OwnB v k) : k < w.heap.size := by
  rcases h.2 with ⟨rfl, _⟩ | ⟨g, cap, cur, rfl, hb, _⟩
  · simp [OwnB, Value.ownBlock] at hk
  · simp [OwnB, Value.ownBlock] at hk
    exact hk ▸ hb.lt
theorem Own.upd (h : Own w e size v n xs) (hu : Upd F w w') (hF : ∀ k, OwnB v k → ¬ F k) : Own w' e size v n xs := by
  refine ⟨h.1, ?_⟩
  rcases h.2 with hn | ⟨g, cap, cur, rfl, hb, r⟩
  · exact .inl hn
  · exact .inr ⟨g, cap, cur, rfl, hu.blk hb (hF g (by simp [OwnB, Value.ownBlock])), r⟩
theorem Own.blk_ne (h : Own w e size v n xs) {g : Nat} {t : TypeId} {cs : Array Value} (hb : Blk w g t cs) (hne : e ≠ t) : ¬ OwnB v g := by
  rcases h.2 with ⟨rfl, _⟩ | ⟨g', cap, cur, rfl, hb', _⟩
  · simp [OwnB, Value.ownBlock]
  · simp [OwnB, Value.ownBlock]
    exact hb'.unlike hb hne
theorem Own.form (h : Own w e size v n xs) : ∃ A c, v = .slice A n c := by
  rcases h.2 with ⟨rfl, rfl⟩ | ⟨g, cap, cur, rfl, _⟩
  · exact ⟨_, _, rfl⟩
  · exact ⟨_, _, rfl⟩
theorem Own.rd (h : Own w e size v n xs) : Rd w size v n xs := by
  rcases h.2 with ⟨rfl, rfl⟩ | ⟨g, cap, cur, rfl, hb, hn, hc, hs, hx⟩
  · have : xs = [] := List.eq_nil_of_length_eq_zero (by simpa using h.1)
    subst this
    exact Rd.nil w size
  · refine Rd.of_blk hb hn hc h.1 (fun j u hu => ?_)
    rw [← hx, List.getElem?_take] at hu
    split at hu
    · simpa using hu
    · cases hu
theorem Own.rdF (h : Own w e size v n xs) (hF : ∀ k, OwnB v k → ¬ F k) : RdF F w size v n xs := fun _ hu => (h.upd hu hF).rd
end

/-- A slice whose source is nil, empty or not, appended to one that owns its block (bytes of the elements: 2^47 at most). -/
theorem run_append {P : Program} (w : World) (t ty e : TypeId) (i : TypeInfo) (z : Value) (size bytes : Nat) (ht : P.underlying t = some (.slice e)) (hi : P.info? e = some i) (hz : i.zero = some z)
    (hsize : i.size = size) (hby : i.bytes = bytes) (hzs : z.cells.size = size)
    (v : Value) (n : Nat) (xs : List Value) (hown : Own w e size v n xs) (s : Value) (m : Nat) (ys : List Value) (hs : Rd w size s m ys) (h1 : ∀ u ∈ ys, u.oneCell' = true)
    (h63 : n + m ≤ maxLen) (hbytes : (n + m) * bytes ≤ 140737488355328) :
    ∃ v' w', (Builtin.append_ #[t, t] ty #[v, s]).run P w = .ok v' w' ∧ Own w' e size v' (n + m) (xs ++ ys) ∧ Upd (OwnB v) w w' ∧ (∀ k, OwnB v' k → OwnB v k ∨ w.heap.size ≤ k) := by
  subst hsize
  subst hby
  obtain ⟨A, c, rfl, hmc, hc, hyl, hA⟩ := hs
  have hlen : (xs ++ ys).length = (n + m) * i.size := by rw [List.length_append, hown.1, hyl, Nat.add_mul]
  have hsmall : n + m ≤ 9223372036854775807 := by simp only [maxLen] at h63; omega
  rcases Nat.eq_zero_or_pos m with hm | hm
  · subst hm
    have hy : ys = [] := List.eq_nil_of_length_eq_zero (by simpa using hyl)
    subst hy
    refine ⟨v, w, ?_, by simpa using hown, Upd.refl _ _, fun k hk => .inl hk⟩
    rcases hown.2 with ⟨rfl, rfl⟩ | ⟨g, cap, cur, rfl, hb, hnc, _⟩
    · cases A <;> simp [Builtin.append_, run_underlying ht, sizeOf, typeInfo, hi, Builtin.lenOf, Builtin.firstCells, loadCells, loadCellsFrom]
    · cases A <;> simp [Builtin.append_, run_underlying ht, sizeOf, typeInfo, hi, Builtin.lenOf, Builtin.firstCells, hnc, storeCells, loadCells, loadCellsFrom]
  · obtain ⟨g0, o0, rfl, hcell⟩ := hA hm
    have hcells : ∀ j u, ys[j]? = some u → w.cell? ((⟨g0, o0, none⟩ : Addr).add j) = some u := by
      intro j u hu
      have : (⟨g0, o0, none⟩ : Addr).add j = ⟨g0, o0 + j, none⟩ := by unfold Addr.add; split <;> simp_all
      rw [this]; exact hcell j u hu
    have grown : ∀ (old : Nat), old < n + m →
        Own (w.drew.alloc (.cells (xs.toArray ++ ys.toArray ++ Builtin.zeroCells z.cells (grownCap w (n + m) old e - (n + m))) e)) e i.size
          (.slice (some ⟨w.heap.size, 0, none⟩) (n + m) (grownCap w (n + m) old e)) (n + m) (xs ++ ys) := by
      intro old ho
      have hge := grownCap_ge w (n + m) old e
      have hcm : grownCap w (n + m) old e ≤ maxLen := grownCap_le_maxLen w (n + m) old e h63
      refine ⟨hlen, .inr ⟨w.heap.size, _, _, rfl, Blk.new w.drew _ _, hge, hcm, ?_, ?_⟩⟩
      · simp only [Array.size_append, List.size_toArray, size_zeroCells, hzs, hown.1, hyl, ← Nat.add_mul]
        exact Nat.le_of_eq (by congr 1; omega)
      · simp only [Array.toList_append, List.append_assoc]
        rw [← List.append_assoc, ← hlen]
        exact List.take_left
    rcases hown.2 with ⟨rfl, rfl⟩ | ⟨g, cap, cur, rfl, hb, hnc, hcm, hcs, htake⟩
    · have hx : xs = [] := List.eq_nil_of_length_eq_zero (by simpa using hown.1)
      subst hx
      have hr := run_append_nil (P := P) w t ty e i z ht hi hz ⟨g0, o0, none⟩ m c ys hyl hcells hm (by omega) (by simp only [Nat.zero_add] at hbytes; omega)
      have hg := grown 0 (by omega)
      simp only [Nat.zero_add, List.nil_append] at hg ⊢
      refine ⟨_, _, hr, by simpa using hg, (((Upd.refl _ w).drew).alloc _), fun k hk => ?_⟩
      simp [OwnB, Value.ownBlock] at hk
      exact .inr (by omega)
    · by_cases hroom : n + m ≤ cap
      · have hfit : n * i.size + ys.length ≤ cur.size := by
          rw [hyl, ← Nat.add_mul]
          exact Nat.le_trans (Nat.mul_le_mul_right _ hroom) hcs
        have hr := run_append_room (P := P) w t ty e i ht hi g n cap cur hb ⟨g0, o0, none⟩ m c ys hyl hcells h1 hroom hfit
        refine ⟨_, _, hr, ⟨hlen, .inr ⟨g, cap, _, rfl, setRow_heap w g cur _ e (0, 0) hb, hroom, hcm, ?_, ?_⟩⟩, (Upd.refl _ w).setRow (.inl (by simp [OwnB, Value.ownBlock])) _, fun k hk => .inl (by simpa [OwnB, Value.ownBlock] using hk)⟩
        · simp only [List.size_toArray, List.length_append, List.length_take, List.length_drop, Array.length_toList]
          omega
        · rw [htake]
          simp only []
          rw [← hlen, List.take_append_of_le_length (Nat.le_refl _), List.take_length]
      · have holds : ∀ j u, xs[j]? = some u → w.cell? ((⟨g, 0, none⟩ : Addr).add j) = some u := by
          intro j u hu
          have : (⟨g, 0, none⟩ : Addr).add j = ⟨g, j, none⟩ := by unfold Addr.add; split <;> simp_all
          rw [this, hb.cell]
          rw [← htake, List.getElem?_take] at hu
          split at hu
          · simpa using hu
          · cases hu
        have hr := run_append_grow (P := P) w t ty e i z ht hi hz ⟨g, 0, none⟩ n cap xs hown.1 holds ⟨g0, o0, none⟩ m c ys hyl hcells (by omega) (by omega) (growslice_fits (by omega) hbytes)
        refine ⟨_, _, hr, grown cap (by omega), (((Upd.refl _ w).drew).alloc _), fun k hk => ?_⟩
        simp [OwnB, Value.ownBlock] at hk
        exact .inr (by omega)

/-- .. at the operation. -/
theorem wpList_append_to {P : Program} (w : World) {ops : Array Oper} {rest : List Oper} {o : Oper} {a : Act} {Q : Exit → Act → World → Prop} (hgd : o.guard = none) (s x : Operand) (t : TypeId)
    (ho : o.op = .call { callee := .builtin .append, args := #[s, x], argTypes := #[t, t] })
    (e : TypeId) (i : TypeInfo) (z : Value) (size bytes : Nat) (ht : P.underlying t = some (.slice e)) (hi : P.info? e = some i) (hz : i.zero = some z)
    (hsize : i.size = size) (hby : i.bytes = bytes) (hzs : z.cells.size = size)
    (v : Value) (n : Nat) (xs : List Value) (hs : a.eval s = v) (hown : Own w e size v n xs)
    (u : Value) (m : Nat) (ys : List Value) (hx : a.eval x = u) (hr : Rd w size u m ys) (h1 : ∀ u ∈ ys, u.oneCell' = true)
    (h63 : n + m ≤ maxLen) (hbytes : (n + m) * bytes ≤ 140737488355328)
    (h : ∀ A c w', Own w' e size (.slice A (n + m) c) (n + m) (xs ++ ys) → Upd (OwnB v) w w' → (∀ k, OwnB (.slice A (n + m) c) k → OwnB v k ∨ w.heap.size ≤ k) → wpList P ops Q rest (a.put o.dst (.slice A (n + m) c)) w') : wpList P ops Q (o :: rest) a w := by
  refine wpList_plain hgd fun _ hK => ?_
  obtain ⟨v', w', hrun, h2, h3, h4⟩ := run_append (P := P) w t o.type e i z size bytes ht hi hz hsize hby hzs v n xs hown u m ys hr h1 h63 hbytes
  unfold Oper.wp execOp
  simp only [ho, resolve, invoke, builtin, Sem.run_bind, Sem.run_pure, Result.andThen_ok, List.map_toArray, List.map_cons, List.map_nil, hs, hx, hrun]
  obtain ⟨A, c, rfl⟩ := h2.form
  exact hK _ _ (h A c w' h2 h3 h4)

theorem Blk.row {w : World} {g : Nat} {t : TypeId} {cs : Array Value} (h : Blk w g t cs) (cs' : Array Value) : Blk (w.setRow g cs') g t cs' := setRow_heap w g cs cs' t (0, 0) h
theorem bytes_oneCell (bs : List UInt8) : ∀ u ∈ bs.map byteV, u.oneCell' = true := by
  intro u hu
  obtain ⟨b, _, rfl⟩ := List.mem_map.1 hu
  rfl
end

section
open Go.RowKit Go.Maps

/-- A file: its name, its block, the value of its content, the content, the durable part. -/
structure FRec where
  nm : List UInt8
  fb : Nat
  cv : Value
  c : List UInt8
  dur : Nat

def fileR : Value → Option (DataW Unit × List MemPlace)
  | .pointer none => some (.nil, [])
  | .pointer (some ⟨b, 0, none⟩) => some (.lit (.int .i64 b), [])
  | _ => none

def entD (r : FRec) : Lit × DataW Unit := (.string r.nm, .lit (.int .i64 r.fb))
def mapD (L : List FRec) : DataW Unit := .map (L.map entD)

abbrev ptrV (b : Nat) : Value := .pointer (some ⟨b, 0, none⟩)

/-- The blocks of a disk. -/
def foot (d mb : Nat) (L : List FRec) : Nat → Prop := fun k => k = d ∨ k = mb ∨ ∃ r ∈ L, k = r.fb ∨ OwnB r.cv k

theorem keyed : Keyed Tryz.prog 9 := string_keyed Tryz.underlying9
section
variable {w : World} {d mb : Nat} {off armed : Bool} {left : Nat} {L : List FRec}

end

/-! ### lists of files -/
def insR (r : FRec) : List FRec → List FRec
  | [] => [r]
  | y :: l => if bytesBefore r.nm y.nm then r :: y :: l else y :: insR r l

def delR (nm : List UInt8) (L : List FRec) : List FRec := L.filter (fun r => !(r.nm == nm))

theorem mem_insR {r x : FRec} {L : List FRec} : x ∈ insR r L ↔ x = r ∨ x ∈ L := by
  induction L with
  | nil => simp [insR]
  | cons y l ih =>
    simp only [insR]
    split
    · simp
    · simp only [List.mem_cons, ih]
      constructor
      · rintro (h | h | h) <;> simp [h]
      · rintro (h | h | h) <;> simp [h]

theorem length_insR (r : FRec) (L : List FRec) : (insR r L).length = L.length + 1 := by
  induction L with
  | nil => rfl
  | cons y l ih => simp only [insR]; split <;> simp [ih]

theorem pairwise_insR {R : FRec → FRec → Prop} {r : FRec} {L : List FRec} (hs : ∀ a b, R a b → R b a) (h : L.Pairwise R) (hr : ∀ x ∈ L, R r x) : (insR r L).Pairwise R := by
  induction L with
  | nil => simp [insR]
  | cons y l ih =>
    rw [List.pairwise_cons] at h
    simp only [insR]
    split
    · exact List.pairwise_cons.2 ⟨hr, List.pairwise_cons.2 h⟩
    · refine List.pairwise_cons.2 ⟨fun x hx => ?_, ih h.2 (fun x hx => hr x (by simp [hx]))⟩
      rcases mem_insR.1 hx with rfl | hx
      · exact hs _ _ (hr y (by simp))
      · exact h.1 x hx

/-- How many entries a map has is how many its datum has. -/
theorem ownsMap_exact {w : World} {b n : Nat} {L : List FRec} (h : w.ownsMap Tryz.prog 9 fileR b n (mapD L)) : w.ownsMap Tryz.prog 9 fileR b L.length (mapD L) := by
  obtain ⟨es, clock, hb, F, hs, hD⟩ := h
  refine ⟨es, clock, hb, F, ?_, hD⟩
  have e1 : es.size = ((es.toList.map (Go.WideElems.rg Tryz.prog 9 fileR)).foldr DataW.insert []).length := by rw [length_sorted]; simp
  have e2 : (L.map entD) = ((es.toList.map (Go.WideElems.rg Tryz.prog 9 fileR)).foldr DataW.insert []) := by
    simp only [mapD] at hD
    injection hD
  rw [e1, ← e2]
  simp

theorem ownsMap_upd {F : Nat → Prop} {w w' : World} {b n : Nat} {D : DataW Unit} (h : w.ownsMap Tryz.prog 9 fileR b n D) (hu : Upd F w w') (hF : ¬ F b) : w'.ownsMap Tryz.prog 9 fileR b n D := by
  have hlt := h.lt
  obtain ⟨es, clock, hb, r⟩ := h
  exact ⟨es, clock, (hu.block b hlt hF).trans hb, r⟩

theorem ownsMap_ne_blk {w : World} {b n g : Nat} {t : TypeId} {cs : Array Value} {D : DataW Unit} (h : w.ownsMap Tryz.prog 9 fileR b n D) (hb : Blk w g t cs) : b ≠ g := by
  rintro rfl
  obtain ⟨es, clock, he, _⟩ := h
  unfold Blk at hb
  rw [he] at hb
  cases hb

theorem ownsMap_ne_own {w : World} {b n k : Nat} {e : TypeId} {size m : Nat} {v : Value} {xs : List Value} {D : DataW Unit} (h : w.ownsMap Tryz.prog 9 fileR b n D) (ho : Own w e size v m xs) (hk : OwnB v k) : b ≠ k := by
  rcases ho.2 with ⟨rfl, _⟩ | ⟨g, cap, cur, rfl, hb, _⟩
  · simp [OwnB, Value.ownBlock] at hk
  · simp [OwnB, Value.ownBlock] at hk
    exact hk ▸ ownsMap_ne_blk h hb

theorem Own.ne_of {w : World} {k g : Nat} {e t : TypeId} {size m : Nat} {v : Value} {xs : List Value} {cs : Array Value} (ho : Own w e size v m xs) (hb : Blk w g t cs) (hne : e ≠ t) (hk : OwnB v k) : k ≠ g := by
  rintro rfl
  exact ho.blk_ne hb hne hk

end

section
open Go.RowKit

abbrev u64V (x : Int) : Value := .int .u64 x

set_option maxRecDepth 100000 in
theorem r1rotl_13 (x : Int) (w : World) : Calls Tryz.prog 127 #[u64V x, .int .u64 13] w fun e w' => e = .returned (u64V (rot13 x)) ∧ w = w' := by
  go_enter Tryz.func127, Tryz.ntmps127
  go_wp2
  go_ret
  exact ⟨rfl, rfl⟩
set_option maxRecDepth 100000 in
theorem r1rotl_32 (x : Int) (w : World) : Calls Tryz.prog 127 #[u64V x, .int .u64 32] w fun e w' => e = .returned (u64V (rot32 x)) ∧ w = w' := by
  go_enter Tryz.func127, Tryz.ntmps127
  go_wp2
  go_ret
  exact ⟨rfl, rfl⟩
set_option maxRecDepth 100000 in
theorem rotate_13 (x : Int) (w : World) : Calls Tryz.prog 149 #[u64V x, .int .i64 13] w fun e w' => e = .returned (u64V (rot13 x)) ∧ w = w' := by
  have e0 : bits .and .u64 13 63 = 13 := by decide
  go_enter Tryz.func149, Tryz.ntmps149
  go_wp2
  go_ret
  exact ⟨rfl, rfl⟩
set_option maxRecDepth 100000 in
theorem rotate_32 (x : Int) (w : World) : Calls Tryz.prog 149 #[u64V x, .int .i64 32] w fun e w' => e = .returned (u64V (rot32 x)) ∧ w = w' := by
  have e1 : bits .and .u64 32 63 = 32 := by decide
  go_enter Tryz.func149, Tryz.ntmps149
  go_wp2
  go_ret
  exact ⟨rfl, rfl⟩

set_option maxRecDepth 100000 in
theorem r1mix_any (x y : Int) (w : World) : Calls Tryz.prog 84 #[u64V x, u64V y] w fun e w' => e = .returned (.tuple #[u64V (mixS (x, y)).1, u64V (mixS (x, y)).2]) ∧ w = w' := by
  go_enter Tryz.func84, Tryz.ntmps84
  go_wp2_with fail
  refine (r1rotl_13 y w).mono ?_
  rintro e w' ⟨rfl, rfl⟩
  go_wp2_with fail
  refine (r1rotl_32 _ w).mono ?_
  rintro e w' ⟨rfl, rfl⟩
  go_wp2
  go_ret2
  exact ⟨rfl, rfl⟩

def MixPost (w : World) (g : Nat) (p : Int × Int) (e : Ending) (w' : World) : Prop := e = .returned (.tuple #[]) ∧ Blk w' g 172 #[u64V p.1, u64V p.2] ∧ Upd (fun k => k = g) w w'

def MixRel (w : World) (g n : Nat) (p : Int × Int) (i : Value) (wr : World) : Prop := ∃ k : Nat, k ≤ n ∧ i = .int .i64 k ∧ Blk wr g 172 #[u64V (mixN k p).1, u64V (mixN k p).2] ∧ Upd (fun k => k = g) w wr

set_option maxRecDepth 100000 in
set_option maxHeartbeats 2000000 in
theorem hmix_any {w : World} {g : Nat} {p : Int × Int} (h : Blk w g 172 #[u64V p.1, u64V p.2]) (n : Nat) (hn : n ≤ 1000) : Calls Tryz.prog 107 #[ptrV g, .int .i64 n] w (MixPost w g (mixN n p)) := by
  have H := Lib.hid h
  clear h
  go_enter Tryz.func107, Tryz.ntmps107
  go_wp2
  go_loopw [5] (fun i wr => MixRel w g n p i wr) (fun i _ => n - (intOf i).toNat)
  case atStart => exact ⟨0, Nat.zero_le _, rfl, H.out, Upd.refl _ _⟩
  case round =>
    obtain ⟨k, hk, rfl, hB, hU⟩ := hrel
    by_cases hlt : k < n
    · have t1 : decide ((k : Int) < n) = true := by simpa using hlt
      obtain ⟨q, hq⟩ : ∃ q, mixN k p = q := ⟨_, rfl⟩
      have hq1 : mixN (k + 1) p = mixS q := by rw [← hq]; rfl
      rw [hq] at hB
      obtain ⟨x, y⟩ := q
      simp only at hB
      have c0 : wr.cell? ⟨g, 0, none⟩ = some (u64V x) := hB.cell 0
      have c1 : wr.cell? ⟨g, 1, none⟩ = some (u64V y) := hB.cell 1
      have f0 : wr.frozen? ⟨g, 0, none⟩ = false := hB.frozen 0
      have f1 : wr.frozen? ⟨g, 1, none⟩ = false := hB.frozen 1
      have HB := Lib.hid hB
      have HU := Lib.hid hU
      have HQ := Lib.hid hq1
      clear hB hU hq hq1
      go_wp2
      go_region
      obtain ⟨w1, hw1⟩ : ∃ w1, w1 = (wr.setCell ⟨g, 0, none⟩ (u64V (IntKind.u64.wrap (x + y)))).drew := ⟨_, rfl⟩
      rw [← hw1]
      have B1 := Lib.hid (show Blk w1 g 172 #[u64V (IntKind.u64.wrap (x + y)), u64V y] ∧ Upd (fun k => k = g) w w1 from by
        rw [hw1]
        exact ⟨(HB.out.put 0 _).drew, (HU.out.setCell (p := ⟨g, 0, none⟩) (.inl rfl) _).drew⟩)
      have d0 : w1.drew.cell? ⟨g, 0, none⟩ = some (u64V (IntKind.u64.wrap (x + y))) := B1.out.1.drew.cell 0
      have d1 : w1.drew.cell? ⟨g, 1, none⟩ = some (u64V y) := B1.out.1.drew.cell 1
      have e0 : w1.drew.frozen? ⟨g, 0, none⟩ = false := B1.out.1.drew.frozen 0
      have e1 : w1.drew.frozen? ⟨g, 1, none⟩ = false := B1.out.1.drew.frozen 1
      clear hw1 c0 c1 f0 f1
      go_wp2_with fail
      go_still_tail 13, (by kernel_rfl)
      still_call ((rotate_13 y _).mono fun e w' ⟨a, b⟩ => ⟨a, b.symm⟩)
      repeat still_step
      refine wpStill_nil ?_
      change wpList _ _ _ _ _ w1.drew
      generalize hw2 : w1.drew = w2 at d0 d1 e0 e1 ⊢
      have W2 := Lib.hid hw2
      clear hw2
      go_wp2_with fail
      refine (rotate_32 _ _).mono ?_
      rintro e w' ⟨rfl, rfl⟩
      go_wp2
      go_roundw
      case rel =>
        refine ⟨k + 1, by omega, by go_num, ?_, ?_⟩
        · rw [HQ.out, ← W2.out]
          exact (B1.out.1.drew.put 1 _).put 0 _
        · rw [← W2.out]
          exact ((B1.out.2.drew).setCell (p := ⟨g, 1, none⟩) (.inl rfl) _).setCell (p := ⟨g, 0, none⟩) (.inl rfl) _
      case measure => simp [intOf]; omega
    · have t1 : decide ((k : Int) < n) = false := by simp; omega
      have HB := Lib.hid hB
      have HU := Lib.hid hU
      obtain rfl : k = n := by omega
      clear hB hU
      go_wp2
      go_end0
      exact ⟨rfl, HB.out, HU.out⟩
end

section
open Go.RowKit

/-- A name (an array of 8 bytes) as a value. -/
abbrev nameV (l : List UInt8) : Value := .agg (l.map byteV).toArray

theorem wrap_byte (z : Int) : Value.int .u8 (IntKind.u8.wrap z) = byteV (UInt8.ofNat (z % 256).toNat) := by
  have h1 := Int.emod_nonneg z (b := 256) (by omega)
  have h2 := Int.emod_lt_of_pos z (b := 256) (by omega)
  have : ((UInt8.ofNat (z % 256).toNat).toNat : Int) = z % 256 := by
    rw [UInt8.toNat_ofNat_of_lt' (by simp [UInt8.size]; omega)]
    omega
  rw [IntKind.wrap_u8', byteV, this]

set_option maxRecDepth 100000 in
theorem hOf_any (v : Int) (w : World) : Calls Tryz.prog 108 #[u64V v] w fun e w' => e = .returned (nameV (ofV v)) ∧ Upd NoF w w' := by
  go_enter Tryz.func108, Tryz.ntmps108
  go_wp2
  refine bodyPost_ret (v := nameV (ofV v)) (by simp [results, Tryz.results108, go_sem, ofV]; omega) rfl ⟨rfl, ?_⟩
  exact (Upd.refl NoF w).alloc _
set_option maxRecDepth 100000 in
theorem r1Of_any (v : Int) (w : World) : Calls Tryz.prog 85 #[u64V v] w fun e w' => e = .returned (nameV (ofV v)) ∧ Upd NoF w w' := by
  go_enter Tryz.func85, Tryz.ntmps85
  go_wp2
  refine bodyPost_ret (v := nameV (ofV v)) (by simp [results, Tryz.results85, go_sem, ofV]; omega) rfl ⟨rfl, ?_⟩
  exact (Upd.refl NoF w).alloc _

/-! ### words -/
theorem word8 (b0 b1 b2 b3 b4 b5 b6 b7 : UInt8) (l : List UInt8) :
    bits .or .u64 (bits .or .u64 (bits .or .u64 (bits .or .u64 (bits .or .u64 (bits .or .u64 (bits .or .u64 (IntKind.u64.wrap ((b0.toNat : Int) * 72057594037927936)) (IntKind.u64.wrap ((b1.toNat : Int) * 281474976710656))) (IntKind.u64.wrap ((b2.toNat : Int) * 1099511627776))) (IntKind.u64.wrap ((b3.toNat : Int) * 4294967296)))
      (IntKind.u64.wrap ((b4.toNat : Int) * 16777216))) (IntKind.u64.wrap ((b5.toNat : Int) * 65536))) (IntKind.u64.wrap ((b6.toNat : Int) * 256))) (b7.toNat : Int) = ((wordN (b0 :: b1 :: b2 :: b3 :: b4 :: b5 :: b6 :: b7 :: l) : Nat) : Int) := by
  have h0 := b0.toNat_lt
  have h1 := b1.toNat_lt
  have h2 := b2.toNat_lt
  have h3 := b3.toNat_lt
  have h4 := b4.toNat_lt
  have h5 := b5.toNat_lt
  have h6 := b6.toNat_lt
  have h7 := b7.toNat_lt
  have e0 : IntKind.u64.wrap ((b0.toNat : Int) * 72057594037927936) = ((b0.toNat * 256 ^ (8 - 1) : Nat) : Int) := by
    rw [show ((b0.toNat : Int) * 72057594037927936) = ((b0.toNat * 256 ^ (8 - 1) : Nat) : Int) by omega]
    exact wrap_u64_nat _ (by omega)
  have s1 := or_place b0.toNat 1 b1 (by omega) (by omega)
  have s2 := or_place (b0.toNat * 256 + b1.toNat) 2 b2 (by omega) (by omega)
  have s3 := or_place ((b0.toNat * 256 + b1.toNat) * 256 + b2.toNat) 3 b3 (by omega) (by omega)
  have s4 := or_place (((b0.toNat * 256 + b1.toNat) * 256 + b2.toNat) * 256 + b3.toNat) 4 b4 (by omega) (by omega)
  have s5 := or_place ((((b0.toNat * 256 + b1.toNat) * 256 + b2.toNat) * 256 + b3.toNat) * 256 + b4.toNat) 5 b5 (by omega) (by omega)
  have s6 := or_place (((((b0.toNat * 256 + b1.toNat) * 256 + b2.toNat) * 256 + b3.toNat) * 256 + b4.toNat) * 256 + b5.toNat) 6 b6 (by omega) (by omega)
  have s7 := or_place ((((((b0.toNat * 256 + b1.toNat) * 256 + b2.toNat) * 256 + b3.toNat) * 256 + b4.toNat) * 256 + b5.toNat) * 256 + b6.toNat) 7 b7 (by omega) (by omega)
  have k1 : (281474976710656 : Int) = 2 ^ (56 - 8 * 1) := rfl
  have k2 : (1099511627776 : Int) = 2 ^ (56 - 8 * 2) := rfl
  have k3 : (4294967296 : Int) = 2 ^ (56 - 8 * 3) := rfl
  have k4 : (16777216 : Int) = 2 ^ (56 - 8 * 4) := rfl
  have k5 : (65536 : Int) = 2 ^ (56 - 8 * 5) := rfl
  have k6 : (256 : Int) = 2 ^ (56 - 8 * 6) := rfl
  have k7 : (b7.toNat : Int) = IntKind.u64.wrap ((b7.toNat : Int) * 2 ^ (56 - 8 * 7)) := by
    rw [show ((b7.toNat : Int) * 2 ^ (56 - 8 * 7)) = ((b7.toNat : Nat) : Int) by omega, wrap_u64_nat _ (by omega)]
  rw [e0, k1, s1, k2, s2, k3, s3, k4, s4, k5, s5, k6, s6]
  rw [show bits .or .u64 ((((((((b0.toNat * 256 + b1.toNat) * 256 + b2.toNat) * 256 + b3.toNat) * 256 + b4.toNat) * 256 + b5.toNat) * 256 + b6.toNat) * 256 ^ (7 - 6) : Nat) : Int) (b7.toNat : Int) = _ from (congrArg (bits .or .u64 _) k7).trans s7]
  have hl : 256 ^ (8 - (b0 :: b1 :: b2 :: b3 :: b4 :: b5 :: b6 :: b7 :: l).length) = 1 := by
    rw [show 8 - (b0 :: b1 :: b2 :: b3 :: b4 :: b5 :: b6 :: b7 :: l).length = 0 by simp]
  unfold wordN
  rw [hl]
  simp [be]

theorem wrap_u64_byte (b : UInt8) : IntKind.u64.wrap (b.toNat : Int) = b.toNat := by
  have := b.toNat_lt
  exact wrap_u64_nat _ (by omega)
theorem word8w (b0 b1 b2 b3 b4 b5 b6 b7 : UInt8) (l : List UInt8) :
    bits .or .u64 (bits .or .u64 (bits .or .u64 (bits .or .u64 (bits .or .u64 (bits .or .u64 (bits .or .u64 (IntKind.u64.wrap ((IntKind.u64.wrap (b0.toNat : Int)) * 72057594037927936)) (IntKind.u64.wrap ((IntKind.u64.wrap (b1.toNat : Int)) * 281474976710656))) (IntKind.u64.wrap ((IntKind.u64.wrap (b2.toNat : Int)) * 1099511627776))) (IntKind.u64.wrap ((IntKind.u64.wrap (b3.toNat : Int)) * 4294967296)))
      (IntKind.u64.wrap ((IntKind.u64.wrap (b4.toNat : Int)) * 16777216))) (IntKind.u64.wrap ((IntKind.u64.wrap (b5.toNat : Int)) * 65536))) (IntKind.u64.wrap ((IntKind.u64.wrap (b6.toNat : Int)) * 256))) (IntKind.u64.wrap (b7.toNat : Int)) = ((wordN (b0 :: b1 :: b2 :: b3 :: b4 :: b5 :: b6 :: b7 :: l) : Nat) : Int) := by
  simp only [wrap_u64_byte]
  exact word8 b0 b1 b2 b3 b4 b5 b6 b7 l

theorem eight (bs : List UInt8) (h : 8 ≤ bs.length) : ∃ b0 b1 b2 b3 b4 b5 b6 b7 l, bs = b0 :: b1 :: b2 :: b3 :: b4 :: b5 :: b6 :: b7 :: l := by
  match bs, h with
  | b0 :: b1 :: b2 :: b3 :: b4 :: b5 :: b6 :: b7 :: l, _ => exact ⟨b0, b1, b2, b3, b4, b5, b6, b7, l, rfl⟩

/-- The cells of a slice of bytes. -/
theorem rd_cells {w : World} {A : Option Addr} {n c : Nat} {bs : List UInt8} (h : Rd w 1 (.slice A n c) n (bs.map byteV)) (h0 : 0 < n) : ∃ g o, A = some ⟨g, o, none⟩ ∧ ∀ j b, bs[j]? = some b → w.cell? ⟨g, o + j, none⟩ = some (byteV b) := by
  obtain ⟨A', c', e, _, _, hl, hx⟩ := h
  obtain ⟨g, o, e', hc⟩ := hx h0
  injection e with e
  exact ⟨g, o, e.trans e', fun j b hb => hc j _ (by rw [List.getElem?_map, hb]; rfl)⟩

set_option maxRecDepth 100000 in
set_option maxHeartbeats 2000000 in
theorem hword_long {w : World} {v : Value} {bs : List UInt8} (h : Rd w 1 v bs.length (bs.map byteV)) (h8 : 8 ≤ bs.length) : Calls Tryz.prog 106 #[v] w fun e w' => e = .returned (u64V (wordN bs)) ∧ Upd NoF w w' := by
  obtain ⟨A, c, rfl, _⟩ := id h
  obtain ⟨g, o, rfl, hc⟩ := rd_cells h (by omega)
  obtain ⟨b0, b1, b2, b3, b4, b5, b6, b7, l, rfl⟩ := eight bs h8
  have W := Lib.hid (word8w b0 b1 b2 b3 b4 b5 b6 b7 l)
  have q0 : w.cell? ⟨g, o, none⟩ = some (byteV b0) := hc 0 b0 rfl
  have q1 := hc 1 b1 rfl
  have q2 := hc 2 b2 rfl
  have q3 := hc 3 b3 rfl
  have q4 := hc 4 b4 rfl
  have q5 := hc 5 b5 rfl
  have q6 := hc 6 b6 rfl
  have q7 := hc 7 b7 rfl
  generalize hN : wordN (b0 :: b1 :: b2 :: b3 :: b4 :: b5 :: b6 :: b7 :: l) = N at W ⊢
  generalize (b0 :: b1 :: b2 :: b3 :: b4 :: b5 :: b6 :: b7 :: l).length = n at h8 ⊢
  have t0 : decide ((8 : Int) ≤ n) = true := by simp; omega
  have z0 : (0 : Int) < n := by omega
  have z1 : (1 : Int) < n := by omega
  have z2 : (2 : Int) < n := by omega
  have z3 : (3 : Int) < n := by omega
  have z4 : (4 : Int) < n := by omega
  have z5 : (5 : Int) < n := by omega
  have z6 : (6 : Int) < n := by omega
  have z7 : (7 : Int) < n := by omega
  have y0 : 0 < n := by omega
  have y1 : 1 < n := by omega
  have y2 : 2 < n := by omega
  have y3 : 3 < n := by omega
  have y4 : 4 < n := by omega
  have y5 : 5 < n := by omega
  have y6 : 6 < n := by omega
  have y7 : 7 < n := by omega
  clear h hc hN
  go_enter Tryz.func106, Tryz.ntmps106
  go_wp2
  go_quiet (fail)
  go_wp2
  go_ret
  refine ⟨?_, (Upd.refl NoF w).drewN _⟩
  rw [← W.out]
  rfl

set_option maxRecDepth 100000 in
set_option maxHeartbeats 2000000 in
theorem r1word_long {w : World} {v : Value} {bs : List UInt8} (h : Rd w 1 v bs.length (bs.map byteV)) (h8 : 8 ≤ bs.length) : Calls Tryz.prog 83 #[v] w fun e w' => e = .returned (u64V (wordN bs)) ∧ Upd NoF w w' := by
  obtain ⟨A, c, rfl, _⟩ := id h
  obtain ⟨g, o, rfl, hc⟩ := rd_cells h (by omega)
  obtain ⟨b0, b1, b2, b3, b4, b5, b6, b7, l, rfl⟩ := eight bs h8
  have W := Lib.hid (word8w b0 b1 b2 b3 b4 b5 b6 b7 l)
  have q0 : w.cell? ⟨g, o, none⟩ = some (byteV b0) := hc 0 b0 rfl
  have q1 := hc 1 b1 rfl
  have q2 := hc 2 b2 rfl
  have q3 := hc 3 b3 rfl
  have q4 := hc 4 b4 rfl
  have q5 := hc 5 b5 rfl
  have q6 := hc 6 b6 rfl
  have q7 := hc 7 b7 rfl
  generalize hN : wordN (b0 :: b1 :: b2 :: b3 :: b4 :: b5 :: b6 :: b7 :: l) = N at W ⊢
  generalize (b0 :: b1 :: b2 :: b3 :: b4 :: b5 :: b6 :: b7 :: l).length = n at h8 ⊢
  have t0 : decide ((8 : Int) ≤ n) = true := by simp; omega
  have z0 : (0 : Int) < n := by omega
  have z1 : (1 : Int) < n := by omega
  have z2 : (2 : Int) < n := by omega
  have z3 : (3 : Int) < n := by omega
  have z4 : (4 : Int) < n := by omega
  have z5 : (5 : Int) < n := by omega
  have z6 : (6 : Int) < n := by omega
  have z7 : (7 : Int) < n := by omega
  have y0 : 0 < n := by omega
  have y1 : 1 < n := by omega
  have y2 : 2 < n := by omega
  have y3 : 3 < n := by omega
  have y4 : 4 < n := by omega
  have y5 : 5 < n := by omega
  have y6 : 6 < n := by omega
  have y7 : 7 < n := by omega
  clear h hc hN
  go_enter Tryz.func83, Tryz.ntmps83
  go_wp2
  go_quiet (fail)
  go_wp2
  go_ret
  refine ⟨?_, (Upd.refl NoF w).drewN _⟩
  rw [← W.out]
  rfl

def WordRel (bs : List UInt8) (x i : Value) : Prop := ∃ k : Nat, k ≤ bs.length ∧ i = .int .i64 k ∧ x = u64V ((be (bs.take k) * 256 ^ (8 - k) : Nat) : Int)

set_option maxRecDepth 100000 in
set_option maxHeartbeats 2000000 in
theorem r1word_short {w : World} {v : Value} {bs : List UInt8} (h : Rd w 1 v bs.length (bs.map byteV)) (h8 : bs.length < 8) : Calls Tryz.prog 83 #[v] w fun e w' => e = .returned (u64V (wordN bs)) ∧ Upd NoF w w' := by
  obtain ⟨A, c, rfl, _⟩ := id h
  have H := Lib.hid h
  have t0 : decide ((8 : Int) ≤ bs.length) = false := by simp; omega
  have t0' : decide (8 ≤ bs.length) = false := by simp; omega
  clear h
  go_enter Tryz.func83, Tryz.ntmps83
  go_wp2
  go_loop [3, 4] (fun x i => WordRel bs x i) (fun _ i => bs.length - (intOf i).toNat)
  case atStart => exact ⟨0, Nat.zero_le _, rfl, by simp [be]⟩
  case round =>
    obtain ⟨k, hk, rfl, rfl⟩ := hrel
    by_cases hlt : k < bs.length
    · obtain ⟨g, o, rfl, hc⟩ := rd_cells H.out (by omega)
      obtain ⟨b, hb⟩ : ∃ b, bs[k]? = some b := ⟨_, List.getElem?_eq_getElem hlt⟩
      have q := hc k b hb
      have HE := Lib.hid (be_take_succ bs k b hb)
      have HL := Lib.hid (or_place (be (bs.take k)) k b (by omega) (be_take_lt bs k))
      have t1 : decide ((k : Int) < bs.length) = true := by simpa using hlt
      have t2 : (0:Int) ≤ k := by omega
      have t3 : (k:Int) < bs.length := by omega
      have e1 : (0 : Int) ≤ 56 - 8 * (k : Int) := by omega
      have e2 : (56 - 8 * (k : Int)).toNat = 56 - 8 * k := by omega
      generalize be (bs.take k) = u at HE HL ⊢
      clear hc hb
      go_wp2
      go_round
      case rel =>
        refine ⟨k + 1, by omega, by go_num, ?_⟩
        rw [HE.out, wrap_u64_byte, show ((u : Int) * 256 ^ (8 - k)) = ((u * 256 ^ (8 - k) : Nat) : Int) by simp, HL.out, show 8 - (k + 1) = 7 - k by omega]
      case measure => simp [intOf]; omega
    · have t1 : decide ((k : Int) < bs.length) = false := by simp; omega
      obtain rfl : k = bs.length := by omega
      have E := Lib.hid (show ((be (bs.take bs.length) * 256 ^ (8 - bs.length) : Nat) : Int) = (wordN bs : Int) from by unfold wordN; rw [List.take_of_length_le (Nat.le_refl _), List.take_of_length_le (by omega)])
      generalize ((be (bs.take bs.length) * 256 ^ (8 - bs.length) : Nat) : Int) = z at E ⊢
      go_wp2
      go_ret
      exact ⟨congrArg (fun z => Ending.returned (u64V z)) E.out, Upd.refl _ _⟩
end
end Go.Proofs.YtengcmfdfmnacaaGreat
