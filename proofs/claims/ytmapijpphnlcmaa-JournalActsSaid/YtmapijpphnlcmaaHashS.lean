/- The hash, on plain data: what both implementations compute. No condition. -/
import GoSem.ClaimWide
import Derived.Laws.BitsAllLaws
namespace Go.Proofs.Ytmapijpphnlcmaa
open Go

def rot13 (y : Int) : Int := bits .or .u64 (IntKind.u64.wrap (y * 8192)) (y / 2251799813685248)
def rot32 (x : Int) : Int := bits .or .u64 (IntKind.u64.wrap (x * 4294967296)) (x / 4294967296)
def mixS (p : Int × Int) : Int × Int :=
  (IntKind.u64.wrap (rot32 (IntKind.u64.wrap (p.1 + p.2)) * 11400714819323198485), bits .xor .u64 (rot13 p.2) (IntKind.u64.wrap (p.1 + p.2)))
def mixN : Nat → Int × Int → Int × Int
  | 0, p => p
  | n + 1, p => mixS (mixN n p)

/-- The number whose bytes, the highest first, are bs. -/
def be (bs : List UInt8) : Nat := bs.foldl (fun v c => v * 256 + c.toNat) 0
def wordN (bs : List UInt8) : Nat := be (bs.take 8) * 256 ^ (8 - bs.length)
def hstep (p : Int × Int) (bs : List UInt8) : Int × Int := mixN 2 (bits .xor .u64 p.1 (wordN bs), p.2)
def hk (bs : List UInt8) : Nat → Int × Int
  | 0 => (2611923443488327891, 1376283091369227076)
  | k + 1 => hstep (hk bs k) (bs.drop (8 * k))
def ofV (v : Int) : List UInt8 := [v / 72057594037927936, v / 281474976710656, v / 1099511627776, v / 4294967296, v / 16777216, v / 65536, v / 256, v].map (fun z => UInt8.ofNat (z % 256).toNat)
def hend (p : Int × Int) (n : Nat) : Int × Int := mixN 4 (p.1, bits .xor .u64 p.2 n)
def hsum (bs : List UInt8) : List UInt8 := let q := hend (hk bs ((bs.length + 7) / 8)) bs.length; ofV (bits .xor .u64 q.1 q.2)
def tagged (tag : UInt8) (bs : List UInt8) : List UInt8 := hsum (tag :: bs)

theorem be_snoc (l : List UInt8) (c : UInt8) : be (l ++ [c]) = be l * 256 + c.toNat := by simp [be]
theorem be_go : ∀ (l : List UInt8) (v : Nat), l.foldl (fun v c => v * 256 + c.toNat) v < (v + 1) * 256 ^ l.length
  | [], v => by simp
  | c :: l, v => by
    have h := be_go l (v * 256 + c.toNat)
    have hc := c.toNat_lt
    rw [List.foldl_cons, List.length_cons, Nat.pow_succ]
    refine Nat.lt_of_lt_of_le h ?_
    rw [Nat.mul_comm (256 ^ l.length), ← Nat.mul_assoc]
    exact Nat.mul_le_mul_right _ (by omega)
theorem be_lt (l : List UInt8) : be l < 256 ^ l.length := by
  have := be_go l 0
  simpa [be] using this
theorem ofV_len (v : Int) : (ofV v).length = 8 := rfl
theorem tagged_len (t : UInt8) (bs : List UInt8) : (tagged t bs).length = 8 := rfl
theorem be_take_succ (l : List UInt8) (k : Nat) (c : UInt8) (h : l[k]? = some c) : be (l.take (k + 1)) = be (l.take k) * 256 + c.toNat := by
  obtain ⟨hlt, rfl⟩ := List.getElem?_eq_some_iff.1 h
  rw [List.take_succ_eq_append_getElem hlt, be_snoc]
theorem be_take_lt (l : List UInt8) (k : Nat) : be (l.take k) < 256 ^ k := by
  refine Nat.lt_of_lt_of_le (be_lt _) (Nat.pow_le_pow_right (by omega) (List.length_take_le _ _))

theorem wrap_u64 (n : Int) : IntKind.u64.wrap n = n % 18446744073709551616 := by simp [IntKind.wrap, IntKind.bits, IntKind.signed]
theorem wrap_u64_nat (n : Nat) (h : n < 18446744073709551616) : IntKind.u64.wrap (n : Int) = n := by rw [wrap_u64]; omega
/-- Two numbers whose bits lie apart. -/
theorem or_join (i a b : Nat) (ha : a % 2 ^ i = 0) (hb : b < 2 ^ i) (h1 : a < 18446744073709551616) (h2 : b < 18446744073709551616) : bits .or .u64 (a : Int) (b : Int) = ((a + b : Nat) : Int) := by
  rw [u64_or_nat a b h1 h2, nat_join i a b ha hb]

/-- One more byte at the end: v<<8 | c. -/
theorem or_byte (v : Nat) (c : UInt8) (h : v < 72057594037927936) : bits .or .u64 (IntKind.u64.wrap ((v : Int) * 256)) (c.toNat : Int) = ((v * 256 + c.toNat : Nat) : Int) := by
  have hc := c.toNat_lt
  have e : ((v : Int) * 256) = ((v * 256 : Nat) : Int) := by omega
  rw [e, wrap_u64_nat _ (by omega)]
  exact or_join 8 _ _ (by omega) (by omega) (by omega) (by omega)

/-- One more byte at its place: w | c << (56 - 8 i). -/
theorem or_place (u i : Nat) (c : UInt8) (hi : i < 8) (hu : u < 256 ^ i) : bits .or .u64 ((u * 256 ^ (8 - i) : Nat) : Int) (IntKind.u64.wrap ((c.toNat : Int) * 2 ^ (56 - 8 * i))) = (((u * 256 + c.toNat) * 256 ^ (7 - i) : Nat) : Int) := by
  have hc := c.toNat_lt
  have hp : (256 : Nat) ^ (8 - i) = 256 * 256 ^ (7 - i) := by rw [show 8 - i = (7 - i) + 1 by omega, Nat.pow_succ, Nat.mul_comm]
  have h2 : (2 : Nat) ^ (56 - 8 * i) = 256 ^ (7 - i) := by rw [show (256 : Nat) = 2 ^ 8 from rfl, ← Nat.pow_mul]; congr 1; omega
  have e : ((c.toNat : Int) * 2 ^ (56 - 8 * i)) = ((c.toNat * 256 ^ (7 - i) : Nat) : Int) := by rw [← h2]; simp
  have hpos : 0 < 256 ^ (7 - i) := Nat.pow_pos (by omega)
  have hall : 256 ^ i * 256 ^ (8 - i) = 18446744073709551616 := by rw [← Nat.pow_add, show i + (8 - i) = 8 by omega]
  have hb : c.toNat * 256 ^ (7 - i) < 256 ^ (8 - i) := by rw [hp]; exact Nat.mul_lt_mul_of_pos_right hc hpos
  have hle : 256 ^ (8 - i) ≤ 18446744073709551616 := by rw [← hall]; exact Nat.le_mul_of_pos_left _ (Nat.pow_pos (by omega))
  have ha : u * 256 ^ (8 - i) < 18446744073709551616 := by rw [← hall]; exact Nat.mul_lt_mul_of_pos_right hu (Nat.pow_pos (by omega))
  have hq : (256 : Nat) ^ (8 - i) = 2 ^ (8 * (8 - i)) := by rw [show (256 : Nat) = 2 ^ 8 from rfl, ← Nat.pow_mul]
  rw [e, wrap_u64_nat _ (by omega), or_join (8 * (8 - i)) _ _ (by rw [hq]; exact Nat.mul_mod_left _ _) (by rw [← hq]; exact hb) ha (by omega), hp, Nat.add_mul, Nat.mul_assoc]
end Go.Proofs.Ytmapijpphnlcmaa
