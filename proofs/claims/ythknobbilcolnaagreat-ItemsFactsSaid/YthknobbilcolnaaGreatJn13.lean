/- An object lent to a call. No condition. The hash, on plain data: what both implementations compute. No condition. Words of eight bytes, on plain data. No condition. Small folds; len and slices of slices by facts of types; equal names. No condition. Equality of rows of whole numbers: cell by cell. No condition. Rules for drawn regions with unordered readers; empty literals. No condition. Calls that make an object; the lesser and the greater of two numbers. No condition. -/
import Derived.Test.YthknobbilcolnaaGreatJn11
import GoSem.ClaimWide
import Derived.Laws.BitsAllLaws
import Derived.Laws.StructEq
namespace Go.Proofs.YthknobbilcolnaaGreat
section
open Go.RowKit

/-- Handles of object id as handles of object 0. -/
inductive Ln (id : Nat) : AV → AV → Prop
  | bd {a : AV} (h : Bd 0 a) : Ln id a a
  | ptr (off : Nat) : Ln id (.ptr id off) (.ptr 0 off)
  | own (off n k : Nat) : Ln id (.own id off n k) (.own 0 off n k)
@[simp] theorem Ln_c (id : Nat) (v : Value) : Ln id (.c v) (.c v) = True := eq_true (.bd (.c v))
@[simp] theorem Ln_ptr (id off : Nat) : Ln id (.ptr id off) (.ptr 0 off) = True := eq_true (.ptr off)
@[simp] theorem Ln_own (id off n k : Nat) : Ln id (.own id off n k) (.own 0 off n k) = True := eq_true (.own off n k)

theorem noMap_one {t : TypeId} {fz : Bool} {cs : List AV} {l : List AObj} (ht : t < 2000000) : noMap (.row t fz cs :: l) 0 := fun t' fz' cs' h => by
  simp at h; rw [← h.1]; exact ht
section
variable {P : Program} {f : FuncId} {args args1 : List AV} {H : List AObj}
/-- A call that knows one object alone turns that one among many. -/
theorem PCall.lend {Q : AV → List AV → Prop} {id : Nat} {t : TypeId} {cs : List AV} (hi : H[id]? = some (.row t false cs)) (hcs : ∀ a ∈ cs, Bd 0 a) (ha : Pw (Ln id) args args1)
    (h : PCall P f args1 [.row t false cs] (fun r H1 => Bd 0 r ∧ ∃ cs' junk, H1 = .row t false cs' :: junk ∧ (∀ a ∈ cs', Bd 0 a) ∧ Q r cs')) : PCall P f args H (fun r H' => ∃ cs', H' = H.set id (.row t false cs') ∧ Q r cs') := by
  intro F β w vs hr hvl
  have hlt := (List.getElem?_eq_some_iff.1 hi).1
  have hone : ∀ {j : Nat} {o : AObj}, ([AObj.row t false cs] : List AObj)[j]? = some o → j = 0 ∧ o = .row t false cs := by
    intro j o hj
    cases j with
    | zero => simp at hj; exact ⟨rfl, hj.symm⟩
    | succ j => simp at hj
  let F1 : Nat → Prop := fun b => F b ∨ ∃ j s, j ≠ id ∧ mutb H j ∧ β j = some (b, s)
  let β1 : Loc := fun _ => β id
  have hI : ∀ b, Im F β H w b → Im F1 β1 [.row t false cs] w b := fun b hb => ⟨hb.1, fun hf => hf.elim hb.2.1 (fun ⟨j, s, _, hm, e⟩ => hb.2.2 ⟨j, s, hm, e⟩), fun ⟨j, s, hm, e⟩ => hb.2.2 ⟨id, s, ⟨t, cs, hi⟩, e⟩⟩
  have hV : ∀ {a v}, Bd 0 a → V F β H w a v → V F1 β1 [.row t false cs] w a v := fun hb hv => hv.bd (n := 0) hI (fun _ _ => Kept.refl _ _) (fun x v hb hl => (hb.no_leaf hl).elim) hb
  have hrep : Rep F1 β1 [.row t false cs] w := by
    refine ⟨fun b hb => hb.elim (hr.far b) (fun ⟨j, s, _, hm, e⟩ => (hr.lt hm.alive e).1), fun j t' fz' cs' hj => ?_, fun i j ⟨ti, fi, ci, hi'⟩ ⟨tj, fj, cj, hj'⟩ b s s' _ _ => ?_⟩
    · obtain ⟨rfl, hq⟩ := hone hj
      cases hq
      rcases hr.row id _ _ _ hi with h1 | ⟨b, C, us, h1, h2, h3, h4, h5, h6, h7⟩
      · exact .inl h1
      · refine .inr ⟨b, C, us, h1, fun hf => hf.elim h2 (fun ⟨j, s, hne, hm, e⟩ => hne (hr.inj j id hm.alive ⟨_, _, _, hi⟩ b s _ e h1)), h3, h4, h5, h6, fun i a v ha hv => hV (hcs a (List.mem_of_getElem? ha)) (h7 i a v ha hv)⟩
    · rw [(hone hi').1, (hone hj').1]
  obtain ⟨hpl, hpw⟩ := ha.at_
  have hvl1 : VL F1 β1 [.row t false cs] w args1 vs := by
    refine ⟨by rw [hpl]; exact hvl.1, fun i a v h1 h2 => ?_⟩
    have hil : i < args.length := by rw [← hpl]; exact (List.getElem?_eq_some_iff.1 h1).1
    have hv := hvl.2 i _ v (List.getElem?_eq_getElem hil) h2
    have hln := hpw i _ a (List.getElem?_eq_getElem hil) h1
    generalize args[i] = x at hv hln
    cases hln with
    | bd hb => exact hV hb hv
    | ptr off =>
      cases hv with
      | leaf hv => exact .leaf ⟨by simp, ⟨hv.2.1.1, noMap_one (hv.2.1.2 _ _ _ hi)⟩, fun t' fz' cs' hj => hv.2.2 t false cs hi⟩
    | own off n k =>
      cases hv with
      | leaf hv => exact .leaf ⟨by simp, ⟨hv.2.1.1, noMap_one (hv.2.1.2 _ _ _ hi)⟩, fun t' fz' cs' hj => by
          obtain ⟨-, hq⟩ := hone hj
          cases hq
          exact hv.2.2 t false cs hi⟩
  refine CallsX.mono (h F1 β1 w vs hrep hvl1) (fun e w' ⟨r, H1, β', v, e1, ⟨e2, cs', junk, e3, e4, e5⟩, r1, x1, v1⟩ => ?_)
  subst e3
  have hal0 : alive (AObj.row t false cs' :: junk) 0 := ⟨t, false, cs', rfl⟩
  have hβ : β' 0 = β id := (x1.keep 0 (by simp) hal0).2
  have hsz := x1.size 0 t false cs t false cs' rfl rfl
  have hupd : Upd (fun b => ∃ s, β id = some (b, s)) w w' := x1.upd.mono (fun k _ ⟨j, s, _, e⟩ => ⟨s, e⟩)
  have back : ∀ {j : Nat} {t' : TypeId} {fz' : Bool} {c : List AV}, (H.set id (.row t false cs'))[j]? = some (AObj.row t' fz' c) → (j = id ∧ t' = t ∧ fz' = false ∧ c = cs') ∨ (j ≠ id ∧ H[j]? = some (AObj.row t' fz' c)) := by
    intro j t' fz' c hj
    by_cases e : id = j
    · subst e
      rw [get_set_eq hlt] at hj
      cases hj
      exact .inl ⟨rfl, rfl, rfl, rfl⟩
    · rw [get_set_ne e] at hj
      exact .inr ⟨fun e' => e e'.symm, hj⟩
  have mb : ∀ b, MB β (H.set id (.row t false cs')) b → MB β H b := by
    intro b ⟨j, s, ⟨t', c, hj⟩, e⟩
    rcases back hj with ⟨rfl, -⟩ | ⟨-, hj⟩
    · exact ⟨j, s, ⟨t, cs, hi⟩, e⟩
    · exact ⟨j, s, ⟨t', c, hj⟩, e⟩
  have hext : Ext β H w β (H.set id (.row t false cs')) w' := by
    refine ⟨hupd.mono (fun k _ ⟨s, e⟩ => ⟨id, s, ⟨t, cs, hi⟩, e⟩), by simp, fun j _ ⟨t', fz', c, hj⟩ => ⟨?_, rfl⟩, fun j t1 f1 c1 t2 f2 c2 h1 h2 => ?_, fun b hb _ => mb b hb⟩
    · rcases back hj with ⟨rfl, -⟩ | ⟨-, hj⟩
      · exact ⟨_, _, _, hi⟩
      · exact ⟨_, _, _, hj⟩
    · rcases back h2 with ⟨rfl, rfl, rfl, rfl⟩ | ⟨-, hj⟩
      · rw [hi] at h1; cases h1; exact hsz
      · rw [hj] at h1; cases h1; exact ⟨rfl, fun _ => Nat.le_refl _⟩
  have hI2 : ∀ b, Im F1 β' (.row t false cs' :: junk) w' b → Im F β (H.set id (.row t false cs')) w' b := by
    intro b hb
    refine ⟨hb.1, fun f => hb.2.1 (.inl f), fun ⟨j, s, ⟨t', c, hj⟩, e⟩ => ?_⟩
    rcases back hj with ⟨rfl, -⟩ | ⟨hne, hj⟩
    · exact hb.2.2 ⟨0, s, ⟨t, cs', rfl⟩, by rw [hβ]; exact e⟩
    · exact hb.2.1 (.inr ⟨j, s, hne, ⟨t', c, hj⟩, e⟩)
  have hV2 : ∀ {a v}, Bd 0 a → V F1 β' (.row t false cs' :: junk) w' a v → V F β (H.set id (.row t false cs')) w' a v := fun hb hv => hv.bd (n := 0) hI2 (fun _ _ => Kept.refl _ _) (fun x v hb hl => (hb.no_leaf hl).elim) hb
  refine ⟨r, _, β, v, e1, ⟨cs', rfl, e5⟩, ⟨fun b hb => Nat.lt_of_lt_of_le (hr.far b hb) hupd.size, fun j t' fz' c hj => ?_, fun i j ⟨ti, fi, ci, h1⟩ ⟨tj, fj, cj, h2⟩ b s s' q1 q2 => ?_⟩, hext, hV2 e2 v1⟩
  · rcases back hj with ⟨rfl, rfl, rfl, rfl⟩ | ⟨hne, hj⟩
    · rcases r1.row 0 t' false c rfl with ⟨h1, h2⟩ | ⟨b, C, us, h1, h2, h3, h4, h5, h6, h7⟩
      · exact .inl ⟨h1, by rw [← hβ]; exact h2⟩
      · exact .inr ⟨b, C, us, by rw [← hβ]; exact h1, fun f => h2 (.inl f), h3, h4, h5, h6, fun i a v ha hv => hV2 (e4 a (List.mem_of_getElem? ha)) (h7 i a v ha hv)⟩
    · refine (hr.row j t' fz' c hj).ext hext rfl (fun b s hb => ?_)
      exact hupd.block b (hr.lt ⟨_, _, _, hj⟩ hb).1 (fun ⟨s', e⟩ => hne (hr.inj j id ⟨_, _, _, hj⟩ ⟨_, _, _, hi⟩ b s s' hb e))
  · have a1 : alive H i := by
      rcases back h1 with ⟨rfl, -⟩ | ⟨-, h⟩
      · exact ⟨_, _, _, hi⟩
      · exact ⟨_, _, _, h⟩
    have a2 : alive H j := by
      rcases back h2 with ⟨rfl, -⟩ | ⟨-, h⟩
      · exact ⟨_, _, _, hi⟩
      · exact ⟨_, _, _, h⟩
    exact hr.inj i j a1 a2 b s s' q1 q2
end
end

section
open Go

def rot13 (y : Int) : Int := bits .or .u64 (IntKind.u64.wrap (y * 8192)) (y / 2251799813685248)
def rot32 (x : Int) : Int := bits .or .u64 (IntKind.u64.wrap (x * 4294967296)) (x / 4294967296)
def mixS (p : Int × Int) : Int × Int :=
  (IntKind.u64.wrap (rot32 (IntKind.u64.wrap (p.1 + p.2)) * 11400714819323198485), bits .xor .u64 (rot13 p.2) (IntKind.u64.wrap (p.1 + p.2)))
def mixN : Nat → Int × Int → Int × Int
  | 0, p => p
  | n + 1, p => mixS (mixN n p)

/-- The number whose bytes, the highest first, are bs. -/
def be (bs : List UInt8) : Nat := bs.foldl (fun v c => v * 256 + c.toNat) 0
def wordN (bs : List UInt8) : Nat := be (bs.take 8) * 256 ^ (8 - bs.length)
def hstep (p : Int × Int) (bs : List UInt8) : Int × Int := mixN 2 (bits .xor .u64 p.1 (wordN bs), p.2)
def hk (bs : List UInt8) : Nat → Int × Int
  | 0 => (2611923443488327891, 1376283091369227076)
  | k + 1 => hstep (hk bs k) (bs.drop (8 * k))
def ofV (v : Int) : List UInt8 := [v / 72057594037927936, v / 281474976710656, v / 1099511627776, v / 4294967296, v / 16777216, v / 65536, v / 256, v].map (fun z => UInt8.ofNat (z % 256).toNat)
def hend (p : Int × Int) (n : Nat) : Int × Int := mixN 4 (p.1, bits .xor .u64 p.2 n)
def hsum (bs : List UInt8) : List UInt8 := let q := hend (hk bs ((bs.length + 7) / 8)) bs.length; ofV (bits .xor .u64 q.1 q.2)
def tagged (tag : UInt8) (bs : List UInt8) : List UInt8 := hsum (tag :: bs)

theorem be_snoc (l : List UInt8) (c : UInt8) : be (l ++ [c]) = be l * 256 + c.toNat := by simp [be]
theorem be_go : ∀ (l : List UInt8) (v : Nat), l.foldl (fun v c => v * 256 + c.toNat) v < (v + 1) * 256 ^ l.length
  | [], v => by simp
  | c :: l, v => by
    have h := be_go l (v * 256 + c.toNat)
    have hc := c.toNat_lt
    rw [List.foldl_cons, List.length_cons, Nat.pow_succ]
    refine Nat.lt_of_lt_of_le h ?_
    rw [Nat.mul_comm (256 ^ l.length), ← Nat.mul_assoc]
    exact Nat.mul_le_mul_right _ (by omega)
theorem be_lt (l : List UInt8) : be l < 256 ^ l.length := by
  have := be_go l 0
  simpa [be] using this
theorem tagged_len (t : UInt8) (bs : List UInt8) : (tagged t bs).length = 8 := rfl
theorem be_take_succ (l : List UInt8) (k : Nat) (c : UInt8) (h : l[k]? = some c) : be (l.take (k + 1)) = be (l.take k) * 256 + c.toNat := by
  obtain ⟨hlt, rfl⟩ := List.getElem?_eq_some_iff.1 h
  rw [List.take_succ_eq_append_getElem hlt, be_snoc]
theorem be_take_lt (l : List UInt8) (k : Nat) : be (l.take k) < 256 ^ k := by
  refine Nat.lt_of_lt_of_le (be_lt _) (Nat.pow_le_pow_right (by omega) (List.length_take_le _ _))

theorem wrap_u64 (n : Int) : IntKind.u64.wrap n = n % 18446744073709551616 := by simp [IntKind.wrap, IntKind.bits, IntKind.signed]
theorem wrap_u64_nat (n : Nat) (h : n < 18446744073709551616) : IntKind.u64.wrap (n : Int) = n := by rw [wrap_u64]; omega
/-- Two numbers whose bits lie apart. -/
theorem or_join (i a b : Nat) (ha : a % 2 ^ i = 0) (hb : b < 2 ^ i) (h1 : a < 18446744073709551616) (h2 : b < 18446744073709551616) : bits .or .u64 (a : Int) (b : Int) = ((a + b : Nat) : Int) := by
  rw [u64_or_nat a b h1 h2, nat_join i a b ha hb]

/-- One more byte at the end: v<<8 | c. -/
theorem or_byte (v : Nat) (c : UInt8) (h : v < 72057594037927936) : bits .or .u64 (IntKind.u64.wrap ((v : Int) * 256)) (c.toNat : Int) = ((v * 256 + c.toNat : Nat) : Int) := by
  have hc := c.toNat_lt
  have e : ((v : Int) * 256) = ((v * 256 : Nat) : Int) := by omega
  rw [e, wrap_u64_nat _ (by omega)]
  exact or_join 8 _ _ (by omega) (by omega) (by omega) (by omega)

/-- One more byte at its place: w | c << (56 - 8 i). -/
theorem or_place (u i : Nat) (c : UInt8) (hi : i < 8) (hu : u < 256 ^ i) : bits .or .u64 ((u * 256 ^ (8 - i) : Nat) : Int) (IntKind.u64.wrap ((c.toNat : Int) * 2 ^ (56 - 8 * i))) = (((u * 256 + c.toNat) * 256 ^ (7 - i) : Nat) : Int) := by
  have hc := c.toNat_lt
  have hp : (256 : Nat) ^ (8 - i) = 256 * 256 ^ (7 - i) := by rw [show 8 - i = (7 - i) + 1 by omega, Nat.pow_succ, Nat.mul_comm]
  have h2 : (2 : Nat) ^ (56 - 8 * i) = 256 ^ (7 - i) := by rw [show (256 : Nat) = 2 ^ 8 from rfl, ← Nat.pow_mul]; congr 1; omega
  have e : ((c.toNat : Int) * 2 ^ (56 - 8 * i)) = ((c.toNat * 256 ^ (7 - i) : Nat) : Int) := by rw [← h2]; simp
  have hpos : 0 < 256 ^ (7 - i) := Nat.pow_pos (by omega)
  have hall : 256 ^ i * 256 ^ (8 - i) = 18446744073709551616 := by rw [← Nat.pow_add, show i + (8 - i) = 8 by omega]
  have hb : c.toNat * 256 ^ (7 - i) < 256 ^ (8 - i) := by rw [hp]; exact Nat.mul_lt_mul_of_pos_right hc hpos
  have hle : 256 ^ (8 - i) ≤ 18446744073709551616 := by rw [← hall]; exact Nat.le_mul_of_pos_left _ (Nat.pow_pos (by omega))
  have ha : u * 256 ^ (8 - i) < 18446744073709551616 := by rw [← hall]; exact Nat.mul_lt_mul_of_pos_right hu (Nat.pow_pos (by omega))
  have hq : (256 : Nat) ^ (8 - i) = 2 ^ (8 * (8 - i)) := by rw [show (256 : Nat) = 2 ^ 8 from rfl, ← Nat.pow_mul]
  rw [e, wrap_u64_nat _ (by omega), or_join (8 * (8 - i)) _ _ (by rw [hq]; exact Nat.mul_mod_left _ _) (by rw [← hq]; exact hb) ha (by omega), hp, Nat.add_mul, Nat.mul_assoc]
def byteAt (v : Int) (i : Nat) : UInt8 := UInt8.ofNat ((v / 2 ^ (8 * i)) % 256).toNat
/-- The lowest n bytes of v, the highest first. -/
def beB (v : Int) : Nat → List UInt8
  | 0 => []
  | n + 1 => byteAt v n :: beB v n
theorem beB_len (v : Int) (n : Nat) : (beB v n).length = n := by induction n with | zero => rfl | succ n ih => simp [beB, ih]
end

section
open Go

/-! ### words -/
theorem word8 (b0 b1 b2 b3 b4 b5 b6 b7 : UInt8) (l : List UInt8) :
    bits .or .u64 (bits .or .u64 (bits .or .u64 (bits .or .u64 (bits .or .u64 (bits .or .u64 (bits .or .u64 (IntKind.u64.wrap ((b0.toNat : Int) * 72057594037927936)) (IntKind.u64.wrap ((b1.toNat : Int) * 281474976710656))) (IntKind.u64.wrap ((b2.toNat : Int) * 1099511627776))) (IntKind.u64.wrap ((b3.toNat : Int) * 4294967296)))
      (IntKind.u64.wrap ((b4.toNat : Int) * 16777216))) (IntKind.u64.wrap ((b5.toNat : Int) * 65536))) (IntKind.u64.wrap ((b6.toNat : Int) * 256))) (b7.toNat : Int) = ((wordN (b0 :: b1 :: b2 :: b3 :: b4 :: b5 :: b6 :: b7 :: l) : Nat) : Int) := by
  have h0 := b0.toNat_lt
  have h1 := b1.toNat_lt
  have h2 := b2.toNat_lt
  have h3 := b3.toNat_lt
  have h4 := b4.toNat_lt
  have h5 := b5.toNat_lt
  have h6 := b6.toNat_lt
  have h7 := b7.toNat_lt
  have e0 : IntKind.u64.wrap ((b0.toNat : Int) * 72057594037927936) = ((b0.toNat * 256 ^ (8 - 1) : Nat) : Int) := by
    rw [show ((b0.toNat : Int) * 72057594037927936) = ((b0.toNat * 256 ^ (8 - 1) : Nat) : Int) by omega]
    exact wrap_u64_nat _ (by omega)
  have s1 := or_place b0.toNat 1 b1 (by omega) (by omega)
  have s2 := or_place (b0.toNat * 256 + b1.toNat) 2 b2 (by omega) (by omega)
  have s3 := or_place ((b0.toNat * 256 + b1.toNat) * 256 + b2.toNat) 3 b3 (by omega) (by omega)
  have s4 := or_place (((b0.toNat * 256 + b1.toNat) * 256 + b2.toNat) * 256 + b3.toNat) 4 b4 (by omega) (by omega)
  have s5 := or_place ((((b0.toNat * 256 + b1.toNat) * 256 + b2.toNat) * 256 + b3.toNat) * 256 + b4.toNat) 5 b5 (by omega) (by omega)
  have s6 := or_place (((((b0.toNat * 256 + b1.toNat) * 256 + b2.toNat) * 256 + b3.toNat) * 256 + b4.toNat) * 256 + b5.toNat) 6 b6 (by omega) (by omega)
  have s7 := or_place ((((((b0.toNat * 256 + b1.toNat) * 256 + b2.toNat) * 256 + b3.toNat) * 256 + b4.toNat) * 256 + b5.toNat) * 256 + b6.toNat) 7 b7 (by omega) (by omega)
  have k1 : (281474976710656 : Int) = 2 ^ (56 - 8 * 1) := rfl
  have k2 : (1099511627776 : Int) = 2 ^ (56 - 8 * 2) := rfl
  have k3 : (4294967296 : Int) = 2 ^ (56 - 8 * 3) := rfl
  have k4 : (16777216 : Int) = 2 ^ (56 - 8 * 4) := rfl
  have k5 : (65536 : Int) = 2 ^ (56 - 8 * 5) := rfl
  have k6 : (256 : Int) = 2 ^ (56 - 8 * 6) := rfl
  have k7 : (b7.toNat : Int) = IntKind.u64.wrap ((b7.toNat : Int) * 2 ^ (56 - 8 * 7)) := by
    rw [show ((b7.toNat : Int) * 2 ^ (56 - 8 * 7)) = ((b7.toNat : Nat) : Int) by omega, wrap_u64_nat _ (by omega)]
  rw [e0, k1, s1, k2, s2, k3, s3, k4, s4, k5, s5, k6, s6]
  rw [show bits .or .u64 ((((((((b0.toNat * 256 + b1.toNat) * 256 + b2.toNat) * 256 + b3.toNat) * 256 + b4.toNat) * 256 + b5.toNat) * 256 + b6.toNat) * 256 ^ (7 - 6) : Nat) : Int) (b7.toNat : Int) = _ from (congrArg (bits .or .u64 _) k7).trans s7]
  have hl : 256 ^ (8 - (b0 :: b1 :: b2 :: b3 :: b4 :: b5 :: b6 :: b7 :: l).length) = 1 := by
    rw [show 8 - (b0 :: b1 :: b2 :: b3 :: b4 :: b5 :: b6 :: b7 :: l).length = 0 by simp]
  unfold wordN
  rw [hl]
  simp [be]

theorem wrap_u64_byte (b : UInt8) : IntKind.u64.wrap (b.toNat : Int) = b.toNat := by
  have := b.toNat_lt
  exact wrap_u64_nat _ (by omega)
theorem word8w (b0 b1 b2 b3 b4 b5 b6 b7 : UInt8) (l : List UInt8) :
    bits .or .u64 (bits .or .u64 (bits .or .u64 (bits .or .u64 (bits .or .u64 (bits .or .u64 (bits .or .u64 (IntKind.u64.wrap ((IntKind.u64.wrap (b0.toNat : Int)) * 72057594037927936)) (IntKind.u64.wrap ((IntKind.u64.wrap (b1.toNat : Int)) * 281474976710656))) (IntKind.u64.wrap ((IntKind.u64.wrap (b2.toNat : Int)) * 1099511627776))) (IntKind.u64.wrap ((IntKind.u64.wrap (b3.toNat : Int)) * 4294967296)))
      (IntKind.u64.wrap ((IntKind.u64.wrap (b4.toNat : Int)) * 16777216))) (IntKind.u64.wrap ((IntKind.u64.wrap (b5.toNat : Int)) * 65536))) (IntKind.u64.wrap ((IntKind.u64.wrap (b6.toNat : Int)) * 256))) (IntKind.u64.wrap (b7.toNat : Int)) = ((wordN (b0 :: b1 :: b2 :: b3 :: b4 :: b5 :: b6 :: b7 :: l) : Nat) : Int) := by
  simp only [wrap_u64_byte]
  exact word8 b0 b1 b2 b3 b4 b5 b6 b7 l

theorem eight (bs : List UInt8) (h : 8 ≤ bs.length) : ∃ b0 b1 b2 b3 b4 b5 b6 b7 l, bs = b0 :: b1 :: b2 :: b3 :: b4 :: b5 :: b6 :: b7 :: l := by
  match bs, h with
  | b0 :: b1 :: b2 :: b3 :: b4 :: b5 :: b6 :: b7 :: l, _ => exact ⟨b0, b1, b2, b3, b4, b5, b6, b7, l, rfl⟩

theorem be_pad (l : List UInt8) (k : Nat) : be (l ++ List.replicate k 0) = be l * 256 ^ k := by
  induction k with
  | zero => simp
  | succ k ih => rw [List.replicate_succ', ← List.append_assoc, be_snoc, ih, Nat.pow_succ, ← Nat.mul_assoc]; simp
theorem wrap_u8 (z : Int) : IntKind.u8.wrap z = z % 256 := by simp [IntKind.wrap, IntKind.bits, IntKind.signed]
theorem ofNat_byte (z : Int) : ((UInt8.ofNat (z % 256).toNat).toNat : Int) = z % 256 := by
  have h1 := Int.emod_nonneg z (b := 256) (by omega)
  have h2 := Int.emod_lt_of_pos z (b := 256) (by omega)
  rw [UInt8.toNat_ofNat']
  omega
end

section
open Go.RowKit
attribute [-simp] List.map_take List.map_drop
theorem splice_bytes (xs ys : List UInt8) (off : Nat) : splice (xs.map byteA) off (ys.map byteA) = (xs.take off ++ ys ++ xs.drop (off + ys.length)).map byteA := by simp [splice, List.map_take, List.map_drop]
theorem zeros8 : ([.c (.int .u8 0), .c (.int .u8 0), .c (.int .u8 0), .c (.int .u8 0), .c (.int .u8 0), .c (.int .u8 0), .c (.int .u8 0), .c (.int .u8 0)] : List AV) = (List.replicate 8 (0 : UInt8)).map byteA := rfl
/-- A byte out of a number. -/
theorem byte_of (z : Int) : AV.c (.int .u8 (z % 256)) = byteA (UInt8.ofNat (z % 256).toNat) := by rw [byteA, ofNat_byte]
@[simp] theorem agg_nm (x : List UInt8) : AV.agg (x.map byteA) = nmA x := _root_.id rfl
@[simp] theorem map_drop' {α β : Type} (l : List α) (f : α → β) (i : Nat) : (l.map f).drop i = (l.drop i).map f := List.map_drop.symm
@[simp] theorem map_take' {α β : Type} (l : List α) (f : α → β) (i : Nat) : (l.map f).take i = (l.take i).map f := List.map_take.symm
@[simp] theorem bits_u64 : IntKind.u64.bits = 64 := _root_.id rfl
@[simp] theorem bits_u8 : IntKind.u8.bits = 8 := _root_.id rfl
@[simp] theorem bits_i64 : IntKind.i64.bits = 64 := _root_.id rfl
section
variable {P : Program} {t : TypeId} {s n m k off : Nat} {kd kd' : IntKind} {z y : Int} {H : List AObj} {cs es : List AV} {e x : AV} {id : Nat}
@[simp] theorem idxA_enc (h : x.isAgg = true) : idxA P t x (.c (.int kd z)) = ixG P (areT P t) x.cells z := by
  cases x <;> simp [AV.isAgg] at h
  exact idxA_agg
/-! len -/
theorem slT_of (h : (elT P t).isSome = true) : sliceT P t = true := by
  obtain ⟨⟨el, k, b⟩, h⟩ := Option.isSome_iff_exists.1 h
  obtain ⟨i, h1, -⟩ := elT_info h
  simp [sliceT, h1]
theorem len_any (h : (elT P t).isSome = true) (hl : liveB H x = true) (hn : lenA x = some n) : builtinA P H .len [t] [x] = some (.c (.int .i64 n), H) := by simp [builtinA, slT_of h, hl, hn]
@[simp] theorem len_ls (h : (elT P t).isSome = true) : builtinA P H .len [t] [.ls k es] = some (.c (.int .i64 es.length), H) := len_any h rfl rfl
@[simp] theorem len_own (h : (elT P t).isSome = true) (hl : liveO H[id]? = true) : builtinA P H .len [t] [.own id off n k] = some (.c (.int .i64 n), H) := len_any h (by simpa using hl) rfl
@[simp] theorem len_nil (h : (elT P t).isSome = true) : builtinA P H .len [t] [.c (.slice none 0 0)] = some (.c (.int .i64 0), H) := len_any h rfl rfl
@[simp] theorem len_nil0 (h : (elT P t).isSome = true) : builtinA P H .len [t] [.nil0] = some (.c (.int .i64 0), H) := len_any h rfl rfl
/-! bounds -/
@[simp] theorem bounds_lo : bounds n (some (.c (.int kd z))) none none = if 0 ≤ z ∧ z ≤ n then some (z.toNat, n, none) else none := by
  unfold bounds bound
  by_cases h : 0 ≤ z
  · by_cases h2 : z ≤ n
    · simp [h, h2]
    · simp [h, h2]
  · simp [h]
@[simp] theorem bounds_hi : bounds n none (some (.c (.int kd z))) none = if 0 ≤ z ∧ z ≤ n then some (0, z.toNat, none) else none := by
  unfold bounds bound
  by_cases h : 0 ≤ z
  · by_cases h2 : z ≤ n
    · simp [h, h2]
    · simp [h, h2]
  · simp [h]
@[simp] theorem bounds_both : bounds n (some (.c (.int kd z))) (some (.c (.int kd' y))) none = if 0 ≤ z ∧ z ≤ y ∧ y ≤ n then some (z.toNat, y.toNat, none) else none := by
  unfold bounds bound
  by_cases h : 0 ≤ z
  · by_cases h1 : 0 ≤ y
    · have e1 : z.toNat ≤ y.toNat ↔ z ≤ y := by omega
      have e2 : y.toNat ≤ n ↔ y ≤ n := by omega
      simp [h, h1, e1, e2]
    · have : ¬ z ≤ y := by omega
      simp [h, h1, this]
  · simp [h]
@[simp] theorem bounds_none : bounds n none none none = some (0, n, none) := by simp [bounds, bound]
/-! slices of slices -/
def slLs (x : Option (TypeId × Nat × Nat)) (k : Nat) (es : List AV) (b : Option (Nat × Nat × Option Nat)) : Option AV := match x, b with
  | some (_, s, _), some (l, h, m) => if k = s then some (if m = some l ∧ h = l then .nil0 else .ls k ((es.drop l).take (h - l))) else none
  | _, _ => none
@[simp] theorem slLs_some {el b l h : Nat} : slLs (some (el, s, b)) k es (some (l, h, none)) = if k = s then some (.ls k ((es.drop l).take (h - l))) else none := by simp [slLs]
@[simp] theorem slLs_mx {el b l h m : Nat} : slLs (some (el, s, b)) k es (some (l, h, some m)) = if k = s then some (if m = l ∧ h = l then .nil0 else .ls k ((es.drop l).take (h - l))) else none := by simp [slLs]
@[simp] theorem slLs_if {el b l h : Nat} (c : Prop) [Decidable c] : slLs (some (el, s, b)) k es (if c then some (l, h, none) else none) = if c ∧ k = s then some (.ls k ((es.drop l).take (h - l))) else none := by
  by_cases hc : c <;> simp [hc, slLs]
@[simp] theorem sliceA_ls {lo hi mx : Option AV} : sliceA P H t (.ls k es) lo hi mx = slLs (elT P t) k es (bounds es.length lo hi mx) := by
  unfold sliceA elT slLs
  cases P.underlying t with
  | none => rfl
  | some d =>
    cases d <;> try rfl
    case slice el =>
      dsimp only
      cases P.info? el with
      | none => rfl
      | some i => dsimp only [Option.map_some]; cases bounds es.length lo hi mx <;> rfl
    case array n el => dsimp only; cases P.info? el <;> rfl
def slOwn (x : Option (TypeId × Nat × Nat)) (id off k : Nat) (b : Option (Nat × Nat × Option Nat)) : Option AV := match x, b with
  | some (_, s, _), some (l, h, m) => if k = s then some (if m = some l ∧ h = l then .nil0 else .own id (off + l * k) (h - l) k) else none
  | _, _ => none
@[simp] theorem slOwn_some {el b l h : Nat} : slOwn (some (el, s, b)) id off k (some (l, h, none)) = if k = s then some (.own id (off + l * k) (h - l) k) else none := by simp [slOwn]
@[simp] theorem slOwn_mx {el b l h m : Nat} : slOwn (some (el, s, b)) id off k (some (l, h, some m)) = if k = s then some (if m = l ∧ h = l then .nil0 else .own id (off + l * k) (h - l) k) else none := by simp [slOwn]
@[simp] theorem slOwn_if {el b l h : Nat} (c : Prop) [Decidable c] : slOwn (some (el, s, b)) id off k (if c then some (l, h, none) else none) = if c ∧ k = s then some (.own id (off + l * k) (h - l) k) else none := by
  by_cases hc : c <;> simp [hc, slOwn]
@[simp] theorem sliceA_own {lo hi mx : Option AV} : sliceA P H t (.own id off n k) lo hi mx = slOwn (elT P t) id off k (bounds n lo hi mx) := by
  unfold sliceA elT slOwn
  cases P.underlying t with
  | none => rfl
  | some d =>
    cases d <;> try rfl
    case slice el =>
      dsimp only
      cases P.info? el with
      | none => rfl
      | some i => dsimp only [Option.map_some]; cases bounds n lo hi mx <;> rfl
    case array n el => dsimp only; cases P.info? el <;> rfl
def slArr (x : Option (Nat × Nat)) (id off : Nat) (o : Option AObj) (lo hi mx : Option AV) : Option AV := match x, o with
  | some (n, s), some (.row _ _ cs) => match bounds n lo hi mx with
    | some (l, h, _) => if off + n * s ≤ cs.length ∧ n ≤ maxLen then some (.own id (off + l * s) (h - l) s) else none
    | none => none
  | _, _ => none
@[simp] theorem slArr_all {b : Bool} : slArr (some (n, s)) id off (some (.row t b cs)) none none none = if off + n * s ≤ cs.length ∧ n ≤ maxLen then some (.own id off n s) else none := by simp [slArr]
@[simp] theorem slArr_hi {b : Bool} : slArr (some (n, s)) id off (some (.row t b cs)) none (some (.c (.int kd z))) none = if (0 ≤ z ∧ z ≤ n) ∧ off + n * s ≤ cs.length ∧ n ≤ maxLen then some (.own id off z.toNat s) else none := by
  by_cases h : 0 ≤ z ∧ z ≤ n <;> simp [slArr, h]
@[simp] theorem slArr_lo {b : Bool} : slArr (some (n, s)) id off (some (.row t b cs)) (some (.c (.int kd z))) none none = if (0 ≤ z ∧ z ≤ n) ∧ off + n * s ≤ cs.length ∧ n ≤ maxLen then some (.own id (off + z.toNat * s) (n - z.toNat) s) else none := by
  by_cases h : 0 ≤ z ∧ z ≤ n <;> simp [slArr, h]
@[simp] theorem sliceA_ptr {lo hi mx : Option AV} : sliceA P H t (.ptr id off) lo hi mx = slArr (arT P t) id off H[id]? lo hi mx := by
  unfold sliceA arT slArr
  cases P.underlying t with
  | none => rfl
  | some d =>
    cases d <;> try rfl
    case array n el =>
      dsimp only
      cases P.info? el with
      | none => rfl
      | some i =>
        dsimp only [Option.map_some]
        cases H[id]? with
        | none => rfl
        | some o => cases o <;> first | rfl | (dsimp only; cases bounds n lo hi mx <;> rfl)
    case slice el => dsimp only; cases P.info? el <;> rfl
@[simp] theorem splice_nils : splice cs off [] = cs := splice_nil cs off
@[simp] theorem splice_zero {a b : AV} {bs : List AV} : splice (a :: cs) 0 (b :: bs) = b :: splice cs 0 bs := by simp [splice]
@[simp] theorem splice_succ {a b : AV} {bs : List AV} : splice (a :: cs) (n + 1) (b :: bs) = a :: splice cs n (b :: bs) := by
  simp only [splice, List.take_succ_cons, List.cons_append, List.length_cons]
  rw [show n + 1 + (bs.length + 1) = n + (bs.length + 1) + 1 by omega, List.drop_succ_cons]
/-! copies -/
def cpA (x : Option (TypeId × Nat × Nat)) (H : List AObj) (id off n k : Nat) (src : Option (Nat × List AV)) (o : Option AObj) : Option (AV × List AObj) := match x, src, o with
  | some (_, s, _), some (m, ys), some (.row t' false cs) => if s = 1 ∧ k = 1 ∧ off + Nat.min m n ≤ cs.length then some (.c (.int .i64 (Nat.min m n : Nat)), H.set id (.row t' false (splice cs off (ys.take (Nat.min m n))))) else none
  | _, _, _ => none
@[simp] theorem cpA_some {el b m t' : Nat} {ys : List AV} : cpA (some (el, s, b)) H id off n k (some (m, ys)) (some (.row t' false cs)) = if s = 1 ∧ k = 1 ∧ off + Nat.min m n ≤ cs.length then some (.c (.int .i64 (Nat.min m n : Nat)), H.set id (.row t' false (splice cs off (ys.take (Nat.min m n))))) else none := _root_.id rfl
@[simp] theorem copyA_own {y : AV} : copyA P H t (.own id off n k) y = cpA (elT P t) H id off n k (srcA H 1 y) H[id]? := by
  unfold copyA elT cpA
  cases P.underlying t with
  | none => rfl
  | some d =>
    cases d <;> try rfl
    case slice el =>
      dsimp only
      cases P.info? el with
      | none => rfl
      | some i =>
        dsimp only [Option.map_some]
        by_cases hs : i.size = 1
        · rw [if_pos (by rw [hs])]
          cases srcA H 1 y with
          | none => rfl
          | some q =>
            obtain ⟨m, ys⟩ := q
            dsimp only
            cases H[id]? with
            | none => rfl
            | some o =>
              cases o with
              | dead => rfl
              | row t' fz cs =>
                cases fz with
                | true => rfl
                | false => simp [hs]
        · rw [if_neg (by simpa using hs)]
          cases srcA H 1 y with
          | none => rfl
          | some q =>
            obtain ⟨m, ys⟩ := q
            cases H[id]? with
            | none => rfl
            | some o =>
              cases o with
              | dead => rfl
              | row t' fz cs =>
                cases fz with
                | true => rfl
                | false => simp [hs]
@[simp] theorem flat_byteA (x : List UInt8) : flat (x.map byteA) = x.map byteA := flat_bytes x
@[simp] theorem fdiv_lit (y : Int) (n : Nat) : y.fdiv (no_index (OfNat.ofNat n)) = y / (OfNat.ofNat n) := Int.fdiv_eq_ediv_of_nonneg _ (by show (0 : Int) ≤ (n : Int); omega)
/-! results in variables -/
def consO (x : Option AV) (l : Option (List AV)) : Option (List AV) := match x, l with
  | some a, some l => some (a :: l)
  | _, _ => none
@[simp] theorem consO_some {a : AV} {l : List AV} : consO (some a) (some l) = some (a :: l) := _root_.id rfl
@[simp] theorem consO_if {a : AV} {l : Option (List AV)} (c : Prop) [Decidable c] : consO (if c then some a else none) l = if c then consO (some a) l else none := by by_cases h : c <;> simp [h, consO]
@[simp] theorem resA_cell {env : Env} (a : Nat) (r : List ResultVar) : resA P H env (.cell a t :: r) = consO (loadA P H t (env.getD a .any)) (resA P H env r) := _root_.id rfl
/-- A call of a function that knows no objects and has one answer, among others in a drawn region. -/
theorem nextDC.use {all rest : List Oper} {K : Env → List AObj → Prop} {env : Env} {d : Option Tmp} {f : FuncId} {args : List AV} {r : AV} (h : PCall P f args [] (fun x _ => Bd 0 x ∧ x = r)) (ha : ∀ a ∈ args, Bd 0 a) (hk : wopsD P all rest K (putE env d r) H) : nextDC P all rest K env d H f args := .inl ⟨r, PCall.det h ha, hk⟩
/-- One object lent to a call that turns its cells into cs2 and answers r. -/
theorem PCall.lend1 {f : FuncId} {args args1 : List AV} {Q : AV → List AObj → Prop} {cs2 : List AV} {r : AV} (h : PCall P f args1 [.row t false cs] (fun x H1 => Bd 0 x ∧ x = r ∧ ∃ junk, H1 = .row t false cs2 :: junk)) (hi : H[id]? = some (.row t false cs)) (hcs : ∀ a ∈ cs, Bd 0 a) (hcs2 : ∀ a ∈ cs2, Bd 0 a) (ha : Pw (Ln id) args args1) (hq : Q r (H.set id (.row t false cs2))) : PCall P f args H Q :=
  (PCall.lend (Q := fun x cs' => x = r ∧ cs' = cs2) hi hcs ha (h.mono fun x H1 ⟨h1, h2, junk, h3⟩ => ⟨h1, cs2, junk, h3, hcs2, h2, rfl⟩)).mono fun x H' ⟨cs', h1, h2, h3⟩ => by
    rw [h1, h2, h3]; exact hq
@[simp] theorem take_rest {α : Type} (l : List α) (n : Nat) : (l.drop n).take (l.length - n) = l.drop n := List.take_of_length_le (by simp)
@[simp] theorem joinR_none : joinR [] = .tup [] := _root_.id rfl
@[simp] theorem splice_whole {l : List AV} (h : l.length = cs.length) : splice cs 0 l = l := by simp [splice, h]
@[simp] theorem hsum_len (bs : List UInt8) : (hsum bs).length = 8 := _root_.id rfl
@[simp] theorem ofV_len' (v : Int) : (ofV v).length = 8 := _root_.id rfl
@[simp] theorem tagged_len' (t : UInt8) (bs : List UInt8) : (tagged t bs).length = 8 := _root_.id rfl
/-- A call with one answer that leaves the objects. -/
theorem PCall.to {f : FuncId} {args : List AV} {Q : AV → List AObj → Prop} {r : AV} (h : PCall P f args H (fun x H' => x = r ∧ H' = H)) (hq : Q r H) : PCall P f args H Q := h.mono (fun x H' ⟨h1, h2⟩ => by rw [h1, h2]; exact hq)
end
end

section
open Go.RowKit

section
variable {P : Program} {w : World}
/-- A type of whole numbers alone that == compares cell by cell: its cells. -/
def eqT (P : Program) (t : TypeId) : Option Nat := if P.eqGuardType P.depth t = false ∧ rowB P t = true then flatT P 20 t else none
theorem plain_kin {xs ys : List Value} (hl : ys.length = xs.length) (h : Kin xs ys) : (∀ v ∈ xs, plainV v = true) ∧ ∀ v ∈ ys, plainV v = true := by
  constructor
  · intro v hv
    obtain ⟨i, hi⟩ := List.getElem?_of_mem hv
    have hlt := (List.getElem?_eq_some_iff.1 hi).1
    obtain ⟨k, a, b, rfl, -⟩ := h i v _ hi (List.getElem?_eq_getElem (by omega))
    rfl
  · intro v hv
    obtain ⟨i, hi⟩ := List.getElem?_of_mem hv
    have hlt := (List.getElem?_eq_some_iff.1 hi).1
    obtain ⟨k, a, b, -, rfl⟩ := h i _ v (List.getElem?_eq_getElem (by omega)) hi
    rfl
theorem toV_row {xs : List Value} (h : ∀ v ∈ xs, plainV v = true) : toV (.agg (xs.map .c)) = some (.agg xs.toArray) := by
  have e : (xs.map AV.c).mapM plainC = some xs := by
    induction xs with
    | nil => rfl
    | cons v xs ih =>
      rw [List.map_cons, List.mapM_cons, ih (fun v hv => h v (List.mem_cons_of_mem _ hv))]
      simp [plainC, h v List.mem_cons_self]
  simp [toV, e]
theorem binA_rows {t : TypeId} {s : Nat} {ox oy : Operand} {xs ys : List Value} (ht : eqT P t = some s) (hx : xs.length = s) (hy : ys.length = s) (hk : Kin xs ys) : ∃ b, (b = true ↔ xs = ys) ∧ binA P .eql t ox oy (.agg (xs.map .c)) (.agg (ys.map .c)) = some (.c (.bool b)) ∧ binA P .neq t ox oy (.agg (xs.map .c)) (.agg (ys.map .c)) = some (.c (.bool (!b))) := by
  unfold eqT at ht
  split at ht
  · rename_i hc
    obtain ⟨p1, p2⟩ := plain_kin (by omega) hk
    obtain ⟨b, h1, h2⟩ : ∃ b, (∀ w, (Op.equalIn 10000 t (.agg xs.toArray) (.agg ys.toArray)).run P w = .ok b w) ∧ (b = true ↔ xs = ys) := by
      have key := fun w => flat_eq 20 t s 10000 xs ys w ht (by decide) hx hy hk
      rw [hc.2] at key
      by_cases e : xs = ys
      · refine ⟨true, fun w => ?_, by simp [e]⟩
        obtain ⟨b, h1, h2⟩ := key w
        rw [h2.2 e] at h1
        exact h1
      · refine ⟨false, fun w => ?_, by simp [e]⟩
        obtain ⟨b, h1, h2⟩ := key w
        cases b with
        | true => exact absurd (h2.1 rfl) e
        | false => exact h1
    refine ⟨b, h2, ?_, ?_⟩
    · simp only [binA, isNilV, isPtrA, toV_row p1, toV_row p2]
      rw [pvE_of (v := .bool b) (fun w => by rw [Sem.run_bind, run_eqGuard_agg w _ _ _ _ _ _ hc.1, Result.andThen_ok, run_eql_struct, h1]; rfl)]
      rfl
    · simp only [binA, isNilV, isPtrA, toV_row p1, toV_row p2]
      rw [pvE_of (v := .bool (!b)) (fun w => by rw [Sem.run_bind, run_eqGuard_agg w _ _ _ _ _ _ hc.1, Result.andThen_ok, run_neq_struct, h1]; rfl)]
      rfl
  · cases ht
/-- A whole object of bytes, frozen. -/
theorem Fz_bytes {id n : Nat} {bs : List UInt8} (h : bs.length = n) : Fz id (bs.map byteA) (.own id 0 n 1) (bytesA bs) := Fz.whole (fun e he => by obtain ⟨x, -, rfl⟩ := List.mem_map.1 he; rfl) (by simpa using h) (flat_bytes bs)
/-- Names. -/
def byteV' (b : UInt8) : Value := .int .u8 b.toNat
theorem nm_row (a : List UInt8) : nmA a = .agg ((a.map byteV').map .c) := by simp only [nmA, List.map_map]; rfl
theorem bytes_inj {a b : List UInt8} : a.map byteV' = b.map byteV' ↔ a = b :=
  List.map_inj_right (fun x y e => by simp [byteV'] at e; exact UInt8.toNat_inj.1 (by omega))
theorem nm_kin (a b : List UInt8) : Kin (a.map byteV') (b.map byteV') := by
  intro i u v h1 h2
  obtain ⟨x, -, rfl⟩ := List.mem_map.1 (List.mem_of_getElem? h1)
  obtain ⟨y, -, rfl⟩ := List.mem_map.1 (List.mem_of_getElem? h2)
  exact ⟨_, _, _, rfl, rfl⟩
@[simp] theorem nlA_nm {op : BinOp} {t : TypeId} {x : AV} {b : List UInt8} : nlA P op t x (nmA b) = none := nlA_zero rfl rfl
theorem binA_nm {t : TypeId} {ox oy : Operand} {a b : List UInt8} (ht : eqT P t = some 8) (ha : a.length = 8) (hb : b.length = 8) : binA P .eql t ox oy (nmA a) (nmA b) = some (.c (.bool (decide (a = b)))) ∧ binA P .neq t ox oy (nmA a) (nmA b) = some (.c (.bool (!decide (a = b)))) := by
  obtain ⟨z, h1, h2, h3⟩ := binA_rows (ox := ox) (oy := oy) ht (by simpa using ha) (by simpa using hb) (nm_kin a b)
  have e : z = decide (a = b) := by rw [Bool.eq_iff_iff, h1, bytes_inj]; simp
  rw [nm_row, nm_row, h2, h3, e]
  exact ⟨rfl, rfl⟩
end
end

section
open Go.RowKit
attribute [-simp] List.map_take List.map_drop

section
variable {P : Program} {all rest : List Oper} {N i L : Nat} {K : Env → List AObj → Prop} {effs : List (Nat × List AObj)} {pend : Pend} {env : Env} {H H' : List AObj} {o : Oper} {a : AV}
attribute [simp] W_regionN
def effsOk (all : List Oper) (N i : Nat) (effs : List (Nat × List AObj)) : Prop := listAll (fun p => depF all N i p.1 = true) effs
@[simp] theorem effsOk_nil : effsOk all N i [] = True := _root_.id rfl
@[simp] theorem effsOk_cons {j : Nat} : effsOk all N i ((j, H) :: effs) = (depF all N i j = true ∧ effsOk all N i effs) := _root_.id rfl
def staysE (P : Program) (all : List Oper) (N i : Nat) (o : Oper) (env : Env) (a : AV) (effs : List (Nat × List AObj)) : Prop := listAll (fun p => stays P (depF all N i p.1) p.2 o env a) effs
@[simp] theorem staysE_nil : staysE P all N i o env a [] = True := _root_.id rfl
@[simp] theorem staysE_cons {j : Nat} : staysE P all N i o env a ((j, H) :: effs) = ((depF all N i j = true ∨ opA P H (evA env) o = some (.val a H)) ∧ staysE P all N i o env a effs) := _root_.id rfl
def staysP (P : Program) (all : List Oper) (N i : Nat) (H' : List AObj) (pend : Pend) : Prop := listAll (fun p => stays P (depF all N i p.1) H' p.2.1 p.2.2.1 p.2.2.2) pend
@[simp] theorem staysP_nil : staysP P all N i H' [] = True := _root_.id rfl
@[simp] theorem staysP_cons {j : Nat} : staysP P all N i H' ((j, o, env, a) :: pend) = ((depF all N i j = true ∨ opA P H' (evA env) o = some (.val a H')) ∧ staysP P all N i H' pend) := _root_.id rfl
def nextNV (P : Program) (all : List Oper) (N i : Nat) (o : Oper) (rest : List Oper) (K : Env → List AObj → Prop) (effs : List (Nat × List AObj)) (pend : Pend) (env : Env) (H : List AObj) (a : AV) (H' : List AObj) : Prop :=
  if effOp o.op = true then effsOk all N i effs ∧ staysP P all N i H' pend ∧ dops P all N (i + 1) rest K ((i, H) :: effs) pend (putE env o.dst a) H'
  else H' = H ∧ staysE P all N i o env a effs ∧ dops P all N (i + 1) rest K effs ((i, o, env, a) :: pend) (putE env o.dst a) H
def nextNC (P : Program) (all : List Oper) (N i : Nat) (o : Oper) (rest : List Oper) (K : Env → List AObj → Prop) (effs : List (Nat × List AObj)) (pend : Pend) (env : Env) (H : List AObj) (f : FuncId) (args : List AV) : Prop := (∃ r, (∀ H0, PCall P f args H0 fun r' H' => r' = r ∧ H' = H0) ∧ dops P all N (i + 1) rest K effs pend (putE env o.dst r) H) ∨ ∃ r H', (PCall P f args H fun x H1 => x = r ∧ H1 = H') ∧ effsOk all N i effs ∧ staysP P all N i H' pend ∧ dops P all N (i + 1) rest K ((i, H) :: effs) pend (putE env o.dst r) H'
theorem nextNC.use {f : FuncId} {args : List AV} {r : AV} (h : PCall P f args [] (fun x _ => Bd 0 x ∧ x = r)) (ha : ∀ a ∈ args, Bd 0 a) (hk : dops P all N (i + 1) rest K effs pend (putE env o.dst r) H) : nextNC P all N i o rest K effs pend env H f args := .inl ⟨r, PCall.det h ha, hk⟩
theorem nextNC.eff {f : FuncId} {args : List AV} (r : AV) (H' : List AObj) (h : PCall P f args H fun x H1 => x = r ∧ H1 = H') (h1 : effsOk all N i effs) (h2 : staysP P all N i H' pend) (hk : dops P all N (i + 1) rest K ((i, H) :: effs) pend (putE env o.dst r) H') : nextNC P all N i o rest K effs pend env H f args := .inr ⟨r, H', h, h1, h2, hk⟩
/-- A call whose arguments name one object that is frozen at it. -/
theorem nextNC.fz {f : FuncId} {args args' : List AV} {r : AV} {id : Nat} {t : TypeId} {fz : Bool} {cs : List AV} (h : PCall P f args' [] (fun x _ => Bd 0 x ∧ x = r)) (hi : H[id]? = some (.row t fz cs)) (ha : Pw (Fz id cs) args args') (hb : ∀ a ∈ args', Bd 0 a) (h1 : effsOk all N i effs) (h2 : staysP P all N i (H.set id .dead) pend) (hk : dops P all N (i + 1) rest K ((i, H) :: effs) pend (putE env o.dst r) (H.set id .dead)) : nextNC P all N i o rest K effs pend env H f args :=
  nextNC.eff r _ (PCall.freeze hi ha (h.use hb ⟨rfl, rfl⟩)) h1 h2 hk
theorem nextDC.fz {d : Option Tmp} {f : FuncId} {args args' : List AV} {r : AV} {id : Nat} {t : TypeId} {fz : Bool} {cs : List AV} (h : PCall P f args' [] (fun x _ => Bd 0 x ∧ x = r)) (hc : ordC all = true) (hi : H[id]? = some (.row t fz cs)) (ha : Pw (Fz id cs) args args') (hb : ∀ a ∈ args', Bd 0 a) (hk : wopsD P all rest K (putE env d r) (H.set id .dead)) : nextDC P all rest K env d H f args :=
  nextDC.eff hc r _ (PCall.freeze hi ha (h.use hb ⟨rfl, rfl⟩)) hk
/-- A call that turns one lent object. -/
theorem nextDC.lend {d : Option Tmp} {f : FuncId} {args args1 : List AV} {r : AV} {id : Nat} {t : TypeId} {cs cs2 : List AV} (h : PCall P f args1 [.row t false cs] (fun x H1 => Bd 0 x ∧ x = r ∧ ∃ junk, H1 = .row t false cs2 :: junk)) (hc : ordC all = true) (hi : H[id]? = some (.row t false cs)) (hcs : ∀ a ∈ cs, Bd 0 a) (hcs2 : ∀ a ∈ cs2, Bd 0 a) (ha : Pw (Ln id) args args1) (hk : wopsD P all rest K (putE env d r) (H.set id (.row t false cs2))) : nextDC P all rest K env d H f args :=
  nextDC.eff hc r _ (h.lend1 hi hcs hcs2 ha ⟨rfl, rfl⟩) hk
@[simp] theorem nextNV_eff (h : effOp o.op = true) : nextNV P all N i o rest K effs pend env H a H' = (effsOk all N i effs ∧ staysP P all N i H' pend ∧ dops P all N (i + 1) rest K ((i, H) :: effs) pend (putE env o.dst a) H') := if_pos h
@[simp] theorem nextNV_val (h : effOp o.op = false) : nextNV P all N i o rest K effs pend env H a H' = (H' = H ∧ staysE P all N i o env a effs ∧ dops P all N (i + 1) rest K effs ((i, o, env, a) :: pend) (putE env o.dst a) H) := if_neg (by rw [h]; decide)
@[simp] theorem dops_nil : dops P all N i [] K effs pend env H = K env H := _root_.id rfl
@[simp] theorem dops_plain (d : Option Tmp) (op : Op) (ty : TypeId) (pos : String) (after : Array Edge) : dops P all N i (⟨d, op, ty, pos, after, none⟩ :: rest) K effs pend env H = stepK (opA P H (evA env) ⟨d, op, ty, pos, after, none⟩) (nextNV P all N i ⟨d, op, ty, pos, after, none⟩ rest K effs pend env H) (nextNC P all N i ⟨d, op, ty, pos, after, none⟩ rest K effs pend env H) := _root_.id rfl
theorem Fz.tupP {id : Nat} {cs xs ys : List AV} (h : Pw (Fz id cs) xs ys) : Fz id cs (.tup xs) (.tup ys) := .tup h.at_.1 h.at_.2
theorem Fz.aggP {id : Nat} {cs xs ys : List AV} (h : Pw (Fz id cs) xs ys) : Fz id cs (.agg xs) (.agg ys) := .agg h.at_.1 h.at_.2
end
section
variable {P : Program} {t : TypeId} {H : List AObj}
def b0A (x : Option (TypeId × Nat × Nat)) (z : Option AV) (H : List AObj) : Option (AV × List AObj) := match x, z with
  | some _, some _ => some (.nil0, H)
  | _, _ => none
@[simp] theorem b0A_some {x : TypeId × Nat × Nat} {z : AV} : b0A (some x) (some z) H = some (.nil0, H) := _root_.id rfl
@[simp] theorem buildSlice_0 : buildSliceA P H t 0 [] = b0A (elT P t) ((elT P t).bind fun p => zeroA P p.1) H := by
  unfold buildSliceA elT b0A
  cases P.underlying t with
  | none => rfl
  | some d =>
    cases d <;> try rfl
    case slice el =>
      dsimp only
      cases P.info? el with
      | none => rfl
      | some i =>
        dsimp only [Option.map_some, Option.bind_some]
        cases zeroA P el with
        | none => rfl
        | some z => simp
/-- A literal slice of n elements, all of them given. -/
def bnA (x : Option (TypeId × Nat × Nat)) (z : Option Nat) (H : List AObj) (az : List AV) : Option (AV × List AObj) := match x, z with
  | some (e, s, _), some l => if l = s ∧ 0 < s ∧ az.length * s ≤ 16777216 ∧ (az.all fun a => a.cells.length == s && a.stA) = true then some (.own H.length 0 az.length s, H ++ [.row e false (flat az)]) else none
  | _, _ => none
@[simp] theorem bnA_some {e b l s : Nat} {az : List AV} : bnA (some (e, s, b)) (some l) H az = if l = s ∧ 0 < s ∧ az.length * s ≤ 16777216 ∧ (az.all fun a => a.cells.length == s && a.stA) = true then some (.own H.length 0 az.length s, H ++ [.row e false (flat az)]) else none := _root_.id rfl
def enumA : Nat → List AV → List (Nat × AV)
  | _, [] => []
  | k, a :: az => (k, a) :: enumA (k + 1) az
theorem fill_enum {s : Nat} : ∀ (az : List AV) (k : Nat) (pre rest : List AV), pre.length = k * s → rest.length = az.length * s → (az.all fun a => a.cells.length == s && a.stA) = true → fillA (fun j => some (j * s, s)) (pre ++ rest) (enumA k az) = some (pre ++ flat az)
  | [], k, pre, rest, h1, h2, _ => by
    have : rest = [] := List.eq_nil_of_length_eq_zero (by simpa using h2)
    subst this
    simp [enumA, fillA, flat]
  | a :: az, k, pre, rest, h1, h2, h3 => by
    simp only [List.all_cons, Bool.and_eq_true, beq_iff_eq] at h3
    obtain ⟨⟨h4, h5⟩, h6⟩ := h3
    have h2' : rest.length = az.length * s + s := by rw [h2, List.length_cons, Nat.add_mul, Nat.one_mul]
    have hsp : splice (pre ++ rest) (k * s) a.cells = (pre ++ a.cells) ++ rest.drop s := by
      simp only [splice, ← h1, h4]
      rw [List.take_left', List.drop_append, List.drop_of_length_le (by omega)]
      · simp
      · rfl
    simp only [enumA, fillA]
    rw [if_pos ⟨h4, by rw [List.length_append, h1, h2']; omega, h5⟩, hsp, fill_enum az (k + 1) (pre ++ a.cells) (rest.drop s) (by rw [List.length_append, h1, h4, Nat.add_mul, Nat.one_mul]) (by rw [List.length_drop, h2']; omega) h6]
    simp [flat, List.append_assoc]
theorem fill_none {s : Nat} : ∀ (az : List AV) (k : Nat) (cs : List AV), (az.all fun a => a.cells.length == s && a.stA) = false → fillA (fun j => some (j * s, s)) cs (enumA k az) = none
  | [], k, cs, h => by simp at h
  | a :: az, k, cs, h => by
    simp only [enumA, fillA]
    split
    · rename_i hc
      refine fill_none az _ _ ?_
      simpa [hc.1, hc.2.2] using h
    · rfl
theorem buildSlice_n {az : List AV} (h0 : 0 < az.length) : buildSliceA P H t az.length (enumA 0 az) = bnA (elT P t) ((elT P t).bind fun p => zlT P p.1) H az := by
  unfold buildSliceA elT
  cases P.underlying t with
  | none => rfl
  | some d =>
    cases d <;> try rfl
    case slice el =>
      dsimp only
      cases P.info? el with
      | none => rfl
      | some i =>
        dsimp only [Option.map_some, Option.bind_some, zlT]
        cases zeroA P el with
        | none => rfl
        | some zv =>
          dsimp only [Option.map_some, Option.bind_some, bnA]
          rw [if_neg (by omega)]
          by_cases h1 : zv.cells.length = i.size ∧ 0 < i.size ∧ az.length * i.size ≤ 16777216
          · rw [if_pos ⟨h1.1, h1.2.1, h0, h1.2.2⟩]
            cases h2 : az.all fun a => a.cells.length == i.size && a.stA with
            | true =>
              rw [if_pos ⟨h1.1, h1.2.1, h1.2.2, rfl⟩]
              have := fill_enum (s := i.size) az 0 [] (reps az.length zv.cells) (by simp) (by rw [reps_len, h1.1]) h2
              rw [List.nil_append, List.nil_append] at this
              rw [this]; rfl
            | false =>
              rw [if_neg (by simp), fill_none az 0 _ h2]; rfl
          · rw [if_neg (by rintro ⟨a, b, _, c⟩; exact h1 ⟨a, b, c⟩), if_neg (by rintro ⟨a, b, c, _⟩; exact h1 ⟨a, b, c⟩)]
@[simp] theorem buildSlice_2 {a b : AV} : buildSliceA P H t 2 [(0, a), (1, b)] = bnA (elT P t) ((elT P t).bind fun p => zlT P p.1) H [a, b] := buildSlice_n (az := [a, b]) (Nat.succ_pos _)
@[simp] theorem buildSlice_3 {a b c : AV} : buildSliceA P H t 3 [(0, a), (1, b), (2, c)] = bnA (elT P t) ((elT P t).bind fun p => zlT P p.1) H [a, b, c] := buildSlice_n (az := [a, b, c]) (Nat.succ_pos _)
@[simp] theorem buildSlice_4 {a b c d : AV} : buildSliceA P H t 4 [(0, a), (1, b), (2, c), (3, d)] = bnA (elT P t) ((elT P t).bind fun p => zlT P p.1) H [a, b, c, d] := buildSlice_n (az := [a, b, c, d]) (Nat.succ_pos _)
end
end

section
open Go.RowKit

/-- Handles of the one object a callee knows as handles of the caller's object n. -/
inductive Sh (n : Nat) : AV → AV → Prop
  | bd {a : AV} (h : Bd 0 a) : Sh n a a
  | ptr (off : Nat) : Sh n (.ptr 0 off) (.ptr n off)
  | own (off m k : Nat) : Sh n (.own 0 off m k) (.own n off m k)
  | tup {xs ys : List AV} (hl : ys.length = xs.length) (h : ∀ (i : Nat) (a b : AV), xs[i]? = some a → ys[i]? = some b → Sh n a b) : Sh n (.tup xs) (.tup ys)
theorem Sh.tupP {n : Nat} {xs ys : List AV} (h : Pw (Sh n) xs ys) : Sh n (.tup xs) (.tup ys) := .tup h.at_.1 h.at_.2
@[simp] theorem Sh_c (n : Nat) (v : Value) : Sh n (.c v) (.c v) = True := eq_true (.bd (.c v))
@[simp] theorem Sh_own (n off m k : Nat) : Sh n (.own 0 off m k) (.own n off m k) = True := eq_true (.own off m k)
@[simp] theorem Sh_ptr (n off : Nat) : Sh n (.ptr 0 off) (.ptr n off) = True := eq_true (.ptr off)
@[simp] theorem Rn_tup {L M : Nat} {src : Nat → Nat} {xs ys : List AV} (h : Pw (Rn L M src) xs ys) : Rn L M src (.tup xs) (.tup ys) := .tup h.at_.1 h.at_.2
@[simp] theorem Rn_agg {L M : Nat} {src : Nat → Nat} {xs ys : List AV} (h : Pw (Rn L M src) xs ys) : Rn L M src (.agg xs) (.agg ys) := .agg h.at_.1 h.at_.2
section
variable {P : Program} {f : FuncId} {args : List AV} {H : List AObj}
/-- A call that knows no objects and makes one. -/
theorem PCall.fresh {t : TypeId} {cs : List AV} {x x' : AV} (h : PCall P f args [] (fun r H1 => r = x ∧ ∃ junk, H1 = .row t false cs :: junk)) (ha : ∀ a ∈ args, Bd 0 a) (hcs : ∀ a ∈ cs, Bd 0 a) (hx : Sh H.length x x') : PCall P f args H (fun r H' => r = x' ∧ H' = H ++ [.row t false cs]) := by
  intro F β w vs hr hvl
  have hr0 : Rep (fun b => F b ∨ MB β H b) β [] w := ⟨fun b hb => hb.elim (hr.far b) (fun h => (hr.mb_lt h).1), fun id t fz cs hi => by simp at hi, fun i j ⟨t, fz, cs, hi⟩ => by simp at hi⟩
  have hI : ∀ b, Im F β H w b → Im (fun b => F b ∨ MB β H b) β [] w b := fun b hb => ⟨hb.1, fun h => h.elim hb.2.1 hb.2.2, fun ⟨id, s, ⟨t, cs, hi⟩, _⟩ => by simp at hi⟩
  have hvl0 : VL (fun b => F b ∨ MB β H b) β [] w args vs := ⟨hvl.1, fun i a v h1 h2 => (hvl.2 i a v h1 h2).bd (n := 0) hI (fun _ _ => Kept.refl _ _) (fun x v hb hl => (hb.no_leaf hl).elim) (ha a (List.mem_of_getElem? h1))⟩
  refine CallsX.mono (h _ β w vs hr0 hvl0) (fun e w' ⟨r, H1, β2, v, e1, ⟨e2, junk, e3⟩, r2, x2, v2⟩ => ?_)
  subst e3
  subst e2
  have hu : Upd NoF w w' := x2.upd.mono (fun k _ ⟨id, s, ⟨t, cs, hi⟩, _⟩ => by simp at hi)
  have mb0 : ∀ b s, β2 0 = some (b, s) → MB β2 (.row t false cs :: junk) b := fun b s e => ⟨0, s, ⟨t, cs, rfl⟩, e⟩
  have hnew : ∀ b s, β2 0 = some (b, s) → w.heap.size ≤ b := fun b s e => by
    rcases Nat.lt_or_ge b w.heap.size with hlt | hge
    · obtain ⟨id, s', ⟨t', cs', hi⟩, -⟩ := x2.new b (mb0 b s e) hlt
      simp at hi
    · exact hge
  have hset : setL β H.length (β2 0) H.length = β2 0 := setL_same _ _ _
  have hI2 : ∀ b, Im (fun b => F b ∨ MB β H b) β2 (.row t false cs :: junk) w' b → Im F (setL β H.length (β2 0)) (H ++ [.row t false cs]) w' b := by
    intro b hb
    refine ⟨hb.1, fun f => hb.2.1 (.inl f), fun ⟨j, s, ⟨t', c, hj⟩, e⟩ => ?_⟩
    by_cases hjl : j = H.length
    · subst hjl
      rw [hset] at e
      exact hb.2.2 (mb0 b s e)
    · have hlt : j < H.length := by
        have := (List.getElem?_eq_some_iff.1 hj).1
        simp at this
        omega
      rw [List.getElem?_append_left hlt] at hj
      have e' : β j = some (b, s) := by rw [← e]; exact (setL_ne β (β2 0) hjl).symm
      exact hb.2.1 (.inr ⟨j, s, ⟨t', c, hj⟩, e'⟩)
  have hV2 : ∀ {a v}, Bd 0 a → V (fun b => F b ∨ MB β H b) β2 (.row t false cs :: junk) w' a v → V F (setL β H.length (β2 0)) (H ++ [.row t false cs]) w' a v := fun hb hv => hv.bd (n := 0) hI2 (fun _ _ => Kept.refl _ _) (fun x v hb hl => (hb.no_leaf hl).elim) hb
  have hV3 : ∀ y y', Sh H.length y y' → ∀ v, V (fun b => F b ∨ MB β H b) β2 (.row t false cs :: junk) w' y v → V F (setL β H.length (β2 0)) (H ++ [.row t false cs]) w' y' v := by
    intro y y' hy
    induction hy with
    | bd hb => exact fun v v2 => hV2 hb v2
    | ptr off =>
      intro v v2
      cases v2 with
      | leaf v2 => exact .leaf ⟨by simp, ⟨v2.2.1.1, noMap_last (v2.2.1.2 _ _ _ rfl)⟩, fun t' fz' cs' hj => by
          simp at hj
          obtain ⟨rfl, rfl, rfl⟩ := hj
          obtain ⟨b, s, q⟩ := v2.2.2 _ _ _ rfl
          exact ⟨b, s, by rw [hset]; exact q⟩⟩
    | own off m k =>
      intro v v2
      cases v2 with
      | leaf v2 => exact .leaf ⟨by simp, ⟨v2.2.1.1, noMap_last (v2.2.1.2 _ _ _ rfl)⟩, fun t' fz' cs' hj => by
          simp at hj
          obtain ⟨rfl, rfl, rfl⟩ := hj
          have q := v2.2.2 _ _ _ rfl
          show _ ∧ _ ∧ (_ ∨ ∃ b s cap, setL β H.length (β2 0) H.length = _ ∧ _)
          rw [hset]
          exact q⟩
    | @tup xs ys hl _ ih =>
      intro v v2
      cases v2 with
      | leaf v2 => exact v2.elim
      | tup hl' hv =>
        refine .tup (by rw [hl]; exact hl') (fun i b u hb hu => ?_)
        have hlt : i < xs.length := by rw [← hl]; exact (List.getElem?_eq_some_iff.1 hb).1
        exact ih i _ b (List.getElem?_eq_getElem hlt) hb u (hv i _ u (List.getElem?_eq_getElem hlt) hu)
  refine ⟨x', _, setL β H.length (β2 0), v, e1, ⟨rfl, rfl⟩, rep_push hr hu (β2 0) hnew (fun b s e hf => ?_) ?_, ext_push hr hu _ _ hnew, ?_⟩
  · exact absurd (hr.far b hf) (Nat.not_lt.2 (hnew b s e))
  · rcases r2.row 0 t false cs rfl with ⟨h1, h2⟩ | ⟨b, C, us, h1, h2, h3, h4, h5, h6, h7⟩
    · exact .inl ⟨h1, by rw [hset]; exact h2⟩
    · exact .inr ⟨b, C, us, by rw [hset]; exact h1, fun f => h2 (.inl f), h3, h4, h5, h6, fun i a v ha hv => hV2 (hcs a (List.mem_of_getElem? ha)) (h7 i a v ha hv)⟩
  · exact hV3 _ _ hx v v2
/-- A call with one answer and one state behind it. -/
theorem PCall.goes {Q : AV → List AObj → Prop} {r : AV} {H' : List AObj} (h : PCall P f args H (fun x H1 => x = r ∧ H1 = H')) (hq : Q r H') : PCall P f args H Q := h.mono (fun x H1 ⟨h1, h2⟩ => by rw [h1, h2]; exact hq)
end
section
variable {P : Program} {H : List AObj} {k : IntKind} {a b : Int} {ts : List TypeId}
@[simp] theorem builtin_min : builtinA P H .min ts [.c (.int k a), .c (.int k b)] = some (.c (.int k (if b < a then b else a)), H) := by simp [builtinA, minA]
@[simp] theorem builtin_max : builtinA P H .max ts [.c (.int k a), .c (.int k b)] = some (.c (.int k (if b > a then b else a)), H) := by simp [builtinA, minA]
end
end
end Go.Proofs.YthknobbilcolnaaGreat
