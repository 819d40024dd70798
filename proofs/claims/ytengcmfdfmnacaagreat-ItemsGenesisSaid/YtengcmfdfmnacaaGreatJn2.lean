/- The hash functions of package hash: the number of a name, words. No condition. Names and votes as values, and when two are equal. No condition. Valid of package vote and of the reference. No condition. Valid of package vote. No condition. Valid of package vote. No condition. Valid of package vote. No condition. Valid of the reference. No condition. Valid of package vote and of the reference, for every vote. No condition. append onto a slice that owns its block, in a region that draws its order. No condition. The hash functions of package hash and of the reference: Sum, Tagged. Conditions: sizes. The small functions of package disk: write, open, existing. No condition. What the functions of package disk compute, on plain data. No condition. A disk of which one file is turned, made or removed. No condition. New, Off, Arm, Read, Append of package disk; bytes.Clone. No condition. Append of package disk. Condition: no file grows beyond 2^40 bytes. -/
import Derived.Test.YtengcmfdfmnacaaGreatJn1
import Derived.Laws.CopyOwn
import Derived.Laws.Rows
import Derived.Laws.StructEq
import Derived.BigGuardPart
import Derived.Deep.QuietTactic
import Derived.BigQuiet
import Derived.RegionTactic
import Derived.Deep.RegionHeld3
import Derived.Deep.DrawnRows
import Derived.Deep.RegionLaw
import Derived.Outline
import GoSem.ClaimWide
namespace Go.Proofs.YtengcmfdfmnacaaGreat
section
open Go.RowKit

theorem idx0 (b0 b1 b2 b3 b4 b5 b6 b7 : UInt8) (w : World) : (Instr.index 28 (nameV [b0, b1, b2, b3, b4, b5, b6, b7]) (.int .i64 0)).run Tryz.prog w = .ok (byteV b0) w := by kernel_rfl
theorem idx1 (b0 b1 b2 b3 b4 b5 b6 b7 : UInt8) (w : World) : (Instr.index 28 (nameV [b0, b1, b2, b3, b4, b5, b6, b7]) (.int .i64 1)).run Tryz.prog w = .ok (byteV b1) w := by kernel_rfl
theorem idx2 (b0 b1 b2 b3 b4 b5 b6 b7 : UInt8) (w : World) : (Instr.index 28 (nameV [b0, b1, b2, b3, b4, b5, b6, b7]) (.int .i64 2)).run Tryz.prog w = .ok (byteV b2) w := by kernel_rfl
theorem idx3 (b0 b1 b2 b3 b4 b5 b6 b7 : UInt8) (w : World) : (Instr.index 28 (nameV [b0, b1, b2, b3, b4, b5, b6, b7]) (.int .i64 3)).run Tryz.prog w = .ok (byteV b3) w := by kernel_rfl
theorem idx4 (b0 b1 b2 b3 b4 b5 b6 b7 : UInt8) (w : World) : (Instr.index 28 (nameV [b0, b1, b2, b3, b4, b5, b6, b7]) (.int .i64 4)).run Tryz.prog w = .ok (byteV b4) w := by kernel_rfl
theorem idx5 (b0 b1 b2 b3 b4 b5 b6 b7 : UInt8) (w : World) : (Instr.index 28 (nameV [b0, b1, b2, b3, b4, b5, b6, b7]) (.int .i64 5)).run Tryz.prog w = .ok (byteV b5) w := by kernel_rfl
theorem idx6 (b0 b1 b2 b3 b4 b5 b6 b7 : UInt8) (w : World) : (Instr.index 28 (nameV [b0, b1, b2, b3, b4, b5, b6, b7]) (.int .i64 6)).run Tryz.prog w = .ok (byteV b6) w := by kernel_rfl
theorem idx7 (b0 b1 b2 b3 b4 b5 b6 b7 : UInt8) (w : World) : (Instr.index 28 (nameV [b0, b1, b2, b3, b4, b5, b6, b7]) (.int .i64 7)).run Tryz.prog w = .ok (byteV b7) w := by kernel_rfl
/-- An element of a name. -/
theorem index_name (l : List UInt8) (hl : l.length = 8) (k : Nat) (b : UInt8) (hb : l[k]? = some b) (w : World) : (Instr.index 28 (nameV l) (.int .i64 (k : Int))).run Tryz.prog w = .ok (byteV b) w := by
  obtain ⟨b0, b1, b2, b3, b4, b5, b6, b7, l', rfl⟩ := eight l (by omega)
  obtain rfl : l' = [] := by simpa using hl
  match k, hb with
  | 0, rfl => exact idx0 b0 b1 b2 b3 b4 b5 b6 b7 w
  | 1, rfl => exact idx1 b0 b1 b2 b3 b4 b5 b6 b7 w
  | 2, rfl => exact idx2 b0 b1 b2 b3 b4 b5 b6 b7 w
  | 3, rfl => exact idx3 b0 b1 b2 b3 b4 b5 b6 b7 w
  | 4, rfl => exact idx4 b0 b1 b2 b3 b4 b5 b6 b7 w
  | 5, rfl => exact idx5 b0 b1 b2 b3 b4 b5 b6 b7 w
  | 6, rfl => exact idx6 b0 b1 b2 b3 b4 b5 b6 b7 w
  | 7, rfl => exact idx7 b0 b1 b2 b3 b4 b5 b6 b7 w

def NumRel (l : List UInt8) (x i : Value) : Prop := ∃ k : Nat, k ≤ 8 ∧ i = .int .i64 k ∧ x = u64V ((be (l.take k) : Nat) : Int)

set_option maxRecDepth 100000 in
set_option maxHeartbeats 2000000 in
theorem hNumber_any (l : List UInt8) (hl : l.length = 8) (w : World) : Calls Tryz.prog 77 #[nameV l] w fun e w' => e = .returned (u64V (be l)) ∧ Upd NoF w w' := by
  have IX := Lib.hid (index_name l hl)
  obtain ⟨b0, b1, b2, b3, b4, b5, b6, b7, l', rfl⟩ := eight l (by omega)
  obtain rfl : l' = [] := by simpa using hl
  have HL := Lib.hid hl
  clear hl
  go_enter Tryz.func77, Tryz.ntmps77
  go_wp2
  go_loop [3, 7] (fun x i => NumRel [b0, b1, b2, b3, b4, b5, b6, b7] x i) (fun _ i => 8 - (intOf i).toNat)
  case atStart => exact ⟨0, by omega, rfl, rfl⟩
  case round =>
    obtain ⟨k, hk, rfl, rfl⟩ := hrel
    by_cases hlt : k < 8
    · obtain ⟨b, hb⟩ : ∃ b, [b0, b1, b2, b3, b4, b5, b6, b7][k]? = some b := ⟨_, List.getElem?_eq_getElem hlt⟩
      have IXk : ∀ w, (Instr.index 28 (.agg #[byteV b0, byteV b1, byteV b2, byteV b3, byteV b4, byteV b5, byteV b6, byteV b7]) (.int .i64 (k : Int))).run Tryz.prog w = .ok (byteV b) w := IX.out k b hb
      have HE := Lib.hid (be_take_succ _ k b hb)
      have HO := Lib.hid (or_byte (be (List.take k [b0, b1, b2, b3, b4, b5, b6, b7])) b (by
        have h1 := be_take_lt [b0, b1, b2, b3, b4, b5, b6, b7] k
        have h2 : (256 : Nat) ^ k ≤ 256 ^ 7 := Nat.pow_le_pow_right (by omega) (by omega)
        omega))
      have t1 : decide ((k : Int) < 8) = true := by simp; omega
      have t1' : decide (k < 8) = true := by simp; omega
      generalize be (List.take k [b0, b1, b2, b3, b4, b5, b6, b7]) = u at HE HO ⊢
      clear hb
      go_wp2
      go_round
      case rel =>
        refine ⟨k + 1, by omega, by go_num, ?_⟩
        rw [HE.out, wrap_u64_byte, HO.out]
      case measure => simp [intOf]; omega
    · have t1 : decide ((k : Int) < 8) = false := by simp; omega
      have t1' : decide (k < 8) = false := by simp; omega
      obtain rfl : k = 8 := by omega
      go_wp2
      go_ret
      exact ⟨rfl, (Upd.refl NoF w).alloc _⟩

theorem be_pad (bs : List UInt8) (n : Nat) : be (bs ++ List.replicate n 0) = be bs * 256 ^ n := by
  induction n with
  | zero => simp
  | succ n ih =>
    rw [List.replicate_succ', ← List.append_assoc, be_snoc, ih, Nat.pow_succ]
    simp [Nat.mul_assoc]

/-- 'copy' of bytes into a block that is known whole. -/
theorem run_copy_bytes {w : World} {g o dl dc : Nat} {cur : Array Value} {t : TypeId} (hb : Blk w g t cur) {v : Value} {n : Nat} {bs : List UInt8} (hr : Rd w 1 v n (bs.map byteV)) (h0 : 0 < n) (k : Nat) (hk : k = Nat.min n dl) (hfit : o + k ≤ cur.size) (ty : TypeId) :
    ∃ w', (Builtin.copy_ #[52, 52] ty #[.slice (some ⟨g, o, none⟩) dl dc, v]).run Tryz.prog w = .ok (.int .i64 (k : Int)) w' ∧ Blk w' g t (cur.toList.take o ++ (bs.take k).map byteV ++ cur.toList.drop (o + k)).toArray ∧ Upd (fun j => j = g) w w' := by
  obtain ⟨A, c, rfl, hn, hc, hl, hx⟩ := hr
  obtain ⟨g0, o0, rfl, hcell⟩ := hx h0
  have hlen : ((bs.take k).map byteV).length = k := by
    simp at hl ⊢
    have : k ≤ n := by rw [hk]; exact Nat.min_le_left _ _
    omega
  have hr := run_copy_row (P := Tryz.prog) w 52 52 ty 5 g o dl dc ⟨g0, o0, none⟩ n c cur t ((bs.take k).map byteV) Tryz.underlying52 (by kernel_rfl) hb (by rw [hlen]; exact hk) (fun j u hu => by
    have hadd : (⟨g0, o0, none⟩ : Addr).add j = ⟨g0, o0 + j, none⟩ := by unfold Addr.add; split <;> simp_all
    rw [hadd]
    refine hcell j u ?_
    rw [List.map_take, List.getElem?_take] at hu
    split at hu
    · exact hu
    · cases hu) (by rw [hlen]; exact hfit) (bytes_oneCell _)
  rw [hlen] at hr
  exact ⟨_, hr, hb.row _, (Upd.refl (fun j => j = g) w).setRow (.inl rfl) _⟩

set_option maxRecDepth 100000 in
set_option maxHeartbeats 2000000 in
theorem hword_short {w : World} {v : Value} {bs : List UInt8} (h : Rd w 1 v bs.length (bs.map byteV)) (h8 : bs.length < 8) (h0 : 0 < bs.length) : Calls Tryz.prog 106 #[v] w fun e w' => e = .returned (u64V (wordN bs)) ∧ Upd NoF w w' := by
  obtain ⟨A, c, rfl, _⟩ := id h
  have t0 : decide ((8 : Int) ≤ bs.length) = false := by simp; omega
  have t0' : decide (8 ≤ bs.length) = false := by simp; omega
  have E := Lib.hid (show be (bs ++ List.replicate (8 - bs.length) 0) = wordN bs by rw [be_pad]; unfold wordN; rw [List.take_of_length_le (by omega)])
  have hA : Upd NoF w (w.alloc (.cells #[.int .u8 0, .int .u8 0, .int .u8 0, .int .u8 0, .int .u8 0, .int .u8 0, .int .u8 0, .int .u8 0] 28)) := (Upd.refl NoF w).alloc _
  obtain ⟨w2, hcp, hB2, hU2⟩ := run_copy_bytes (dl := 8) (dc := 8) (o := 0) (Blk.new w 28 #[.int .u8 0, .int .u8 0, .int .u8 0, .int .u8 0, .int .u8 0, .int .u8 0, .int .u8 0, .int .u8 0]) (show Rd _ 1 (.slice A bs.length c) bs.length (bs.map byteV) from by
    intros
    obtain ⟨A', c', e, h1, h2, h3, hx⟩ := h
    exact ⟨A', c', e, h1, h2, h3, fun h0 => by
      obtain ⟨g, o, e', hc⟩ := hx h0
      exact ⟨g, o, e', fun j u hu => hA.cell (hc j u hu) (fun h => h)⟩⟩) h0 bs.length (by simp only [Nat.min_def]; split <;> omega) (by simp; omega) 3
  have U2 := Lib.hid (show Upd NoF w w2 from hA.trans hU2 (fun k hk e => by omega))
  have B2 := Lib.hid (show Blk w2 w.heap.size 28 ((bs ++ List.replicate (8 - bs.length) 0).map byteV).toArray from by
    have e1 : ((#[Value.int .u8 0, .int .u8 0, .int .u8 0, .int .u8 0, .int .u8 0, .int .u8 0, .int .u8 0, .int .u8 0] : Array Value).toList.take 0 ++ (bs.take bs.length).map byteV ++ (#[Value.int .u8 0, .int .u8 0, .int .u8 0, .int .u8 0, .int .u8 0, .int .u8 0, .int .u8 0, .int .u8 0] : Array Value).toList.drop (0 + bs.length)).toArray = ((bs ++ List.replicate (8 - bs.length) 0).map byteV).toArray := by
      have e2 : [Value.int .u8 0, .int .u8 0, .int .u8 0, .int .u8 0, .int .u8 0, .int .u8 0, .int .u8 0, .int .u8 0] = List.replicate 8 (byteV 0) := rfl
      simp only [List.take_zero, List.nil_append, List.take_length, Nat.zero_add, e2, List.drop_replicate, List.map_append, List.map_replicate]
    rw [← e1]
    exact hB2)
  obtain ⟨pl, hpl⟩ : ∃ pl, pl = bs ++ List.replicate (8 - bs.length) 0 := ⟨_, rfl⟩
  rw [← hpl] at B2 E
  have hpl8 : pl.length = 8 := by rw [hpl]; simp; omega
  have CN := Lib.hid (hNumber_any pl hpl8 w2)
  obtain ⟨b0, b1, b2, b3, b4, b5, b6, b7, l', rfl⟩ := eight pl (by omega)
  obtain rfl : l' = [] := by simpa using hpl8
  have q0 : w2.cell? ⟨w.heap.size, 0, none⟩ = some (byteV b0) := B2.out.cell 0
  have q1 : w2.cell? ⟨w.heap.size, 1, none⟩ = some (byteV b1) := B2.out.cell 1
  have q2 : w2.cell? ⟨w.heap.size, 2, none⟩ = some (byteV b2) := B2.out.cell 2
  have q3 : w2.cell? ⟨w.heap.size, 3, none⟩ = some (byteV b3) := B2.out.cell 3
  have q4 : w2.cell? ⟨w.heap.size, 4, none⟩ = some (byteV b4) := B2.out.cell 4
  have q5 : w2.cell? ⟨w.heap.size, 5, none⟩ = some (byteV b5) := B2.out.cell 5
  have q6 : w2.cell? ⟨w.heap.size, 6, none⟩ = some (byteV b6) := B2.out.cell 6
  have q7 : w2.cell? ⟨w.heap.size, 7, none⟩ = some (byteV b7) := B2.out.cell 7
  clear h hA hB2 hU2 hpl hpl8
  go_enter Tryz.func106, Tryz.ntmps106
  go_wp2_with fail
  refine CN.out.mono ?_
  rintro e w3 ⟨rfl, hu3⟩
  go_wp2
  go_ret
  exact ⟨congrArg (fun z : Nat => Ending.returned (u64V z)) E.out, U2.out.trans hu3 (fun _ _ h => h)⟩

theorem hword_any {w : World} {v : Value} {bs : List UInt8} (h : Rd w 1 v bs.length (bs.map byteV)) (h0 : 0 < bs.length) : Calls Tryz.prog 106 #[v] w fun e w' => e = .returned (u64V (wordN bs)) ∧ Upd NoF w w' := by
  rcases Nat.lt_or_ge bs.length 8 with h8 | h8
  · exact hword_short h h8 h0
  · exact hword_long h h8
theorem r1word_any {w : World} {v : Value} {bs : List UInt8} (h : Rd w 1 v bs.length (bs.map byteV)) : Calls Tryz.prog 83 #[v] w fun e w' => e = .returned (u64V (wordN bs)) ∧ Upd NoF w w' := by
  rcases Nat.lt_or_ge bs.length 8 with h8 | h8
  · exact r1word_short h h8
  · exact r1word_long h h8
end

section
open Go.RowKit

def voteCells (v : VoteS) : List Value := [.int .i64 v.kind, .int .i64 v.slot, .int .i64 v.round, .int .i64 v.choice, .int .i64 v.signer, .int .i64 v.support] ++ v.parent.map byteV ++ v.value.map byteV
abbrev voteV (v : VoteS) : Value := .agg (voteCells v).toArray
abbrev signedV (s : SignedS) (u : Value) : Value := .agg (voteCells s.vote ++ [u]).toArray

theorem byte_beq (a b : UInt8) : (((a.toNat : Nat) : Int) == ((b.toNat : Nat) : Int)) = (a == b) := by
  rw [Bool.eq_iff_iff]
  simp [← UInt8.toNat_inj]
  omega

theorem beq_dec (a b : List UInt8) : (a == b) = decide (a = b) := by rw [Bool.eq_iff_iff]; simp

theorem eq_u8 (d : Nat) (a b : UInt8) (w : World) : (Op.equalIn (d + 1) 5 (byteV a) (byteV b)).run Tryz.prog w = .ok (a == b) w := by
  rw [run_equalIn_int w d 5 .u8 .u8 _ _ Tryz.underlying5, byte_beq]

theorem part8_0 (x0 x1 x2 x3 x4 x5 x6 x7 : UInt8) (w : World) : (part 5 #[byteV x0, byteV x1, byteV x2, byteV x3, byteV x4, byteV x5, byteV x6, byteV x7] 0).run Tryz.prog w = .ok (byteV x0) w := by kernel_rfl
theorem part8_1 (x0 x1 x2 x3 x4 x5 x6 x7 : UInt8) (w : World) : (part 5 #[byteV x0, byteV x1, byteV x2, byteV x3, byteV x4, byteV x5, byteV x6, byteV x7] 1).run Tryz.prog w = .ok (byteV x1) w := by kernel_rfl
theorem part8_2 (x0 x1 x2 x3 x4 x5 x6 x7 : UInt8) (w : World) : (part 5 #[byteV x0, byteV x1, byteV x2, byteV x3, byteV x4, byteV x5, byteV x6, byteV x7] 2).run Tryz.prog w = .ok (byteV x2) w := by kernel_rfl
theorem part8_3 (x0 x1 x2 x3 x4 x5 x6 x7 : UInt8) (w : World) : (part 5 #[byteV x0, byteV x1, byteV x2, byteV x3, byteV x4, byteV x5, byteV x6, byteV x7] 3).run Tryz.prog w = .ok (byteV x3) w := by kernel_rfl
theorem part8_4 (x0 x1 x2 x3 x4 x5 x6 x7 : UInt8) (w : World) : (part 5 #[byteV x0, byteV x1, byteV x2, byteV x3, byteV x4, byteV x5, byteV x6, byteV x7] 4).run Tryz.prog w = .ok (byteV x4) w := by kernel_rfl
theorem part8_5 (x0 x1 x2 x3 x4 x5 x6 x7 : UInt8) (w : World) : (part 5 #[byteV x0, byteV x1, byteV x2, byteV x3, byteV x4, byteV x5, byteV x6, byteV x7] 5).run Tryz.prog w = .ok (byteV x5) w := by kernel_rfl
theorem part8_6 (x0 x1 x2 x3 x4 x5 x6 x7 : UInt8) (w : World) : (part 5 #[byteV x0, byteV x1, byteV x2, byteV x3, byteV x4, byteV x5, byteV x6, byteV x7] 6).run Tryz.prog w = .ok (byteV x6) w := by kernel_rfl
theorem part8_7 (x0 x1 x2 x3 x4 x5 x6 x7 : UInt8) (w : World) : (part 5 #[byteV x0, byteV x1, byteV x2, byteV x3, byteV x4, byteV x5, byteV x6, byteV x7] 7).run Tryz.prog w = .ok (byteV x7) w := by kernel_rfl

set_option maxRecDepth 100000 in
theorem name_equal (d : Nat) (a b : List UInt8) (ha : a.length = 8) (hb : b.length = 8) (w : World) : (Op.equalIn (d + 2) 28 (nameV a) (nameV b)).run Tryz.prog w = .ok (a == b) w := by
  obtain ⟨a0, a1, a2, a3, a4, a5, a6, a7, l, rfl⟩ := eight a (by omega)
  obtain ⟨b0, b1, b2, b3, b4, b5, b6, b7, r, rfl⟩ := eight b (by omega)
  obtain rfl : l = [] := by simpa using ha
  obtain rfl : r = [] := by simpa using hb
  have hsz : ∀ w, (sizeOf 5).run Tryz.prog w = .ok 1 w := fun w => by kernel_rfl
  have E := eq_u8 d
  rw [Op.equalIn]
  simp only [Sem.run_bind, run_underlying Tryz.underlying28, Result.andThen_ok, hsz]
  simp only [Std.Legacy.Range.forIn_eq_forIn_range', Std.Legacy.Range.size, Nat.sub_zero, Nat.add_sub_cancel, Nat.div_one, List.range'_succ, List.range'_zero, List.forIn_cons, List.forIn_nil, List.map_cons, List.map_nil]
  by_cases h0 : a0 = b0
  rotate_left
  · simp [h0, part8_0, E]
  by_cases h1 : a1 = b1
  rotate_left
  · simp [h0, h1, part8_0, part8_1, E]
  by_cases h2 : a2 = b2
  rotate_left
  · simp [h0, h1, h2, part8_0, part8_1, part8_2, E]
  by_cases h3 : a3 = b3
  rotate_left
  · simp [h0, h1, h2, h3, part8_0, part8_1, part8_2, part8_3, E]
  by_cases h4 : a4 = b4
  rotate_left
  · simp [h0, h1, h2, h3, h4, part8_0, part8_1, part8_2, part8_3, part8_4, E]
  by_cases h5 : a5 = b5
  rotate_left
  · simp [h0, h1, h2, h3, h4, h5, part8_0, part8_1, part8_2, part8_3, part8_4, part8_5, E]
  by_cases h6 : a6 = b6
  rotate_left
  · simp [h0, h1, h2, h3, h4, h5, h6, part8_0, part8_1, part8_2, part8_3, part8_4, part8_5, part8_6, E]
  by_cases h7 : a7 = b7
  rotate_left
  · simp [h0, h1, h2, h3, h4, h5, h6, h7, part8_0, part8_1, part8_2, part8_3, part8_4, part8_5, part8_6, part8_7, E]
  simp [h0, h1, h2, h3, h4, h5, h6, h7, part8_0, part8_1, part8_2, part8_3, part8_4, part8_5, part8_6, part8_7, E]

theorem name_eql (a b : List UInt8) (ha : a.length = 8) (hb : b.length = 8) (w : World) : (binOp .eql 28 (nameV a) (nameV b)).run Tryz.prog w = .ok (.bool (a == b)) w := by
  rw [run_eql_struct, show (10000 : Nat) = 9998 + 2 from rfl, name_equal 9998 a b ha hb w]
  rfl
theorem name_neq (a b : List UInt8) (ha : a.length = 8) (hb : b.length = 8) (w : World) : (binOp .neq 28 (nameV a) (nameV b)).run Tryz.prog w = .ok (.bool (!(a == b))) w := by
  rw [run_neq_struct, show (10000 : Nat) = 9998 + 2 from rfl, name_equal 9998 a b ha hb w]
  rfl
end

section
open Go.RowKit
end

section
open Go.RowKit
end

section
open Go.RowKit
end

section
open Go.RowKit
end

section
open Go.RowKit
end

section
open Go.RowKit
end

section
open Go.RowKit

theorem wp_append_to {P : Program} (w : World) {o : Oper} {a : Act} {K : Act → World → Prop} {Q : Exit → Act → World → Prop} (s x : Operand) (t : TypeId)
    (ho : o.op = .call { callee := .builtin .append, args := #[s, x], argTypes := #[t, t] })
    (e : TypeId) (i : TypeInfo) (z : Value) (size bytes : Nat) (ht : P.underlying t = some (.slice e)) (hi : P.info? e = some i) (hz : i.zero = some z)
    (hsize : i.size = size) (hby : i.bytes = bytes) (hzs : z.cells.size = size)
    (v : Value) (n : Nat) (xs : List Value) (hs : a.eval s = v) (hown : Own w e size v n xs)
    (u : Value) (m : Nat) (ys : List Value) (hx : a.eval x = u) (hr : Rd w size u m ys) (h1 : ∀ u ∈ ys, u.oneCell' = true)
    (h63 : n + m ≤ maxLen) (hbytes : (n + m) * bytes ≤ 140737488355328)
    (h : ∀ A c w', Own w' e size (.slice A (n + m) c) (n + m) (xs ++ ys) → Upd (OwnB v) w w' → (∀ k, OwnB (.slice A (n + m) c) k → OwnB v k ∨ w.heap.size ≤ k) → K (a.put o.dst (.slice A (n + m) c)) w') : o.wp P a w K Q := by
  obtain ⟨v', w', hrun, h2, h3, h4⟩ := run_append (P := P) w t o.type e i z size bytes ht hi hz hsize hby hzs v n xs hown u m ys hr h1 h63 hbytes
  unfold Oper.wp execOp
  simp only [ho, resolve, invoke, builtin, Sem.run_bind, Sem.run_pure, Result.andThen_ok, List.map_toArray, List.map_cons, List.map_nil, hs, hx, hrun]
  obtain ⟨A, c, rfl⟩ := h2.form
  exact h A c w' h2 h3 h4

theorem step_append_to {P : Program} (w : World) {ops : Array Oper} {o : Oper} {a : Act} {K : Act → World → Prop} {Q : Exit → Act → World → Prop} {E : Prop} (hgd : o.guard = none) (s x : Operand) (t : TypeId)
    (ho : o.op = .call { callee := .builtin .append, args := #[s, x], argTypes := #[t, t] })
    (e : TypeId) (i : TypeInfo) (z : Value) (size bytes : Nat) (ht : P.underlying t = some (.slice e)) (hi : P.info? e = some i) (hz : i.zero = some z)
    (hsize : i.size = size) (hby : i.bytes = bytes) (hzs : z.cells.size = size)
    (v : Value) (n : Nat) (xs : List Value) (hs : a.eval s = v) (hown : Own w e size v n xs)
    (u : Value) (m : Nat) (ys : List Value) (hx : a.eval x = u) (hr : Rd w size u m ys) (h1 : ∀ u ∈ ys, u.oneCell' = true)
    (h63 : n + m ≤ maxLen) (hbytes : (n + m) * bytes ≤ 140737488355328)
    (h : ∀ A c w', Own w' e size (.slice A (n + m) c) (n + m) (xs ++ ys) → Upd (OwnB v) w w' → (∀ k, OwnB (.slice A (n + m) c) k → OwnB v k ∨ w.heap.size ≤ k) → K (a.put o.dst (.slice A (n + m) c)) w') :
    if Region.wanted o (yielded ops a.tmps) = true then Oper.wp P o a w K Q else E := by
  have hw : Region.wanted o (yielded ops a.tmps) = true := by simp [Region.wanted, hgd]
  rw [if_pos hw]
  exact wp_append_to w s x t ho e i z size bytes ht hi hz hsize hby hzs v n xs hs hown u m ys hx hr h1 h63 hbytes h

/-- .. onto a slice without elements. -/
theorem step_append_new {P : Program} (w : World) {ops : Array Oper} {o : Oper} {a : Act} {K : Act → World → Prop} {Q : Exit → Act → World → Prop} {E : Prop} (hgd : o.guard = none) (s x : Operand) (t : TypeId)
    (ho : o.op = .call { callee := .builtin .append, args := #[s, x], argTypes := #[t, t] })
    (e : TypeId) (i : TypeInfo) (z : Value) (size bytes : Nat) (ht : P.underlying t = some (.slice e)) (hi : P.info? e = some i) (hz : i.zero = some z)
    (hsize : i.size = size) (hby : i.bytes = bytes) (hzs : z.cells.size = size)
    (v : Value) (hs : a.eval s = v) (hown : Own w e size v 0 [])
    (u : Value) (m : Nat) (ys : List Value) (hx : a.eval x = u) (hr : Rd w size u m ys) (h1 : ∀ u ∈ ys, u.oneCell' = true)
    (h63 : m ≤ maxLen) (hbytes : m * bytes ≤ 140737488355328)
    (h : ∀ A c w', Own w' e size (.slice A m c) m ys → Upd (OwnB v) w w' → (∀ k, OwnB (.slice A m c) k → OwnB v k ∨ w.heap.size ≤ k) → K (a.put o.dst (.slice A m c)) w') :
    if Region.wanted o (yielded ops a.tmps) = true then Oper.wp P o a w K Q else E := by
  refine step_append_to w hgd s x t ho e i z size bytes ht hi hz hsize hby hzs v 0 [] hs hown u m ys hx hr h1 (by omega) (by simpa using hbytes) ?_
  intro A c w' a1 a2 a3
  simp only [Nat.zero_add, List.nil_append] at a1 a3 ⊢
  exact h A c w' a1 a2 a3

theorem wpList_append_new {P : Program} (w : World) {ops : Array Oper} {rest : List Oper} {o : Oper} {a : Act} {Q : Exit → Act → World → Prop} (hgd : o.guard = none) (s x : Operand) (t : TypeId)
    (ho : o.op = .call { callee := .builtin .append, args := #[s, x], argTypes := #[t, t] })
    (e : TypeId) (i : TypeInfo) (z : Value) (size bytes : Nat) (ht : P.underlying t = some (.slice e)) (hi : P.info? e = some i) (hz : i.zero = some z)
    (hsize : i.size = size) (hby : i.bytes = bytes) (hzs : z.cells.size = size)
    (v : Value) (hs : a.eval s = v) (hown : Own w e size v 0 [])
    (u : Value) (m : Nat) (ys : List Value) (hx : a.eval x = u) (hr : Rd w size u m ys) (h1 : ∀ u ∈ ys, u.oneCell' = true)
    (h63 : m ≤ maxLen) (hbytes : m * bytes ≤ 140737488355328)
    (h : ∀ A c w', Own w' e size (.slice A m c) m ys → Upd (OwnB v) w w' → (∀ k, OwnB (.slice A m c) k → OwnB v k ∨ w.heap.size ≤ k) → wpList P ops Q rest (a.put o.dst (.slice A m c)) w') : wpList P ops Q (o :: rest) a w := by
  refine wpList_append_to w hgd s x t ho e i z size bytes ht hi hz hsize hby hzs v 0 [] hs hown u m ys hx hr h1 (by omega) (by simpa using hbytes) ?_
  intro A c w' a1 a2 a3
  simp only [Nat.zero_add, List.nil_append] at a1 a3 ⊢
  exact h A c w' a1 a2 a3

/-- A slice literal without elements, just made. -/
theorem Own.fresh (w : World) (e : TypeId) (size : Nat) : Own (w.alloc (.cells #[] e)) e size (.slice (some ⟨w.heap.size, 0, none⟩) 0 0) 0 [] :=
  ⟨by simp, .inr ⟨w.heap.size, 0, #[], rfl, Blk.new w _ _, Nat.le_refl _, Nat.zero_le _, by simp, by simp⟩⟩
end

section
open Go.RowKit

/-- The rest of a slice of bytes. -/
theorem rd_from {w : World} {g o n c k : Nat} {bs : List UInt8} (h : Rd w 1 (.slice (some ⟨g, o, none⟩) n c) n (bs.map byteV)) (hl : bs.length = n) (hk : k < n) : Rd w 1 (.slice (some ⟨g, o + k, none⟩) (n - k) (c - k)) (bs.drop k).length ((bs.drop k).map byteV) := by
  obtain ⟨A, c', e, h1, h2, h3, hx⟩ := h
  injection e with e1 _ e3
  subst e1 e3
  obtain ⟨g', o', e', hc⟩ := hx (by omega)
  injection e' with e'
  injection e' with e1 e2
  subst e1 e2
  refine ⟨_, c - k, by rw [List.length_drop, hl], by simp; omega, by omega, by simp, fun _ => ⟨g, o + k, rfl, fun j u hu => ?_⟩⟩
  rw [Nat.add_assoc]
  refine hc (k + j) u ?_
  rw [List.getElem?_map, List.getElem?_drop] at hu
  rw [List.getElem?_map]
  exact hu

/-- A name stored into its block. -/
theorem name_put {W : World} {g : Nat} {z0 z1 z2 z3 z4 z5 z6 z7 : Value} (hb : Blk W g 28 #[z0, z1, z2, z3, z4, z5, z6, z7]) (b0 b1 b2 b3 b4 b5 b6 b7 : UInt8) : Blk ((((((((W.setCell ⟨g, 0, none⟩ (.int .u8 (b0.toNat : Int))).setCell ⟨g, 1, none⟩ (.int .u8 (b1.toNat : Int))).setCell ⟨g, 2, none⟩ (.int .u8 (b2.toNat : Int))).setCell ⟨g, 3, none⟩ (.int .u8 (b3.toNat : Int))).setCell ⟨g, 4, none⟩ (.int .u8 (b4.toNat : Int))).setCell ⟨g, 5, none⟩ (.int .u8 (b5.toNat : Int))).setCell ⟨g, 6, none⟩ (.int .u8 (b6.toNat : Int))).setCell ⟨g, 7, none⟩ (.int .u8 (b7.toNat : Int))) g 28 #[byteV b0, byteV b1, byteV b2, byteV b3, byteV b4, byteV b5, byteV b6, byteV b7] := by
  have h0 : Blk (W.setCell ⟨g, 0, none⟩ (.int .u8 (b0.toNat : Int))) g 28 #[byteV b0, z1, z2, z3, z4, z5, z6, z7] := hb.put 0 (byteV b0)
  have h1 : Blk ((W.setCell ⟨g, 0, none⟩ (.int .u8 (b0.toNat : Int))).setCell ⟨g, 1, none⟩ (.int .u8 (b1.toNat : Int))) g 28 #[byteV b0, byteV b1, z2, z3, z4, z5, z6, z7] := h0.put 1 (byteV b1)
  have h2 : Blk (((W.setCell ⟨g, 0, none⟩ (.int .u8 (b0.toNat : Int))).setCell ⟨g, 1, none⟩ (.int .u8 (b1.toNat : Int))).setCell ⟨g, 2, none⟩ (.int .u8 (b2.toNat : Int))) g 28 #[byteV b0, byteV b1, byteV b2, z3, z4, z5, z6, z7] := h1.put 2 (byteV b2)
  have h3 : Blk ((((W.setCell ⟨g, 0, none⟩ (.int .u8 (b0.toNat : Int))).setCell ⟨g, 1, none⟩ (.int .u8 (b1.toNat : Int))).setCell ⟨g, 2, none⟩ (.int .u8 (b2.toNat : Int))).setCell ⟨g, 3, none⟩ (.int .u8 (b3.toNat : Int))) g 28 #[byteV b0, byteV b1, byteV b2, byteV b3, z4, z5, z6, z7] := h2.put 3 (byteV b3)
  have h4 : Blk (((((W.setCell ⟨g, 0, none⟩ (.int .u8 (b0.toNat : Int))).setCell ⟨g, 1, none⟩ (.int .u8 (b1.toNat : Int))).setCell ⟨g, 2, none⟩ (.int .u8 (b2.toNat : Int))).setCell ⟨g, 3, none⟩ (.int .u8 (b3.toNat : Int))).setCell ⟨g, 4, none⟩ (.int .u8 (b4.toNat : Int))) g 28 #[byteV b0, byteV b1, byteV b2, byteV b3, byteV b4, z5, z6, z7] := h3.put 4 (byteV b4)
  have h5 : Blk ((((((W.setCell ⟨g, 0, none⟩ (.int .u8 (b0.toNat : Int))).setCell ⟨g, 1, none⟩ (.int .u8 (b1.toNat : Int))).setCell ⟨g, 2, none⟩ (.int .u8 (b2.toNat : Int))).setCell ⟨g, 3, none⟩ (.int .u8 (b3.toNat : Int))).setCell ⟨g, 4, none⟩ (.int .u8 (b4.toNat : Int))).setCell ⟨g, 5, none⟩ (.int .u8 (b5.toNat : Int))) g 28 #[byteV b0, byteV b1, byteV b2, byteV b3, byteV b4, byteV b5, z6, z7] := h4.put 5 (byteV b5)
  have h6 : Blk (((((((W.setCell ⟨g, 0, none⟩ (.int .u8 (b0.toNat : Int))).setCell ⟨g, 1, none⟩ (.int .u8 (b1.toNat : Int))).setCell ⟨g, 2, none⟩ (.int .u8 (b2.toNat : Int))).setCell ⟨g, 3, none⟩ (.int .u8 (b3.toNat : Int))).setCell ⟨g, 4, none⟩ (.int .u8 (b4.toNat : Int))).setCell ⟨g, 5, none⟩ (.int .u8 (b5.toNat : Int))).setCell ⟨g, 6, none⟩ (.int .u8 (b6.toNat : Int))) g 28 #[byteV b0, byteV b1, byteV b2, byteV b3, byteV b4, byteV b5, byteV b6, z7] := h5.put 6 (byteV b6)
  have h7 : Blk ((((((((W.setCell ⟨g, 0, none⟩ (.int .u8 (b0.toNat : Int))).setCell ⟨g, 1, none⟩ (.int .u8 (b1.toNat : Int))).setCell ⟨g, 2, none⟩ (.int .u8 (b2.toNat : Int))).setCell ⟨g, 3, none⟩ (.int .u8 (b3.toNat : Int))).setCell ⟨g, 4, none⟩ (.int .u8 (b4.toNat : Int))).setCell ⟨g, 5, none⟩ (.int .u8 (b5.toNat : Int))).setCell ⟨g, 6, none⟩ (.int .u8 (b6.toNat : Int))).setCell ⟨g, 7, none⟩ (.int .u8 (b7.toNat : Int))) g 28 #[byteV b0, byteV b1, byteV b2, byteV b3, byteV b4, byteV b5, byteV b6, byteV b7] := h6.put 7 (byteV b7)
  exact h7
theorem name_upd {F : Nat → Prop} {w0 W : World} {g : Nat} (h : Upd F w0 W) (hg : F g ∨ w0.heap.size ≤ g) (b0 b1 b2 b3 b4 b5 b6 b7 : UInt8) : Upd F w0 ((((((((W.setCell ⟨g, 0, none⟩ (.int .u8 (b0.toNat : Int))).setCell ⟨g, 1, none⟩ (.int .u8 (b1.toNat : Int))).setCell ⟨g, 2, none⟩ (.int .u8 (b2.toNat : Int))).setCell ⟨g, 3, none⟩ (.int .u8 (b3.toNat : Int))).setCell ⟨g, 4, none⟩ (.int .u8 (b4.toNat : Int))).setCell ⟨g, 5, none⟩ (.int .u8 (b5.toNat : Int))).setCell ⟨g, 6, none⟩ (.int .u8 (b6.toNat : Int))).setCell ⟨g, 7, none⟩ (.int .u8 (b7.toNat : Int))) :=
  (((((((h.setCell (p := ⟨g, 0, none⟩) hg _).setCell (p := ⟨g, 1, none⟩) hg _).setCell (p := ⟨g, 2, none⟩) hg _).setCell (p := ⟨g, 3, none⟩) hg _).setCell (p := ⟨g, 4, none⟩) hg _).setCell (p := ⟨g, 5, none⟩) hg _).setCell (p := ⟨g, 6, none⟩) hg _).setCell (p := ⟨g, 7, none⟩) hg _

def HsRel (w : World) (gs : Nat) (bs : List UInt8) (i : Value) (wr : World) : Prop :=
  ∃ k : Nat, 8 * k ≤ bs.length + 7 ∧ i = .int .i64 ((8 * k : Nat) : Int) ∧ Blk wr gs 172 #[u64V (hk bs k).1, u64V (hk bs k).2] ∧ Upd NoF w wr

theorem hk_end (bs : List UInt8) (k : Nat) (h1 : 8 * k ≤ bs.length + 7) (h2 : bs.length ≤ 8 * k) : k = (bs.length + 7) / 8 := by omega

set_option maxRecDepth 100000 in
set_option maxHeartbeats 4000000 in
theorem hSum_any {w : World} {v : Value} {bs : List UInt8} (h : Rd w 1 v bs.length (bs.map byteV)) (hbl : bs.length ≤ 4611686018427387904) : Calls Tryz.prog 61 #[v] w fun e w' => e = .returned (nameV (hsum bs)) ∧ Upd NoF w w' := by
  obtain ⟨A, c, rfl, hlc, hcm, _⟩ := id h
  unfold maxLen at hcm
  have hrd : ∀ w', Upd NoF w w' → Rd w' 1 (.slice A bs.length c) bs.length (bs.map byteV) := fun w' hu => by
    obtain ⟨A', c', e, h1, h2, h3, hx⟩ := h
    exact ⟨A', c', e, h1, h2, h3, fun h0 => by
      obtain ⟨g, o, e', hc⟩ := hx h0
      exact ⟨g, o, e', fun j u hu' => hu.cell (hc j u hu') (fun h => h)⟩⟩
  have HR := Lib.hid hrd
  have hwl : IntKind.u64.wrap (bs.length : Int) = bs.length := wrap_u64_nat _ (by omega)
  clear h hrd
  go_enter Tryz.func61, Tryz.ntmps61
  go_wp2
  go_loopw [4] (fun i wr => HsRel w (w.heap.size + 1) bs i wr ∧ Blk wr w.heap.size 28 #[.int .u8 0, .int .u8 0, .int .u8 0, .int .u8 0, .int .u8 0, .int .u8 0, .int .u8 0, .int .u8 0]) (fun i _ => bs.length + 7 - (intOf i).toNat)
  case atStart =>
    refine ⟨⟨0, by omega, rfl, ?_, ((Upd.refl NoF w).alloc _).alloc _⟩, (Blk.new w _ _).alloc _⟩
    have := Blk.new (w.alloc (.cells #[.int .u8 0, .int .u8 0, .int .u8 0, .int .u8 0, .int .u8 0, .int .u8 0, .int .u8 0, .int .u8 0] 28)) 172 #[u64V 2611923443488327891, u64V 1376283091369227076]
    exact (show w.heap.size + 1 = (w.alloc (.cells #[.int .u8 0, .int .u8 0, .int .u8 0, .int .u8 0, .int .u8 0, .int .u8 0, .int .u8 0, .int .u8 0] 28)).heap.size by simp) ▸ this
  case round =>
    obtain ⟨⟨k, hk8, rfl, hB, hU⟩, hN⟩ := hrel
    have hsz : w.heap.size + 1 < wr.heap.size := hB.lt
    obtain ⟨q, hq⟩ : ∃ q, hk bs k = q := ⟨_, rfl⟩
    rw [hq] at hB
    obtain ⟨x, y⟩ := q
    simp only at hB
    have c0 : wr.cell? ⟨w.heap.size + 1, 0, none⟩ = some (u64V x) := hB.cell 0
    have c1 : wr.cell? ⟨w.heap.size + 1, 1, none⟩ = some (u64V y) := hB.cell 1
    have f0 : wr.frozen? ⟨w.heap.size + 1, 0, none⟩ = false := hB.frozen 0
    have f1 : wr.frozen? ⟨w.heap.size + 1, 1, none⟩ = false := hB.frozen 1
    have HB := Lib.hid hB
    have HU := Lib.hid hU
    have HN := Lib.hid hN
    by_cases hlt : 8 * k < bs.length
    · have hq1 : hk bs (k + 1) = mixN 2 (bits .xor .u64 x (wordN (bs.drop (8 * k))), y) := by
        show hstep (hk bs k) (bs.drop (8 * k)) = _
        rw [hq]
        rfl
      have HQ := Lib.hid hq1
      obtain ⟨g, o, rfl, -⟩ := rd_cells (HR.out w (Upd.refl NoF w)) (by omega)
      have CW := Lib.hid (show ∀ W, Upd NoF wr W → Calls Tryz.prog 106 #[.slice (some ⟨g, o + 8 * k, none⟩) (bs.length - 8 * k) (c - 8 * k)] W fun e w' => e = .returned (u64V (wordN (bs.drop (8 * k)))) ∧ Upd NoF W w' from fun W hW =>
        hword_any (rd_from (HR.out W (hU.trans hW (fun _ _ h => h))) rfl hlt) (by simp; omega))
      obtain ⟨N, hNw⟩ : ∃ N, wordN (bs.drop (8 * k)) = N := ⟨_, rfl⟩
      rw [hNw] at CW HQ
      have t1 : decide (((8 * k : Nat) : Int) < bs.length) = true := by simp; omega
      have t1' : decide (8 * (k : Int) < bs.length) = true := by simp; omega
      have t2 : (0:Int) ≤ 8 * (k : Int) := by omega
      have t3 : 8 * (k : Int) ≤ bs.length := by omega
      have t4 : (bs.length : Int) ≤ c := by omega
      have t5 : ¬ c = 8 * k := by omega
      have t6 : (8 * (k : Int)).toNat = 8 * k := by omega
      clear hB hU hN hq hq1 hNw
      go_wp2
      go_region_law
        (first
          | (go_simp; go_at_call 106; refine (CW.out _ ((Upd.refl NoF wr).drew)).mono ?_; rintro e w2 ⟨rfl, hu2⟩; have c0' : w2.cell? ⟨w.heap.size + 1, 0, none⟩ = some (u64V x) := hu2.cell (p := ⟨w.heap.size + 1, 0, none⟩) (v := u64V x) (HB.out.drew.cell 0) (fun h => h); have f0' := (hu2.blk HB.out.drew (fun h => h)).frozen 0; have U2 := Lib.hid hu2; clear hu2))
      all_goals
        obtain ⟨w3, hw3⟩ : ∃ w3, w3 = w2.setCell ⟨w.heap.size + 1, 0, none⟩ (.int .u64 (bits .xor .u64 x (N : Int))) := ⟨_, rfl⟩
        rw [← hw3]
        have B3 := Lib.hid (show Blk w3 (w.heap.size + 1) 172 #[u64V (bits .xor .u64 x (N : Int)), u64V y] ∧ Blk w3 w.heap.size 28 #[.int .u8 0, .int .u8 0, .int .u8 0, .int .u8 0, .int .u8 0, .int .u8 0, .int .u8 0, .int .u8 0] ∧ Upd NoF w w3 from by
          rw [hw3]
          exact ⟨(U2.out.blk HB.out.drew (fun h => h)).put 0 _, (U2.out.blk HN.out.drew (fun h => h)).far (by simp) _, ((HU.out.drew).trans U2.out (fun _ _ h => h)).setCell (p := ⟨w.heap.size + 1, 0, none⟩) (.inr (by simp)) _⟩)
        clear hw3 c0 c1 f0 f1 c0' f0'
        go_wp2_with fail
        refine (hmix_any (p := (bits .xor .u64 x (N : Int), y)) B3.out.1 2 (by omega)).mono ?_
        rintro e w4 ⟨rfl, hB4, hU4⟩
        have B4 := Lib.hid hB4
        have U4 := Lib.hid hU4
        clear hB4 hU4
        go_wp2
        go_roundw
        case rel =>
          refine ⟨⟨k + 1, by omega, by go_num, ?_, B3.out.2.2.trans U4.out (fun j hj e => by have e : j = w.heap.size + 1 := e; omega)⟩, U4.out.blk B3.out.2.1 (by simp)⟩
          rw [HQ.out]
          exact B4.out
        case measure => simp [intOf]; omega
    · have t1 : decide (((8 * k : Nat) : Int) < bs.length) = false := by simp; omega
      have t1' : decide (8 * (k : Int) < bs.length) = false := by simp; omega
      have E := Lib.hid (show ofV (bits .xor .u64 (hend (x, y) bs.length).1 (hend (x, y) bs.length).2) = hsum bs from by
        unfold hsum
        rw [← hk_end bs k hk8 (by omega), hq])
      have K3 := Lib.hid (show Blk (wr.setCell ⟨w.heap.size + 1, 1, none⟩ (u64V (bits .xor .u64 y (bs.length : Int)))) (w.heap.size + 1) 172 #[u64V x, u64V (bits .xor .u64 y (bs.length : Int))] ∧ Blk (wr.setCell ⟨w.heap.size + 1, 1, none⟩ (u64V (bits .xor .u64 y (bs.length : Int)))) w.heap.size 28 #[.int .u8 0, .int .u8 0, .int .u8 0, .int .u8 0, .int .u8 0, .int .u8 0, .int .u8 0, .int .u8 0] ∧ Upd NoF w (wr.setCell ⟨w.heap.size + 1, 1, none⟩ (u64V (bits .xor .u64 y (bs.length : Int)))) from
        ⟨hB.put 1 _, hN.far (by simp) _, hU.setCell (p := ⟨w.heap.size + 1, 1, none⟩) (.inr (by simp)) _⟩)
      clear hB hU hN hq
      go_wp2_with fail
      refine (hmix_any (p := (x, bits .xor .u64 y (bs.length : Int))) K3.out.1 4 (by omega)).mono ?_
      rintro e w4 ⟨rfl, hB4, hU4⟩
      have d0 : w4.cell? ⟨w.heap.size + 1, 0, none⟩ = some (u64V (hend (x, y) bs.length).1) := hB4.cell 0
      have d1 : w4.cell? ⟨w.heap.size + 1, 1, none⟩ = some (u64V (hend (x, y) bs.length).2) := hB4.cell 1
      have U5 := Lib.hid (show Upd NoF w w4 ∧ Blk w4 w.heap.size 28 #[.int .u8 0, .int .u8 0, .int .u8 0, .int .u8 0, .int .u8 0, .int .u8 0, .int .u8 0, .int .u8 0] from ⟨K3.out.2.2.trans hU4 (fun j hj e => by have e : j = w.heap.size + 1 := e; omega), hU4.blk K3.out.2.1 (by simp)⟩)
      clear hB4 hU4 c0 c1 f0 f1
      generalize (hend (x, y) bs.length).1 = x' at E d0
      generalize (hend (x, y) bs.length).2 = y' at E d1
      go_wp2_with fail
      refine (hOf_any _ _).mono ?_
      rintro e w5 ⟨rfl, hu5⟩
      rw [E.out]
      have hb5 := hu5.blk U5.out.2 (fun h => h)
      obtain ⟨b0, b1, b2, b3, b4, b5, b6, b7, l', hl'⟩ := eight (hsum bs) (Nat.le_of_eq rfl)
      obtain rfl : l' = [] := by
        have := congrArg List.length hl'
        rw [show (hsum bs).length = 8 from rfl] at this
        simpa using this
      have HL' := Lib.hid hl'
      rw [hl']
      have g0 : w5.frozen? ⟨w.heap.size, 0, none⟩ = false := hb5.frozen 0
      have r0 : w5.cell? ⟨w.heap.size, 0, none⟩ = some (.int .u8 0) := hb5.cell 0
      have g1 : w5.frozen? ⟨w.heap.size, 1, none⟩ = false := hb5.frozen 1
      have r1 : w5.cell? ⟨w.heap.size, 1, none⟩ = some (.int .u8 0) := hb5.cell 1
      have g2 : w5.frozen? ⟨w.heap.size, 2, none⟩ = false := hb5.frozen 2
      have r2 : w5.cell? ⟨w.heap.size, 2, none⟩ = some (.int .u8 0) := hb5.cell 2
      have g3 : w5.frozen? ⟨w.heap.size, 3, none⟩ = false := hb5.frozen 3
      have r3 : w5.cell? ⟨w.heap.size, 3, none⟩ = some (.int .u8 0) := hb5.cell 3
      have g4 : w5.frozen? ⟨w.heap.size, 4, none⟩ = false := hb5.frozen 4
      have r4 : w5.cell? ⟨w.heap.size, 4, none⟩ = some (.int .u8 0) := hb5.cell 4
      have g5 : w5.frozen? ⟨w.heap.size, 5, none⟩ = false := hb5.frozen 5
      have r5 : w5.cell? ⟨w.heap.size, 5, none⟩ = some (.int .u8 0) := hb5.cell 5
      have g6 : w5.frozen? ⟨w.heap.size, 6, none⟩ = false := hb5.frozen 6
      have r6 : w5.cell? ⟨w.heap.size, 6, none⟩ = some (.int .u8 0) := hb5.cell 6
      have g7 : w5.frozen? ⟨w.heap.size, 7, none⟩ = false := hb5.frozen 7
      have r7 : w5.cell? ⟨w.heap.size, 7, none⟩ = some (.int .u8 0) := hb5.cell 7
      have B5 := Lib.hid hb5
      have U6 := Lib.hid (U5.out.1.trans hu5 (fun _ _ h => h))
      clear hb5 hu5 d0 d1 hl'
      go_wp2
      refine bodyPost_ret (v := nameV [b0, b1, b2, b3, b4, b5, b6, b7]) ?_ rfl ⟨by rw [HL'.out], ?_⟩
      · exact results_cell_row (P := Tryz.prog) Tryz.results61 _ _ w.heap.size 28 #[byteV b0, byteV b1, byteV b2, byteV b3, byteV b4, byteV b5, byteV b6, byteV b7] (0, 0) _ rfl (name_put B5.out b0 b1 b2 b3 b4 b5 b6 b7) Tryz.underlying28 rfl (by kernel_rfl)
      · exact name_upd U6.out (.inr (Nat.le_refl _)) b0 b1 b2 b3 b4 b5 b6 b7

def RsRel (w : World) (bs : List UInt8) (x y i : Value) (wr : World) : Prop :=
  ∃ k : Nat, 8 * k ≤ bs.length + 7 ∧ i = .int .i64 (8 * (k : Int)) ∧ x = u64V (hk bs k).1 ∧ y = u64V (hk bs k).2 ∧ Upd NoF w wr ∧ Blk wr w.heap.size 28 #[.int .u8 0, .int .u8 0, .int .u8 0, .int .u8 0, .int .u8 0, .int .u8 0, .int .u8 0, .int .u8 0]
def R4Rel (p : Int × Int) (x y i : Value) : Prop := ∃ k : Nat, k ≤ 4 ∧ i = .int .i64 k ∧ x = u64V (mixN k p).1 ∧ y = u64V (mixN k p).2

set_option maxRecDepth 100000 in
set_option maxHeartbeats 4000000 in
theorem r1Sum_any {w : World} {v : Value} {bs : List UInt8} (h : Rd w 1 v bs.length (bs.map byteV)) (hbl : bs.length ≤ 4611686018427387904) : Calls Tryz.prog 50 #[v] w fun e w' => e = .returned (nameV (hsum bs)) ∧ Upd NoF w w' := by
  obtain ⟨A, c, rfl, hlc, hcm, _⟩ := id h
  unfold maxLen at hcm
  have hrd : ∀ w', Upd NoF w w' → Rd w' 1 (.slice A bs.length c) bs.length (bs.map byteV) := fun w' hu => by
    obtain ⟨A', c', e, h1, h2, h3, hx⟩ := h
    exact ⟨A', c', e, h1, h2, h3, fun h0 => by
      obtain ⟨g, o, e', hc⟩ := hx h0
      exact ⟨g, o, e', fun j u hu' => hu.cell (hc j u hu') (fun h => h)⟩⟩
  have HR := Lib.hid hrd
  have hwl : IntKind.u64.wrap (bs.length : Int) = bs.length := wrap_u64_nat _ (by omega)
  clear h hrd
  go_enter Tryz.func50, Tryz.ntmps50
  go_wp2
  go_loopw [3, 4, 5] (fun x y i wr => RsRel w bs x y i wr) (fun _ _ i _ => bs.length + 7 - (intOf i).toNat)
  case atStart => exact ⟨0, by omega, rfl, rfl, rfl, (Upd.refl NoF w).alloc _, Blk.new w _ _⟩
  case round =>
    obtain ⟨k, hk8, rfl, hx, hy, hU, hN⟩ := hrel
    have hsz : w.heap.size < wr.heap.size := hN.lt
    obtain ⟨q, hq⟩ : ∃ q, hk bs k = q := ⟨_, rfl⟩
    rw [hq] at hx hy
    obtain ⟨x, y⟩ := q
    simp only at hx hy
    subst hx hy
    have HU := Lib.hid hU
    have HN := Lib.hid hN
    by_cases hlt : 8 * k < bs.length
    · have hq1 : hk bs (k + 1) = mixS (mixS (bits .xor .u64 x (wordN (bs.drop (8 * k))), y)) := by
        show hstep (hk bs k) (bs.drop (8 * k)) = _
        rw [hq]
        rfl
      have HQ := Lib.hid hq1
      obtain ⟨g, o, rfl, -⟩ := rd_cells (HR.out w (Upd.refl NoF w)) (by omega)
      have CW := Lib.hid (show Calls Tryz.prog 83 #[.slice (some ⟨g, o + 8 * k, none⟩) (bs.length - 8 * k) (c - 8 * k)] wr fun e w' => e = .returned (u64V (wordN (bs.drop (8 * k)))) ∧ Upd NoF wr w' from
        r1word_any (rd_from (HR.out wr hU) rfl hlt))
      obtain ⟨N, hNw⟩ : ∃ N, wordN (bs.drop (8 * k)) = N := ⟨_, rfl⟩
      rw [hNw] at CW HQ
      have t1 : decide (((8 * k : Nat) : Int) < bs.length) = true := by simp; omega
      have t1' : decide (8 * (k : Int) < bs.length) = true := by simp; omega
      have t2 : (0:Int) ≤ 8 * (k : Int) := by omega
      have t3 : 8 * (k : Int) ≤ bs.length := by omega
      have t4 : (bs.length : Int) ≤ c := by omega
      have t5 : ¬ c = 8 * k := by omega
      have t6 : (8 * (k : Int)).toNat = 8 * k := by omega
      clear hU hN hq hq1 hNw
      go_wp2_with fail
      refine CW.out.mono ?_
      rintro e w2 ⟨rfl, hu2⟩
      have U2 := Lib.hid hu2
      clear hu2
      go_wp2_with fail
      refine (r1mix_any _ _ _).mono ?_
      rintro e w' ⟨rfl, rfl⟩
      go_wp2_with fail
      refine (r1mix_any _ _ _).mono ?_
      rintro e w' ⟨rfl, rfl⟩
      go_wp2
      go_roundw
      case rel =>
        refine ⟨k + 1, by omega, by go_num, ?_, ?_, HU.out.trans U2.out (fun _ _ h => h), U2.out.blk HN.out (fun h => h)⟩
        · rw [HQ.out]
        · rw [HQ.out]
      case measure => simp [intOf]; omega
    · have t1 : decide (((8 * k : Nat) : Int) < bs.length) = false := by simp; omega
      have t1' : decide (8 * (k : Int) < bs.length) = false := by simp; omega
      have E := Lib.hid (show ofV (bits .xor .u64 (hend (x, y) bs.length).1 (hend (x, y) bs.length).2) = hsum bs from by
        unfold hsum
        rw [← hk_end bs k hk8 (by omega), hq])
      clear hU hN hq
      go_wp2
      go_loop [3, 4, 6] (fun x' y' i => R4Rel (x, bits .xor .u64 y (bs.length : Int)) x' y' i) (fun _ _ i => 4 - (intOf i).toNat)
      case atStart => exact ⟨0, by omega, rfl, rfl, rfl⟩
      case round =>
        obtain ⟨j, hj, rfl, hx, hy⟩ := hrel
        obtain ⟨q, hq⟩ : ∃ q, mixN j (x, bits .xor .u64 y (bs.length : Int)) = q := ⟨_, rfl⟩
        rw [hq] at hx hy
        obtain ⟨x', y'⟩ := q
        simp only at hx hy
        subst hx hy
        by_cases hj4 : j < 4
        · have s1 : decide ((j : Int) < 4) = true := by simp; omega
          have s1' : decide (j < 4) = true := by simp; omega
          have HQ := Lib.hid (show mixN (j + 1) (x, bits .xor .u64 y (bs.length : Int)) = mixS (x', y') from by rw [← hq]; rfl)
          clear hq
          go_wp2_with fail
          refine (r1mix_any _ _ _).mono ?_
          rintro e w' ⟨rfl, rfl⟩
          go_wp2
          go_round
          case rel => exact ⟨j + 1, by omega, by go_num, by rw [HQ.out], by rw [HQ.out]⟩
          case measure => simp [intOf]; omega
        · have s1 : decide ((j : Int) < 4) = false := by simp; omega
          have s1' : decide (j < 4) = false := by simp; omega
          obtain rfl : j = 4 := by omega
          have e1 : hend (x, y) bs.length = (x', y') := hq
          rw [e1] at E
          clear hq e1
          go_wp2_with fail
          refine (r1Of_any _ _).mono ?_
          rintro e w5 ⟨rfl, hu5⟩
          rw [E.out]
          have hb5 := hu5.blk HN.out (fun h => h)
          obtain ⟨b0, b1, b2, b3, b4, b5, b6, b7, l', hl'⟩ := eight (hsum bs) (Nat.le_of_eq rfl)
          obtain rfl : l' = [] := by
            have := congrArg List.length hl'
            rw [show (hsum bs).length = 8 from rfl] at this
            simpa using this
          have HL' := Lib.hid hl'
          rw [hl']
          have g0 : w5.frozen? ⟨w.heap.size, 0, none⟩ = false := hb5.frozen 0
          have r0 : w5.cell? ⟨w.heap.size, 0, none⟩ = some (.int .u8 0) := hb5.cell 0
          have g1 : w5.frozen? ⟨w.heap.size, 1, none⟩ = false := hb5.frozen 1
          have r1 : w5.cell? ⟨w.heap.size, 1, none⟩ = some (.int .u8 0) := hb5.cell 1
          have g2 : w5.frozen? ⟨w.heap.size, 2, none⟩ = false := hb5.frozen 2
          have r2 : w5.cell? ⟨w.heap.size, 2, none⟩ = some (.int .u8 0) := hb5.cell 2
          have g3 : w5.frozen? ⟨w.heap.size, 3, none⟩ = false := hb5.frozen 3
          have r3 : w5.cell? ⟨w.heap.size, 3, none⟩ = some (.int .u8 0) := hb5.cell 3
          have g4 : w5.frozen? ⟨w.heap.size, 4, none⟩ = false := hb5.frozen 4
          have r4 : w5.cell? ⟨w.heap.size, 4, none⟩ = some (.int .u8 0) := hb5.cell 4
          have g5 : w5.frozen? ⟨w.heap.size, 5, none⟩ = false := hb5.frozen 5
          have r5 : w5.cell? ⟨w.heap.size, 5, none⟩ = some (.int .u8 0) := hb5.cell 5
          have g6 : w5.frozen? ⟨w.heap.size, 6, none⟩ = false := hb5.frozen 6
          have r6 : w5.cell? ⟨w.heap.size, 6, none⟩ = some (.int .u8 0) := hb5.cell 6
          have g7 : w5.frozen? ⟨w.heap.size, 7, none⟩ = false := hb5.frozen 7
          have r7 : w5.cell? ⟨w.heap.size, 7, none⟩ = some (.int .u8 0) := hb5.cell 7
          have B5 := Lib.hid hb5
          have U6 := Lib.hid (HU.out.trans hu5 (fun _ _ h => h))
          clear hb5 hu5 hl'
          go_wp2
          refine bodyPost_ret (v := nameV [b0, b1, b2, b3, b4, b5, b6, b7]) ?_ rfl ⟨by rw [HL'.out], ?_⟩
          · exact results_cell_row (P := Tryz.prog) Tryz.results50 _ _ w.heap.size 28 #[byteV b0, byteV b1, byteV b2, byteV b3, byteV b4, byteV b5, byteV b6, byteV b7] (0, 0) _ rfl (name_put B5.out b0 b1 b2 b3 b4 b5 b6 b7) Tryz.underlying28 rfl (by kernel_rfl)
          · exact name_upd U6.out (.inr (Nat.le_refl _)) b0 b1 b2 b3 b4 b5 b6 b7
end

section
open Go.RowKit Go.Maps

abbrev retPE (v : Value) (e : Int) : Ending := .returned (.tuple #[v, .int .i64 e])

section
variable {w : World} {d mb : Nat} {off armed : Bool} {left : Nat} {L : List FRec}

/-- What the map holds under a name. -/
def atV (L : List FRec) (nm : List UInt8) : Value := match L.find? (fun r => r.nm == nm) with | some r => ptrV r.fb | none => .pointer none

end
end

section
open Go

structure FSt where
  c : List UInt8
  dur : Nat
abbrev FS := List (List UInt8 × FSt)
structure DSt where
  fs : FS
  off : Bool
  armed : Bool
  left : Nat

def getF (fs : FS) (nm : List UInt8) : Option FSt := (fs.find? (fun p => p.1 == nm)).map (·.2)
def setF (nm : List UInt8) (f : FSt) (fs : FS) : FS := fs.map (fun p => if p.1 == nm then (p.1, f) else p)
def insF (p : List UInt8 × FSt) : FS → FS
  | [] => [p]
  | y :: l => if bytesBefore p.1 y.1 then p :: y :: l else y :: insF p l
def delF (nm : List UInt8) (fs : FS) : FS := fs.filter (fun p => !(p.1 == nm))

/-- Whether one more write goes through. -/
def wrB (armed : Bool) (left : Nat) : Bool := !(armed && left == 0)
def wrL (armed : Bool) (left : Nat) : Nat := if armed then left - 1 else left
def wrS (s : DSt) : DSt := { s with off := s.off || !wrB s.armed s.left, left := wrL s.armed s.left }

def sRead (s : DSt) (nm : List UInt8) : List UInt8 × Int :=
  if nm = [] then ([], 1) else if s.off then ([], 103) else
  match getF s.fs nm with
  | none => ([], 6)
  | some f => (f.c, 0)

def withFile (nm : List UInt8) (fs : FS) : FS := match getF fs nm with | none => insF (nm, ⟨[], 0⟩) fs | some _ => fs
def sAppend (s : DSt) (nm b : List UInt8) : Int × DSt :=
  if nm = [] then (1, s) else if s.off then (103, s) else
  let f := (getF s.fs nm).getD ⟨[], 0⟩
  let s1 := { s with fs := setF nm ⟨f.c ++ b, f.dur⟩ (withFile nm s.fs) }
  (if wrB s.armed s.left then 0 else 103, wrS s1)

def sChange (s : DSt) (nm : List UInt8) (g : FS → FSt → FS) : Int × DSt :=
  if nm = [] then (1, s) else if s.off then (103, s) else
  match getF s.fs nm with
  | none => (6, s)
  | some f => if wrB s.armed s.left then (0, { wrS s with fs := g s.fs f }) else (103, wrS s)

def sSync (s : DSt) (nm : List UInt8) : Int × DSt := sChange s nm fun fs f => setF nm ⟨f.c, f.c.length⟩ fs
def cutAt (size : Int) (n : Nat) : Nat := min size.toNat n
def sTruncate (s : DSt) (nm : List UInt8) (size : Int) : Int × DSt := sChange s nm fun fs f => setF nm ⟨f.c.take (cutAt size f.c.length), min f.dur (cutAt size f.c.length)⟩ fs
def sRename (s : DSt) (nm to : List UInt8) : Int × DSt := if to = [] then (1, s) else sChange s nm fun fs f => insF (to, f) (delF to (delF nm fs))
def sRemove (s : DSt) (nm : List UInt8) : Int × DSt := sChange s nm fun fs _ => delF nm fs
def sArm (s : DSt) (n : Int) : DSt := { s with armed := true, left := n.toNat }

/-- The next pick modulo n. -/
def below (picks : List Int) (n : Nat) : Nat × List Int := match picks with | [] => (0, []) | p :: ps => ((p % (n : Int)).toNat, ps)
def flipLast (c : List UInt8) : List UInt8 := c.modify (c.length - 1) (fun b => b ^^^ 255)
def zeroLast (k : Nat) (c : List UInt8) : List UInt8 := c.take (c.length - k) ++ List.replicate k 0
def damaged (dm kept : Nat) (c : List UInt8) : List UInt8 := if dm = 1 ∧ 0 < kept then flipLast c else if dm = 2 then zeroLast (min kept 8) c else c
def crashF (picks : List Int) (f : FSt) : FSt × List Int :=
  if f.c.length - f.dur = 0 then (f, picks) else
  let k := below picks (f.c.length - f.dur + 1)
  let m := below k.2 3
  (⟨damaged m.1 k.1 (f.c.take (f.dur + k.1)), f.dur + k.1⟩, m.2)
def crashL : List Int → FS → FS
  | _, [] => []
  | ps, (nm, f) :: l => (nm, (crashF ps f).1) :: crashL (crashF ps f).2 l
def sCrash (s : DSt) (picks : List Int) : DSt := { fs := crashL picks s.fs, off := false, armed := false, left := 0 }
def sNew : DSt := ⟨[], false, false, 0⟩
end

section
open Go.RowKit Go.Maps

def setR (r' : FRec) (L : List FRec) : List FRec := L.map (fun x => if x.fb = r'.fb then r' else x)

theorem pw_ne {α : Type} {R : α → α → Prop} {L : List α} (h : L.Pairwise R) (hs : ∀ a b, R a b → R b a) {x y : α} (hx : x ∈ L) (hy : y ∈ L) (hne : x ≠ y) : R x y := by
  induction L with
  | nil => cases hx
  | cons a l ih =>
    rw [List.pairwise_cons] at h
    rcases List.mem_cons.1 hx with rfl | hx'
    · rcases List.mem_cons.1 hy with rfl | hy'
      · exact absurd rfl hne
      · exact h.1 y hy'
    · rcases List.mem_cons.1 hy with rfl | hy'
      · exact hs _ _ (h.1 x hx')
      · exact ih h.2 hx' hy'

section
variable {w w' : World} {d mb : Nat} {off armed : Bool} {left : Nat} {L : List FRec}

theorem mem_setR {r' x : FRec} (h : x ∈ setR r' L) : x = r' ∨ (x ∈ L ∧ x.fb ≠ r'.fb) := by
  obtain ⟨y, hy, rfl⟩ := List.mem_map.1 h
  by_cases he : y.fb = r'.fb
  · simp [he]
  · right
    simp only [if_neg he]
    exact ⟨hy, he⟩

end
end

section
open Go.RowKit Go.Maps

theorem byte_info : (Tryz.prog.info? 5).map (fun i => (i.zero, i.size, i.bytes)) = some (some (.int .u8 0), 1, 1) := by kernel_rfl

/-- A new slice of bytes. -/
def NewB (w : World) (bs : List UInt8) (v : Value) (w' : World) : Prop :=
  Own w' 5 1 v bs.length (bs.map byteV) ∧ (∀ k, OwnB v k → w.heap.size ≤ k) ∧ Upd NoF w w'

def ClonePost (w : World) (bs : List UInt8) (e : Ending) (w' : World) : Prop := ∃ A c, e = .returned (.slice A bs.length c) ∧ NewB w bs (.slice A bs.length c) w'

section
variable {w : World} {d mb : Nat} {off armed : Bool} {left : Nat} {L : List FRec}

/-- A file's content as it is read: new memory. -/
def ReadPost (w : World) (bs : List UInt8) (e : Ending) (w' : World) : Prop := ∃ A c, e = retPE (.slice A bs.length c) 0 ∧ NewB w bs (.slice A bs.length c) w'
end
end

section
open Go.RowKit Go.Maps

abbrev retE (e : Int) : Ending := .returned (.int .i64 e)
def codeW (armed : Bool) (left : Nat) : Int := if wrB armed left then 0 else 103

section
variable {w : World} {d mb : Nat} {off armed : Bool} {left : Nat} {L : List FRec}

end
end
end Go.Proofs.YtengcmfdfmnacaaGreat
