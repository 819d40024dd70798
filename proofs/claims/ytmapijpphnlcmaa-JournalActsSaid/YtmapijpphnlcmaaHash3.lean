/- The hash functions of package hash: the number of a name, words. No condition. -/
import Derived.Test.YtmapijpphnlcmaaHash2
import Derived.Laws.CopyOwn
import Derived.Laws.Rows
namespace Go.Proofs.Ytmapijpphnlcmaa
open Go.RowKit

theorem idx0 (b0 b1 b2 b3 b4 b5 b6 b7 : UInt8) (w : World) : (Instr.index 95 (nameV [b0, b1, b2, b3, b4, b5, b6, b7]) (.int .i64 0)).run Try.prog w = .ok (byteV b0) w := by kernel_rfl
theorem idx1 (b0 b1 b2 b3 b4 b5 b6 b7 : UInt8) (w : World) : (Instr.index 95 (nameV [b0, b1, b2, b3, b4, b5, b6, b7]) (.int .i64 1)).run Try.prog w = .ok (byteV b1) w := by kernel_rfl
theorem idx2 (b0 b1 b2 b3 b4 b5 b6 b7 : UInt8) (w : World) : (Instr.index 95 (nameV [b0, b1, b2, b3, b4, b5, b6, b7]) (.int .i64 2)).run Try.prog w = .ok (byteV b2) w := by kernel_rfl
theorem idx3 (b0 b1 b2 b3 b4 b5 b6 b7 : UInt8) (w : World) : (Instr.index 95 (nameV [b0, b1, b2, b3, b4, b5, b6, b7]) (.int .i64 3)).run Try.prog w = .ok (byteV b3) w := by kernel_rfl
theorem idx4 (b0 b1 b2 b3 b4 b5 b6 b7 : UInt8) (w : World) : (Instr.index 95 (nameV [b0, b1, b2, b3, b4, b5, b6, b7]) (.int .i64 4)).run Try.prog w = .ok (byteV b4) w := by kernel_rfl
theorem idx5 (b0 b1 b2 b3 b4 b5 b6 b7 : UInt8) (w : World) : (Instr.index 95 (nameV [b0, b1, b2, b3, b4, b5, b6, b7]) (.int .i64 5)).run Try.prog w = .ok (byteV b5) w := by kernel_rfl
theorem idx6 (b0 b1 b2 b3 b4 b5 b6 b7 : UInt8) (w : World) : (Instr.index 95 (nameV [b0, b1, b2, b3, b4, b5, b6, b7]) (.int .i64 6)).run Try.prog w = .ok (byteV b6) w := by kernel_rfl
theorem idx7 (b0 b1 b2 b3 b4 b5 b6 b7 : UInt8) (w : World) : (Instr.index 95 (nameV [b0, b1, b2, b3, b4, b5, b6, b7]) (.int .i64 7)).run Try.prog w = .ok (byteV b7) w := by kernel_rfl
/-- An element of a name. -/
theorem index_name (l : List UInt8) (hl : l.length = 8) (k : Nat) (b : UInt8) (hb : l[k]? = some b) (w : World) : (Instr.index 95 (nameV l) (.int .i64 (k : Int))).run Try.prog w = .ok (byteV b) w := by
  obtain ⟨b0, b1, b2, b3, b4, b5, b6, b7, l', rfl⟩ := eight l (by omega)
  obtain rfl : l' = [] := by simpa using hl
  match k, hb with
  | 0, rfl => exact idx0 b0 b1 b2 b3 b4 b5 b6 b7 w
  | 1, rfl => exact idx1 b0 b1 b2 b3 b4 b5 b6 b7 w
  | 2, rfl => exact idx2 b0 b1 b2 b3 b4 b5 b6 b7 w
  | 3, rfl => exact idx3 b0 b1 b2 b3 b4 b5 b6 b7 w
  | 4, rfl => exact idx4 b0 b1 b2 b3 b4 b5 b6 b7 w
  | 5, rfl => exact idx5 b0 b1 b2 b3 b4 b5 b6 b7 w
  | 6, rfl => exact idx6 b0 b1 b2 b3 b4 b5 b6 b7 w
  | 7, rfl => exact idx7 b0 b1 b2 b3 b4 b5 b6 b7 w

def NumRel (l : List UInt8) (x i : Value) : Prop := ∃ k : Nat, k ≤ 8 ∧ i = .int .i64 k ∧ x = u64V ((be (l.take k) : Nat) : Int)

set_option maxRecDepth 100000 in
set_option maxHeartbeats 2000000 in
theorem hNumber_any (l : List UInt8) (hl : l.length = 8) (w : World) : Calls Try.prog 104 #[nameV l] w fun e w' => e = .returned (u64V (be l)) ∧ Upd NoF w w' := by
  have IX := Lib.hid (index_name l hl)
  obtain ⟨b0, b1, b2, b3, b4, b5, b6, b7, l', rfl⟩ := eight l (by omega)
  obtain rfl : l' = [] := by simpa using hl
  have HL := Lib.hid hl
  clear hl
  go_enter Try.func104, Try.ntmps104
  go_wp2
  go_loop [3, 7] (fun x i => NumRel [b0, b1, b2, b3, b4, b5, b6, b7] x i) (fun _ i => 8 - (intOf i).toNat)
  case atStart => exact ⟨0, by omega, rfl, rfl⟩
  case round =>
    obtain ⟨k, hk, rfl, rfl⟩ := hrel
    by_cases hlt : k < 8
    · obtain ⟨b, hb⟩ : ∃ b, [b0, b1, b2, b3, b4, b5, b6, b7][k]? = some b := ⟨_, List.getElem?_eq_getElem hlt⟩
      have IXk : ∀ w, (Instr.index 95 (.agg #[byteV b0, byteV b1, byteV b2, byteV b3, byteV b4, byteV b5, byteV b6, byteV b7]) (.int .i64 (k : Int))).run Try.prog w = .ok (byteV b) w := IX.out k b hb
      have HE := Lib.hid (be_take_succ _ k b hb)
      have HO := Lib.hid (or_byte (be (List.take k [b0, b1, b2, b3, b4, b5, b6, b7])) b (by
        have h1 := be_take_lt [b0, b1, b2, b3, b4, b5, b6, b7] k
        have h2 : (256 : Nat) ^ k ≤ 256 ^ 7 := Nat.pow_le_pow_right (by omega) (by omega)
        omega))
      have t1 : decide ((k : Int) < 8) = true := by simp; omega
      have t1' : decide (k < 8) = true := by simp; omega
      generalize be (List.take k [b0, b1, b2, b3, b4, b5, b6, b7]) = u at HE HO ⊢
      clear hb
      go_wp2
      go_round
      case rel =>
        refine ⟨k + 1, by omega, by go_num, ?_⟩
        rw [HE.out, wrap_u64_byte, HO.out]
      case measure => simp [intOf]; omega
    · have t1 : decide ((k : Int) < 8) = false := by simp; omega
      have t1' : decide (k < 8) = false := by simp; omega
      obtain rfl : k = 8 := by omega
      go_wp2
      go_ret
      exact ⟨rfl, (Upd.refl NoF w).alloc _⟩

theorem be_pad (bs : List UInt8) (n : Nat) : be (bs ++ List.replicate n 0) = be bs * 256 ^ n := by
  induction n with
  | zero => simp
  | succ n ih =>
    rw [List.replicate_succ', ← List.append_assoc, be_snoc, ih, Nat.pow_succ]
    simp [Nat.mul_assoc]

/-- 'copy' of bytes into a block that is known whole. -/
theorem run_copy_bytes {w : World} {g o dl dc : Nat} {cur : Array Value} {t : TypeId} (hb : Blk w g t cur) {v : Value} {n : Nat} {bs : List UInt8} (hr : Rd w 1 v n (bs.map byteV)) (h0 : 0 < n) (k : Nat) (hk : k = Nat.min n dl) (hfit : o + k ≤ cur.size) (ty : TypeId) :
    ∃ w', (Builtin.copy_ #[27, 27] ty #[.slice (some ⟨g, o, none⟩) dl dc, v]).run Try.prog w = .ok (.int .i64 (k : Int)) w' ∧ Blk w' g t (cur.toList.take o ++ (bs.take k).map byteV ++ cur.toList.drop (o + k)).toArray ∧ Upd (fun j => j = g) w w' := by
  obtain ⟨A, c, rfl, hn, hc, hl, hx⟩ := hr
  obtain ⟨g0, o0, rfl, hcell⟩ := hx h0
  have hlen : ((bs.take k).map byteV).length = k := by
    simp at hl ⊢
    have : k ≤ n := by rw [hk]; exact Nat.min_le_left _ _
    omega
  have hr := run_copy_row (P := Try.prog) w 27 27 ty 5 g o dl dc ⟨g0, o0, none⟩ n c cur t ((bs.take k).map byteV) Try.underlying27 (by kernel_rfl) hb (by rw [hlen]; exact hk) (fun j u hu => by
    have hadd : (⟨g0, o0, none⟩ : Addr).add j = ⟨g0, o0 + j, none⟩ := by unfold Addr.add; split <;> simp_all
    rw [hadd]
    refine hcell j u ?_
    rw [List.map_take, List.getElem?_take] at hu
    split at hu
    · exact hu
    · cases hu) (by rw [hlen]; exact hfit) (bytes_oneCell _)
  rw [hlen] at hr
  exact ⟨_, hr, hb.row _, (Upd.refl (fun j => j = g) w).setRow (.inl rfl) _⟩

set_option maxRecDepth 100000 in
set_option maxHeartbeats 2000000 in
theorem hword_short {w : World} {v : Value} {bs : List UInt8} (h : Rd w 1 v bs.length (bs.map byteV)) (h8 : bs.length < 8) (h0 : 0 < bs.length) : Calls Try.prog 87 #[v] w fun e w' => e = .returned (u64V (wordN bs)) ∧ Upd NoF w w' := by
  obtain ⟨A, c, rfl, _⟩ := id h
  have t0 : decide ((8 : Int) ≤ bs.length) = false := by simp; omega
  have t0' : decide (8 ≤ bs.length) = false := by simp; omega
  have E := Lib.hid (show be (bs ++ List.replicate (8 - bs.length) 0) = wordN bs by rw [be_pad]; unfold wordN; rw [List.take_of_length_le (by omega)])
  have hA : Upd NoF w (w.alloc (.cells #[.int .u8 0, .int .u8 0, .int .u8 0, .int .u8 0, .int .u8 0, .int .u8 0, .int .u8 0, .int .u8 0] 95)) := (Upd.refl NoF w).alloc _
  obtain ⟨w2, hcp, hB2, hU2⟩ := run_copy_bytes (dl := 8) (dc := 8) (o := 0) (Blk.new w 95 #[.int .u8 0, .int .u8 0, .int .u8 0, .int .u8 0, .int .u8 0, .int .u8 0, .int .u8 0, .int .u8 0]) (show Rd _ 1 (.slice A bs.length c) bs.length (bs.map byteV) from by
    intros
    obtain ⟨A', c', e, h1, h2, h3, hx⟩ := h
    exact ⟨A', c', e, h1, h2, h3, fun h0 => by
      obtain ⟨g, o, e', hc⟩ := hx h0
      exact ⟨g, o, e', fun j u hu => hA.cell (hc j u hu) (fun h => h)⟩⟩) h0 bs.length (by simp only [Nat.min_def]; split <;> omega) (by simp; omega) 3
  have U2 := Lib.hid (show Upd NoF w w2 from hA.trans hU2 (fun k hk e => by omega))
  have B2 := Lib.hid (show Blk w2 w.heap.size 95 ((bs ++ List.replicate (8 - bs.length) 0).map byteV).toArray from by
    have e1 : ((#[Value.int .u8 0, .int .u8 0, .int .u8 0, .int .u8 0, .int .u8 0, .int .u8 0, .int .u8 0, .int .u8 0] : Array Value).toList.take 0 ++ (bs.take bs.length).map byteV ++ (#[Value.int .u8 0, .int .u8 0, .int .u8 0, .int .u8 0, .int .u8 0, .int .u8 0, .int .u8 0, .int .u8 0] : Array Value).toList.drop (0 + bs.length)).toArray = ((bs ++ List.replicate (8 - bs.length) 0).map byteV).toArray := by
      have e2 : [Value.int .u8 0, .int .u8 0, .int .u8 0, .int .u8 0, .int .u8 0, .int .u8 0, .int .u8 0, .int .u8 0] = List.replicate 8 (byteV 0) := rfl
      simp only [List.take_zero, List.nil_append, List.take_length, Nat.zero_add, e2, List.drop_replicate, List.map_append, List.map_replicate]
    rw [← e1]
    exact hB2)
  obtain ⟨pl, hpl⟩ : ∃ pl, pl = bs ++ List.replicate (8 - bs.length) 0 := ⟨_, rfl⟩
  rw [← hpl] at B2 E
  have hpl8 : pl.length = 8 := by rw [hpl]; simp; omega
  have CN := Lib.hid (hNumber_any pl hpl8 w2)
  obtain ⟨b0, b1, b2, b3, b4, b5, b6, b7, l', rfl⟩ := eight pl (by omega)
  obtain rfl : l' = [] := by simpa using hpl8
  have q0 : w2.cell? ⟨w.heap.size, 0, none⟩ = some (byteV b0) := B2.out.cell 0
  have q1 : w2.cell? ⟨w.heap.size, 1, none⟩ = some (byteV b1) := B2.out.cell 1
  have q2 : w2.cell? ⟨w.heap.size, 2, none⟩ = some (byteV b2) := B2.out.cell 2
  have q3 : w2.cell? ⟨w.heap.size, 3, none⟩ = some (byteV b3) := B2.out.cell 3
  have q4 : w2.cell? ⟨w.heap.size, 4, none⟩ = some (byteV b4) := B2.out.cell 4
  have q5 : w2.cell? ⟨w.heap.size, 5, none⟩ = some (byteV b5) := B2.out.cell 5
  have q6 : w2.cell? ⟨w.heap.size, 6, none⟩ = some (byteV b6) := B2.out.cell 6
  have q7 : w2.cell? ⟨w.heap.size, 7, none⟩ = some (byteV b7) := B2.out.cell 7
  clear h hA hB2 hU2 hpl hpl8
  go_enter Try.func87, Try.ntmps87
  go_wp2_with fail
  refine CN.out.mono ?_
  rintro e w3 ⟨rfl, hu3⟩
  go_wp2
  go_ret
  exact ⟨congrArg (fun z : Nat => Ending.returned (u64V z)) E.out, U2.out.trans hu3 (fun _ _ h => h)⟩

theorem hword_any {w : World} {v : Value} {bs : List UInt8} (h : Rd w 1 v bs.length (bs.map byteV)) (h0 : 0 < bs.length) : Calls Try.prog 87 #[v] w fun e w' => e = .returned (u64V (wordN bs)) ∧ Upd NoF w w' := by
  rcases Nat.lt_or_ge bs.length 8 with h8 | h8
  · exact hword_short h h8 h0
  · exact hword_long h h8
theorem r1word_any {w : World} {v : Value} {bs : List UInt8} (h : Rd w 1 v bs.length (bs.map byteV)) : Calls Try.prog 90 #[v] w fun e w' => e = .returned (u64V (wordN bs)) ∧ Upd NoF w w' := by
  rcases Nat.lt_or_ge bs.length 8 with h8 | h8
  · exact r1word_short h h8
  · exact r1word_long h h8
end Go.Proofs.Ytmapijpphnlcmaa
