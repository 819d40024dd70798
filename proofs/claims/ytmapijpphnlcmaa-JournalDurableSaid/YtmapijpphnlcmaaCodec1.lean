/- Numbers as bytes: AppendUint and Uint of package codec and of the reference. Conditions: sizes. -/
import Derived.Test.YtmapijpphnlcmaaHash5
import Derived.Laws.MakeOwn
namespace Go.Proofs.Ytmapijpphnlcmaa
open Go.RowKit

def byteAt (v : Int) (i : Nat) : UInt8 := UInt8.ofNat ((v / 2 ^ (8 * i)) % 256).toNat
/-- The lowest n bytes of v, the highest first. -/
def beB (v : Int) : Nat → List UInt8
  | 0 => []
  | n + 1 => byteAt v n :: beB v n
theorem beB_len (v : Int) (n : Nat) : (beB v n).length = n := by induction n with | zero => rfl | succ n ih => simp [beB, ih]

/-- A new slice of bytes that owns its block. -/
def NewO (w : World) (bs : List UInt8) (A : Option Addr) (c : Nat) (w' : World) : Prop := Own w' 5 1 (.slice A bs.length c) bs.length (bs.map byteV) ∧ (∀ k, OwnB (.slice A bs.length c) k → w.heap.size ≤ k) ∧ Upd NoF w w'
def BytesPost (w : World) (bs : List UInt8) (e : Ending) (w' : World) : Prop := ∃ A c, e = .returned (.slice A bs.length c) ∧ NewO w bs A c w'

theorem run_make_bytes (w : World) (n m : Nat) (l c : Int) (hl : l = n) (hc : c = m) (hm : m ≤ 1099511627776) (hn : n ≤ m) : ∃ w' cs, (Instr.makeSlice 27 (.int .i64 l) (.int .i64 c)).run Try.prog w = .ok (.slice (some ⟨w.heap.size, 0, none⟩) n m) w' ∧ Blk w' w.heap.size 5 cs ∧ cs.size = m ∧ Upd NoF w w' := by
  obtain ⟨i1, hi1, hy0, hy1, hy2⟩ := info_parts byte_info
  subst hl hc
  have h := run_make (P := Try.prog) w 27 5 i1 _ Try.underlying27 hi1 hy0 .i64 .i64 n m (by omega) (by omega) (by rw [hy2]; omega) (by omega)
  refine ⟨_, _, h, Blk.new w _ _, ?_, (Upd.refl NoF w).alloc _⟩
  rw [size_madeCells, hy1]
  simp

theorem run_copy0 (w : World) (g o dl dc : Nat) (A : Option Addr) (c : Nat) (ty : TypeId) : (Builtin.copy_ #[27, 27] ty #[.slice (some ⟨g, o, none⟩) dl dc, .slice A 0 c]).run Try.prog w = .ok (.int .i64 0) w := by
  obtain ⟨i1, hi1, hy0, hy1, hy2⟩ := info_parts byte_info
  cases A <;> simp [Builtin.copy_, run_underlying Try.underlying27, Builtin.lenOf, Builtin.firstCells, sizeOf, typeInfo, hi1, storeCells, loadCells, loadCellsFrom, goInt]

/-- 'make' and 'copy' at once. -/
theorem make_copy {w : World} {v : Value} {bs : List UInt8} (h : Rd w 1 v bs.length (bs.map byteV)) (n : Nat) (c : Int) (hc : c = ((bs.length + n : Nat) : Int)) (hm : bs.length + n ≤ 1099511627776) : ∃ w1 w2,
    (Instr.makeSlice 27 (.int .i64 (bs.length : Int)) (.int .i64 c)).run Try.prog w = .ok (.slice (some ⟨w.heap.size, 0, none⟩) bs.length (bs.length + n)) w1 ∧
    (Builtin.copy_ #[27, 27] 3 #[.slice (some ⟨w.heap.size, 0, none⟩) bs.length (bs.length + n), v]).run Try.prog w1 = .ok (.int .i64 (bs.length : Int)) w2 ∧
    NewO w bs (some ⟨w.heap.size, 0, none⟩) (bs.length + n) w2 := by
  obtain ⟨w1, cs, h1, h2, h3, h4⟩ := run_make_bytes w bs.length (bs.length + n) bs.length c rfl hc hm (by omega)
  have hN : ∀ k, OwnB (.slice (some ⟨w.heap.size, 0, none⟩) bs.length (bs.length + n)) k → w.heap.size ≤ k := fun k hk => by simp [OwnB, Value.ownBlock] at hk; omega
  rcases Nat.eq_zero_or_pos bs.length with h0 | h0
  · obtain rfl : bs = [] := List.eq_nil_of_length_eq_zero h0
    obtain ⟨A, c', rfl, _⟩ := h
    refine ⟨w1, w1, h1, run_copy0 _ _ _ _ _ _ _ _, ⟨by simp, .inr ⟨w.heap.size, _, cs, rfl, h2, by omega, by unfold maxLen; omega, by omega, by simp⟩⟩, hN, h4⟩
  · obtain ⟨w2, k1, k2, k3⟩ := run_copy_bytes (dl := bs.length) (dc := bs.length + n) (o := 0) h2 (h.keep h4) h0 bs.length (by simp only [Nat.min_def]; split <;> omega) (by omega) 3
    refine ⟨w1, w2, h1, k1, ⟨by simp, .inr ⟨w.heap.size, _, _, rfl, k2, by omega, by unfold maxLen; omega, ?_, ?_⟩⟩, hN, h4.trans k3 (fun k hk e => by have e : k = w.heap.size := e; omega)⟩
    · simp; omega
    · simp

set_option maxRecDepth 100000 in
theorem extended_any {w : World} {v : Value} {bs : List UInt8} (h : Rd w 1 v bs.length (bs.map byteV)) (n : Nat) (hm : bs.length + n ≤ 1099511627776) : Calls Try.prog 81 #[v, .int .i64 (n : Int)] w (BytesPost w bs) := by
  obtain ⟨w1, w2, h1, h2, h3⟩ := make_copy h n ((bs.length : Int) + (n : Int)) (by omega) hm
  obtain ⟨A, c, rfl, hlc, hcm, _⟩ := id h
  have H3 := Lib.hid h3
  clear h h3
  go_enter Try.func81, Try.ntmps81
  go_wp2
  go_ret
  exact ⟨_, _, rfl, H3.out⟩

def AuRel (w : World) (bs : List UInt8) (v : Int) (n : Nat) (out i : Value) (wr : World) : Prop := ∃ (r : Nat) (xs : List UInt8) (A : Option Addr) (c : Nat), r ≤ n ∧ i = .int .i64 ((r : Int) - 1) ∧ out = .slice A xs.length c ∧ NewO w xs A c wr ∧ xs ++ beB v r = bs ++ beB v n

theorem NewO.push {w wr w1 : World} {xs : List UInt8} {A A' : Option Addr} {c c' : Nat} {b : UInt8} {o : Obj} (h : NewO w xs A c wr) (ho : Own w1 5 1 (.slice A' (xs.length + 1) c') (xs.length + 1) (xs.map byteV ++ [byteV b])) (hu : Upd (OwnB (.slice A xs.length c)) (wr.alloc o) w1)
    (hn : ∀ k, OwnB (.slice A' (xs.length + 1) c') k → OwnB (.slice A xs.length c) k ∨ (wr.alloc o).heap.size ≤ k) : NewO w (xs ++ [b]) A' c' w1 := by
  obtain ⟨h1, h2, h3⟩ := h
  have hs := h3.size
  refine ⟨by rw [List.length_append, List.length_singleton, List.map_append]; exact ho, fun k hk => ?_, (h3.alloc o).trans hu (fun k hk e => by have := h2 k e; omega)⟩
  rw [List.length_append, List.length_singleton] at hk
  rcases hn k hk with e | e
  · exact h2 k e
  · simp at e; omega
end Go.Proofs.Ytmapijpphnlcmaa
