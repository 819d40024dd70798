/- Append of package disk to a file that is not there yet. Condition: not more than 2^40 bytes. change of package disk, for whatever closure. No condition. Sync, Truncate, Remove, Rename of package disk. No condition. Truncate of package disk. No condition. The functions of package disk, each against its plain specification. Conditions: no name longer than memory, no file beyond 2^40 bytes. Sync, Truncate, Remove, Rename, Read, Arm, Off of package disk, each against its plain specification. Conditions: no name longer than memory. Files and the choices of package disk. Condition: fewer than 2^43 files. The crash, file by file. No condition. Crash of package disk: what one file comes to. No condition. Crash of package disk. Condition: fewer than 2^43 files. The sanity check of the statements on the disk returns true. No condition. The reference disk in memory: find, fails. No condition. The reference disk: drop, put. No condition. The hash functions of package hash and of the reference: Tagged. Conditions: sizes. Numbers as bytes: AppendUint and Uint of package codec and of the reference. Conditions: sizes. Numbers as bytes: AppendUint of package codec and of the reference. Conditions: sizes. Numbers as bytes: Uint of package codec and of the reference. Conditions: sizes. Comparing bytes; AppendBytes and Bytes of package codec and of the reference; the length of a signature. Conditions: sizes. Checksums and frames of the journal, of the program and of the reference. Conditions: sizes. Parsing on plain data; lists of records in memory; bytes.Equal. Conditions: sizes. Parse of package journal. Conditions: sizes. Bytes of package codec and of the reference. Conditions: sizes. Encode of package vote and of the reference. No condition. The orders of names: Less of package hash; Number and Less of the reference. No condition. The order of votes: Less of package vote and of the reference. No condition. From a contract 'it returns true and turns nothing that was there' to the row of a statement. No condition. -/
import Derived.Test.YtengcmfdfmnacaaGreatJn2
import Derived.StillTailTactics
import Derived.Deep.QuietTactic
import Derived.BigQuiet
import Derived.RegionTactic
import Derived.Lib.SliceRun
import Derived.Laws.BitsAllLaws
import Derived.Lib.SlBytesConst
import Derived.Laws.IdiomStrings
import Derived.Shelf.Bytes.SlSmallAll
import Derived.Laws.MakeOwn
import Derived.Lib.Bytealg
import Derived.Lib.BytesEntry
import Derived.Deep.RegionHeld3
import Derived.IntWalk
import Derived.Deep.MidRow
import Derived.Deep.DrawnRows
import Derived.Outline
import Derived.Test.YtengcmfdfmnacaaGreatRows
import Derived.Test.YtengcmfdfmnacaaGreatJn1
import Derived.ProofKit
import Derived.OpenShut
import Derived.Carry
namespace Go.Proofs.YtengcmfdfmnacaaGreat
section
open Go.RowKit Go.Maps

section
variable {w : World} {d mb : Nat} {off armed : Bool} {left : Nat} {L : List FRec}

end
end

section
open Go.RowKit Go.Maps

section
variable {w : World} {d mb : Nat} {off armed : Bool} {left : Nat} {L : List FRec}

end
end

section
open Go.RowKit Go.Maps

section
variable {w : World} {d mb : Nat} {off armed : Bool} {left : Nat} {L : List FRec}

theorem mem_delR {nm : List UInt8} {x : FRec} (h : x ∈ delR nm L) : x ∈ L ∧ x.nm ≠ nm := by
  obtain ⟨h1, h2⟩ := List.mem_filter.1 h
  exact ⟨h1, by simpa using h2⟩

end
end

section
open Go.RowKit Go.Maps

section
variable {w : World} {d mb : Nat} {off armed : Bool} {left : Nat} {L : List FRec}

end
end

section
open Go.RowKit Go.Maps

def absR (r : FRec) : List UInt8 × FSt := (r.nm, ⟨r.c, r.dur⟩)
def absL (L : List FRec) : FS := L.map absR

section
variable {w : World} {d : Nat} {s : DSt} {F : Nat → Prop}

end
end

section
open Go.RowKit Go.Maps

section
variable {w : World} {d mb : Nat} {s : DSt} {F : Nat → Prop} {L : List FRec} {off armed : Bool} {left : Nat}

/-- What Read returns: new memory. -/
def BytesErr (w : World) (r : List UInt8 × Int) (e : Ending) (w' : World) : Prop := ∃ A c, e = retPE (.slice A r.1.length c) r.2 ∧ NewB w r.1 (.slice A r.1.length c) w'

theorem NewB.nil (w : World) : NewB w [] (.slice none 0 0) w := ⟨Own.nil _ _ _, fun k hk => by simp [OwnB, Value.ownBlock] at hk, Upd.refl _ _⟩

end
end

section
open Go.RowKit Go.Maps

/-- A new slice of strings. -/
def NewS (w : World) (ss : List (List UInt8)) (v : Value) (w' : World) : Prop :=
  Own w' 9 1 v ss.length (ss.map strV) ∧ (∀ k, OwnB v k → w.heap.size ≤ k) ∧ Upd NoF w w'
def StrsPost (w : World) (ss : List (List UInt8)) (e : Ending) (w' : World) : Prop := ∃ A c, e = .returned (.slice A ss.length c) ∧ NewS w ss (.slice A ss.length c) w'

section
variable {w : World} {d mb : Nat} {s : DSt} {F : Nat → Prop} {L : List FRec} {off armed : Bool} {left : Nat}

theorem RdI.cut {F : Nat → Prop} {w : World} {A : Option Addr} {c : Nat} {p : Int} {ps : List Int} (h : RdI F w (.slice A (ps.length + 1) c) (p :: ps)) {g o : Nat} (hA : A = some ⟨g, o, none⟩) (A' : Option Addr) (hA' : c ≠ 1 → A' = some ⟨g, o + 1, none⟩) :
    RdI F w (.slice A' ps.length (c - 1)) ps := by
  intro w' hu
  obtain ⟨A0, c0, he, hn, hc, hl, hx⟩ := h w' hu
  injection he with e1 e2 e3
  subst e1 e3
  refine ⟨A', c - 1, rfl, by simp at hn; omega, by omega, by simp, fun h0 => ?_⟩
  obtain ⟨g1, o1, e, hcell⟩ := hx (by simp)
  rw [hA] at e
  injection e with e
  injection e with e1 e2
  subst e1 e2
  refine ⟨g, o + 1, hA' (by simp at hn; omega), fun j u hu => ?_⟩
  have := hcell (j + 1) u (by simpa using hu)
  rw [show o + 1 + j = o + (j + 1) by omega]
  exact this

end
end

section
open Go

def crashRun : List Int → FS → Nat → FS × List Int
  | ps, fs, 0 => (fs, ps)
  | ps, [], _ + 1 => ([], ps)
  | ps, (nm, f) :: l, i + 1 => ((nm, (crashF ps f).1) :: (crashRun (crashF ps f).2 l i).1, (crashRun (crashF ps f).2 l i).2)
end

section
open Go.RowKit Go.Maps

section
variable {w : World} {d mb : Nat} {L : List FRec} {off armed : Bool} {left : Nat}

end
end

section
open Go.RowKit Go.Maps

section
variable {w0 wr : World} {d mb cb : Nat} {L L' : List FRec} {picks : List Int} {k : Nat}

end
end

section
open Go.RowKit Go.Maps

/-! ### a disk since the world w0, when its blocks were those of F0 -/
section
variable {w0 w w' : World} {F0 : Nat → Prop} {d : Nat} {s : DSt}
end
end

section
open Go.RowKit Go.Maps

/-- A file of the reference disk. -/
structure RRec where
  nm : List UInt8
  cv : Value
  c : List UInt8
  dur : Nat

def cellsR (R : List RRec) : List Value := R.flatMap (fun r => [strV r.nm, r.cv, .int .i64 r.dur])

theorem cellsR_at {R : List RRec} {i : Nat} {r : RRec} (h : R[i]? = some r) : (cellsR R)[i * 3]? = some (strV r.nm) ∧ (cellsR R)[i * 3 + 1]? = some r.cv ∧ (cellsR R)[i * 3 + 2]? = some (.int .i64 r.dur) := by
  induction R generalizing i with
  | nil => cases h
  | cons x R ih =>
    cases i with
    | zero =>
      simp at h
      subst h
      simp [cellsR]
    | succ i =>
      have := ih (i := i) (by simpa using h)
      simp only [cellsR, List.flatMap_cons] at this ⊢
      refine ⟨?_, ?_, ?_⟩
      · rw [show (i + 1) * 3 = 3 + i * 3 by omega, List.getElem?_append_right (by simp)]; simpa using this.1
      · rw [show (i + 1) * 3 + 1 = 3 + (i * 3 + 1) by omega, List.getElem?_append_right (by simp)]; simpa using this.2.1
      · rw [show (i + 1) * 3 + 2 = 3 + (i * 3 + 2) by omega, List.getElem?_append_right (by simp)]; simpa using this.2.2

def refFoot (m : Nat) (lv : Value) (R : List RRec) : Nat → Prop := fun k => k = m ∨ OwnB lv k ∨ ∃ r ∈ R, OwnB r.cv k

section
variable {w w' : World} {m : Nat} {off armed : Bool} {left : Nat} {lv : Value} {R : List RRec}

def idxR (R : List RRec) (nm : List UInt8) : Int := match R.findIdx? (fun r => r.nm == nm) with | some i => i | none => -1

end
end

section
open Go.RowKit Go.Maps

section
variable {w w' : World} {m : Nat} {off armed : Bool} {left : Nat} {lv : Value} {R : List RRec}

/-- The part of a slice before k, and the part from k on. -/
theorem Rd.upto {size n c k : Nat} {A : Option Addr} {xs : List Value} (h : Rd w size (.slice A n c) n xs) (hk : k ≤ n) : Rd w size (.slice A k c) k (xs.take (k * size)) := by
  obtain ⟨A', c', e, hn, hc, hl, hx⟩ := h
  injection e with e1 _ e3
  subst e1 e3
  refine ⟨A, c, rfl, by omega, hc, ?_, fun h0 => ?_⟩
  · rw [List.length_take, hl]; exact Nat.min_eq_left (Nat.mul_le_mul_right _ hk)
  · obtain ⟨g, o, rfl, hx'⟩ := hx (by omega)
    refine ⟨g, o, rfl, fun j u hu => hx' j u ?_⟩
    rw [List.getElem?_take] at hu
    split at hu
    · exact hu
    · cases hu
theorem Rd.from_ {size n c k g o : Nat} {xs : List Value} (h : Rd w size (.slice (some ⟨g, o, none⟩) n c) n xs) (hk : k ≤ n) (A' : Option Addr) (hA : k < n → A' = some ⟨g, o + k * size, none⟩) : Rd w size (.slice A' (n - k) (c - k)) (n - k) (xs.drop (k * size)) := by
  obtain ⟨A0, c', e, hn, hc, hl, hx⟩ := h
  injection e with e1 _ e3
  subst e1 e3
  refine ⟨A', c - k, rfl, by omega, by omega, ?_, fun h0 => ?_⟩
  · rw [List.length_drop, hl, Nat.sub_mul]
  · obtain ⟨g', o', e, hx'⟩ := hx (by omega)
    injection e with e
    injection e with e1 e2
    subst e1 e2
    refine ⟨g, o + k * size, hA (by omega), fun j u hu => ?_⟩
    rw [Nat.add_assoc]
    exact hx' _ u (by rw [← hu, List.getElem?_drop])

end
end

section
open Go.RowKit

theorem Rd.keep {w w' : World} {size n : Nat} {v : Value} {xs : List Value} (h : Rd w size v n xs) (hu : Upd NoF w w') : Rd w' size v n xs := by
  obtain ⟨A', c', e, h1, h2, h3, hx⟩ := h
  exact ⟨A', c', e, h1, h2, h3, fun h0 => by
    obtain ⟨g, o, e', hc⟩ := hx h0
    exact ⟨g, o, e', fun j u hu' => hu.cell (hc j u hu') (fun h => h)⟩⟩
end

section
open Go.RowKit

/-- A new slice of bytes that owns its block. -/
def NewO (w : World) (bs : List UInt8) (A : Option Addr) (c : Nat) (w' : World) : Prop := Own w' 5 1 (.slice A bs.length c) bs.length (bs.map byteV) ∧ (∀ k, OwnB (.slice A bs.length c) k → w.heap.size ≤ k) ∧ Upd NoF w w'
def BytesPost (w : World) (bs : List UInt8) (e : Ending) (w' : World) : Prop := ∃ A c, e = .returned (.slice A bs.length c) ∧ NewO w bs A c w'

theorem run_make_bytes (w : World) (n m : Nat) (l c : Int) (hl : l = n) (hc : c = m) (hm : m ≤ 1099511627776) (hn : n ≤ m) : ∃ w' cs, (Instr.makeSlice 52 (.int .i64 l) (.int .i64 c)).run Tryz.prog w = .ok (.slice (some ⟨w.heap.size, 0, none⟩) n m) w' ∧ Blk w' w.heap.size 5 cs ∧ cs.size = m ∧ Upd NoF w w' := by
  obtain ⟨i1, hi1, hy0, hy1, hy2⟩ := info_parts byte_info
  subst hl hc
  have h := run_make (P := Tryz.prog) w 52 5 i1 _ Tryz.underlying52 hi1 hy0 .i64 .i64 n m (by omega) (by omega) (by rw [hy2]; omega) (by omega)
  refine ⟨_, _, h, Blk.new w _ _, ?_, (Upd.refl NoF w).alloc _⟩
  rw [size_madeCells, hy1]
  simp

theorem run_copy0 (w : World) (g o dl dc : Nat) (A : Option Addr) (c : Nat) (ty : TypeId) : (Builtin.copy_ #[52, 52] ty #[.slice (some ⟨g, o, none⟩) dl dc, .slice A 0 c]).run Tryz.prog w = .ok (.int .i64 0) w := by
  obtain ⟨i1, hi1, hy0, hy1, hy2⟩ := info_parts byte_info
  cases A <;> simp [Builtin.copy_, run_underlying Tryz.underlying52, Builtin.lenOf, Builtin.firstCells, sizeOf, typeInfo, hi1, storeCells, loadCells, loadCellsFrom, goInt]

/-- 'make' and 'copy' at once. -/
theorem make_copy {w : World} {v : Value} {bs : List UInt8} (h : Rd w 1 v bs.length (bs.map byteV)) (n : Nat) (c : Int) (hc : c = ((bs.length + n : Nat) : Int)) (hm : bs.length + n ≤ 1099511627776) : ∃ w1 w2,
    (Instr.makeSlice 52 (.int .i64 (bs.length : Int)) (.int .i64 c)).run Tryz.prog w = .ok (.slice (some ⟨w.heap.size, 0, none⟩) bs.length (bs.length + n)) w1 ∧
    (Builtin.copy_ #[52, 52] 3 #[.slice (some ⟨w.heap.size, 0, none⟩) bs.length (bs.length + n), v]).run Tryz.prog w1 = .ok (.int .i64 (bs.length : Int)) w2 ∧
    NewO w bs (some ⟨w.heap.size, 0, none⟩) (bs.length + n) w2 := by
  obtain ⟨w1, cs, h1, h2, h3, h4⟩ := run_make_bytes w bs.length (bs.length + n) bs.length c rfl hc hm (by omega)
  have hN : ∀ k, OwnB (.slice (some ⟨w.heap.size, 0, none⟩) bs.length (bs.length + n)) k → w.heap.size ≤ k := fun k hk => by simp [OwnB, Value.ownBlock] at hk; omega
  rcases Nat.eq_zero_or_pos bs.length with h0 | h0
  · obtain rfl : bs = [] := List.eq_nil_of_length_eq_zero h0
    obtain ⟨A, c', rfl, _⟩ := h
    refine ⟨w1, w1, h1, run_copy0 _ _ _ _ _ _ _ _, ⟨by simp, .inr ⟨w.heap.size, _, cs, rfl, h2, by omega, by unfold maxLen; omega, by omega, by simp⟩⟩, hN, h4⟩
  · obtain ⟨w2, k1, k2, k3⟩ := run_copy_bytes (dl := bs.length) (dc := bs.length + n) (o := 0) h2 (h.keep h4) h0 bs.length (by simp only [Nat.min_def]; split <;> omega) (by omega) 3
    refine ⟨w1, w2, h1, k1, ⟨by simp, .inr ⟨w.heap.size, _, _, rfl, k2, by omega, by unfold maxLen; omega, ?_, ?_⟩⟩, hN, h4.trans k3 (fun k hk e => by have e : k = w.heap.size := e; omega)⟩
    · simp; omega
    · simp

set_option maxRecDepth 100000 in
theorem extended_any {w : World} {v : Value} {bs : List UInt8} (h : Rd w 1 v bs.length (bs.map byteV)) (n : Nat) (hm : bs.length + n ≤ 1099511627776) : Calls Tryz.prog 98 #[v, .int .i64 (n : Int)] w (BytesPost w bs) := by
  obtain ⟨w1, w2, h1, h2, h3⟩ := make_copy h n ((bs.length : Int) + (n : Int)) (by omega) hm
  obtain ⟨A, c, rfl, hlc, hcm, _⟩ := id h
  have H3 := Lib.hid h3
  clear h h3
  go_enter Tryz.func98, Tryz.ntmps98
  go_wp2
  go_ret
  exact ⟨_, _, rfl, H3.out⟩

def AuRel (w : World) (bs : List UInt8) (v : Int) (n : Nat) (out i : Value) (wr : World) : Prop := ∃ (r : Nat) (xs : List UInt8) (A : Option Addr) (c : Nat), r ≤ n ∧ i = .int .i64 ((r : Int) - 1) ∧ out = .slice A xs.length c ∧ NewO w xs A c wr ∧ xs ++ beB v r = bs ++ beB v n

theorem NewO.push {w wr w1 : World} {xs : List UInt8} {A A' : Option Addr} {c c' : Nat} {b : UInt8} {o : Obj} (h : NewO w xs A c wr) (ho : Own w1 5 1 (.slice A' (xs.length + 1) c') (xs.length + 1) (xs.map byteV ++ [byteV b])) (hu : Upd (OwnB (.slice A xs.length c)) (wr.alloc o) w1)
    (hn : ∀ k, OwnB (.slice A' (xs.length + 1) c') k → OwnB (.slice A xs.length c) k ∨ (wr.alloc o).heap.size ≤ k) : NewO w (xs ++ [b]) A' c' w1 := by
  obtain ⟨h1, h2, h3⟩ := h
  have hs := h3.size
  refine ⟨by rw [List.length_append, List.length_singleton, List.map_append]; exact ho, fun k hk => ?_, (h3.alloc o).trans hu (fun k hk e => by have := h2 k e; omega)⟩
  rw [List.length_append, List.length_singleton] at hk
  rcases hn k hk with e | e
  · exact h2 k e
  · simp at e; omega
end

section
open Go.RowKit

set_option maxRecDepth 100000 in
set_option maxHeartbeats 4000000 in
theorem cAppendUint_any {w : World} {b : Value} {bs : List UInt8} (h : Rd w 1 b bs.length (bs.map byteV)) (v : Int) (_hv : 0 ≤ v) (n : Nat) (hn : n ≤ 8) (hm : bs.length + 8 ≤ 1099511627776) : Calls Tryz.prog 59 #[b, u64V v, .int .i64 (n : Int)] w (BytesPost w (bs ++ beB v n)) := by
  obtain ⟨A, c, rfl, hlc, hcm, _⟩ := id h
  have CE := Lib.hid (extended_any h n (by omega))
  obtain ⟨i1, hi1, hy0, hy1, hy2⟩ := info_parts byte_info
  have m1 : max (n : Int) 0 = n := by omega
  have m2 : min (n : Int) 8 = n := by omega
  clear h
  go_enter Tryz.func59, Tryz.ntmps59
  go_wp2_with fail
  refine CE.out.mono ?_
  rintro e w1 ⟨A1, c1, rfl, hN1⟩
  have N1 := Lib.hid hN1
  clear hN1 m1 m2
  go_wp2
  go_loopw [7, 8] (fun out i wr => AuRel w bs v n out i wr) (fun _ i _ => (intOf i + 1).toNat)
  case atStart => exact ⟨n, bs, A1, c1, Nat.le_refl _, rfl, rfl, N1.out, rfl⟩
  case round =>
    obtain ⟨r, xs, A2, c2, hr, hi, rfl, hN, hE⟩ := hrel
    have hlen : xs.length + r = bs.length + n := by
      have := congrArg List.length hE
      simpa [beB_len] using this
    have HN := Lib.hid hN
    have HE := Lib.hid hE
    cases r with
    | zero =>
      obtain rfl := hi
      obtain rfl : xs = bs ++ beB v n := by simpa [beB] using HE.out
      have t1 : decide ((0 : Int) ≤ ((0 : Nat) : Int) - 1) = false := by decide
      clear hN hE hlen
      go_wp2
      go_ret
      exact ⟨A2, c2, rfl, HN.out⟩
    | succ r =>
      obtain rfl : _ = Value.int .i64 (r : Int) := hi.trans (by congr 1; omega)
      have t1 : decide ((0 : Int) ≤ (r : Int)) = true := by simp
      have e1 : (0 : Int) ≤ 8 * (r : Int) := by omega
      have e2 : (8 * (r : Int)).toNat = 8 * r := by omega
      have e3 : min (8 * r) 64 = 8 * r := by omega
      have HBV := Lib.hid (show Value.int .u8 (IntKind.u8.wrap (v / 2 ^ (8 * r))) = byteV (byteAt v r) from wrap_byte _)
      have hxl : xs.length ≤ 1099511627776 := by omega
      clear hN hE hi hlen
      go_wp2_with (at_builtin; refine wpList_append_to _ rfl (.tmp 21) (.tmp 27) 52 rfl 5 i1 _ 1 1 Tryz.underlying52 hi1 hy0 hy1 hy2 rfl (.slice A2 xs.length c2) xs.length (xs.map byteV) rfl (HN.out.1.upd ((Upd.refl NoF wr).alloc _) (fun _ _ h => h)) (.slice (some ⟨wr.heap.size, 0, none⟩) 1 1) 1 [byteV (byteAt v r)] rfl (Rd.of_blk (Blk.new wr _ _) (by omega) (by unfold maxLen; omega) rfl (by intro j u hu; rw [← HBV.out, IntKind.wrap_u8'] at hu; cases j with | zero => simpa using hu | succ j => simp at hu)) (by simp [byteV, Value.oneCell']) (by unfold maxLen; omega) (by omega) ?_; intro A3 c3 w3 hown3 hupd3 hnew3; have O3 := Lib.hid hown3; have V3 := Lib.hid hupd3; have W3 := Lib.hid hnew3; clear hown3 hupd3 hnew3)
      go_roundw
      case rel =>
        refine ⟨r, xs ++ [byteAt v r], A3, c3, by omega, by go_num, by simp, HN.out.push O3.out V3.out W3.out, ?_⟩
        rw [← HE.out]
        simp [beB]
      case measure => simp [intOf]

set_option maxRecDepth 100000 in
set_option maxHeartbeats 4000000 in
theorem r1AppendUint_any {w : World} {b : Value} {bs : List UInt8} (h : Rd w 1 b bs.length (bs.map byteV)) (v : Int) (_hv : 0 ≤ v) (n : Nat) (hn : n ≤ 8) (hm : bs.length + 8 ≤ 1099511627776) : Calls Tryz.prog 96 #[b, u64V v, .int .i64 (n : Int)] w (BytesPost w (bs ++ beB v n)) := by
  obtain ⟨A, c, rfl, hlc, hcm, _⟩ := id h
  have H := Lib.hid h
  obtain ⟨i1, hi1, hy0, hy1, hy2⟩ := info_parts byte_info
  have m1 : max (0 : Int) (n : Int) = n := by omega
  have m2 : min (n : Int) 8 = n := by omega
  clear h
  go_enter Tryz.func96, Tryz.ntmps96
  go_wp2_with (at_builtin; refine wpList_append_new _ rfl (.tmp 9) (.tmp 10) 52 rfl 5 i1 _ 1 1 Tryz.underlying52 hi1 hy0 hy1 hy2 rfl (.slice (some ⟨w.heap.size, 0, none⟩) 0 0) rfl (Own.fresh w _ _) (.slice A bs.length c) bs.length (bs.map byteV) rfl (H.out.keep ((Upd.refl NoF w).alloc _)) (bytes_oneCell _) (by unfold maxLen; omega) (by omega) ?_; intro A1 c1 w1 hown1 hupd1 hnew1; have N1 := Lib.hid (show NewO w bs A1 c1 w1 from ⟨hown1, fun k hk => (by rcases hnew1 k hk with e | e; (simp [OwnB, Value.ownBlock] at e; omega); (simp at e; omega)), ((Upd.refl NoF w).alloc _).trans hupd1 (fun k hk e => by simp [OwnB, Value.ownBlock] at e; omega)⟩); clear hown1 hupd1 hnew1)
  clear m1 m2
  go_loopw [7, 8] (fun out i wr => AuRel w bs v n out i wr) (fun _ i _ => (intOf i + 1).toNat)
  case atStart => exact ⟨n, bs, A1, c1, Nat.le_refl _, rfl, rfl, N1.out, rfl⟩
  case round =>
    obtain ⟨r, xs, A2, c2, hr, hi, rfl, hN, hE⟩ := hrel
    have hlen : xs.length + r = bs.length + n := by
      have := congrArg List.length hE
      simpa [beB_len] using this
    have HN := Lib.hid hN
    have HE := Lib.hid hE
    cases r with
    | zero =>
      obtain rfl := hi
      obtain rfl : xs = bs ++ beB v n := by simpa [beB] using HE.out
      have t1 : decide ((0 : Int) ≤ ((0 : Nat) : Int) - 1) = false := by decide
      clear hN hE hlen
      go_wp2
      go_ret
      exact ⟨A2, c2, rfl, HN.out⟩
    | succ r =>
      obtain rfl : _ = Value.int .i64 (r : Int) := hi.trans (by congr 1; omega)
      have t1 : decide ((0 : Int) ≤ (r : Int)) = true := by simp
      have e1 : (0 : Int) ≤ 8 * (r : Int) := by omega
      have e2 : (8 * (r : Int)).toNat = 8 * r := by omega
      have e3 : min (8 * r) 64 = 8 * r := by omega
      have HBV := Lib.hid (show Value.int .u8 (IntKind.u8.wrap (v / 2 ^ (8 * r))) = byteV (byteAt v r) from wrap_byte _)
      have hxl : xs.length ≤ 1099511627776 := by omega
      clear hN hE hi hlen
      go_wp2_with (at_builtin; refine wpList_append_to _ rfl (.tmp 20) (.tmp 27) 52 rfl 5 i1 _ 1 1 Tryz.underlying52 hi1 hy0 hy1 hy2 rfl (.slice A2 xs.length c2) xs.length (xs.map byteV) rfl (HN.out.1.upd ((Upd.refl NoF wr).alloc _) (fun _ _ h => h)) (.slice (some ⟨wr.heap.size, 0, none⟩) 1 1) 1 [byteV (byteAt v r)] rfl (Rd.of_blk (Blk.new wr _ _) (by omega) (by unfold maxLen; omega) rfl (by intro j u hu; rw [← HBV.out, IntKind.wrap_u8'] at hu; cases j with | zero => simpa using hu | succ j => simp at hu)) (by simp [byteV, Value.oneCell']) (by unfold maxLen; omega) (by omega) ?_; intro A3 c3 w3 hown3 hupd3 hnew3; have O3 := Lib.hid hown3; have V3 := Lib.hid hupd3; have W3 := Lib.hid hnew3; clear hown3 hupd3 hnew3)
      go_roundw
      case rel =>
        refine ⟨r, xs ++ [byteAt v r], A3, c3, by omega, by go_num, by simp, HN.out.push O3.out V3.out W3.out, ?_⟩
        rw [← HE.out]
        simp [beB]
      case measure => simp [intOf]
end

section
open Go.RowKit

set_option maxRecDepth 100000 in
theorem follow_any {w : World} {v : Value} {bs : List UInt8} (h : Rd w 1 v bs.length (bs.map byteV)) (a n : Nat) (ha : a ≤ 4611686018427387904) (hn : n ≤ 4611686018427387904) : Calls Tryz.prog 191 #[v, .int .i64 (a : Int), .int .i64 (n : Int)] w fun e w' => e = .returned (.bool (decide (a + n ≤ bs.length))) ∧ w = w' := by
  have hlm := h.le
  unfold maxLen at hlm
  obtain ⟨A, c, rfl, hlc, hcm, _⟩ := id h
  clear h
  have t0 : decide ((0 : Int) ≤ (a : Int)) = true := by simp
  by_cases h1 : a ≤ bs.length
  · have t1 : decide ((a : Int) ≤ (bs.length : Int)) = true := by simpa using h1
    have t1' : decide (a ≤ bs.length) = true := by simpa using h1
    have E := Lib.hid (show decide ((n : Int) ≤ (bs.length : Int) - (a : Int)) = decide (a + n ≤ bs.length) by
      by_cases h : a + n ≤ bs.length
      · simp [h]; omega
      · simp [h]; omega)
    generalize decide (a + n ≤ bs.length) = z at E ⊢
    go_enter Tryz.func191, Tryz.ntmps191
    go_wp2
    go_ret
    exact ⟨congrArg (fun z => Ending.returned (.bool z)) E.out, rfl⟩
  · have t1 : decide ((a : Int) ≤ (bs.length : Int)) = false := by simp; omega
    have t1' : decide (a ≤ bs.length) = false := by simp; omega
    have E := Lib.hid (show false = decide (a + n ≤ bs.length) by simp; omega)
    generalize decide (a + n ≤ bs.length) = z at E ⊢
    go_enter Tryz.func191, Tryz.ntmps191
    go_wp2
    go_ret
    exact ⟨congrArg (fun z => Ending.returned (.bool z)) E.out, rfl⟩

def UiRel (l : List UInt8) (x i : Value) : Prop := ∃ k : Nat, k ≤ l.length ∧ i = .int .i64 k ∧ x = u64V ((be (l.take k) : Nat) : Int)

theorem pow7 (l : List UInt8) (k : Nat) (h : k < 8) : be (l.take k) < 72057594037927936 := by
  have h1 := be_take_lt l k
  have h2 : (256 : Nat) ^ k ≤ 256 ^ 7 := Nat.pow_le_pow_right (by omega) (by omega)
  omega

section
variable {w : World} {v : Value} {bs : List UInt8}

set_option maxRecDepth 100000 in
set_option maxHeartbeats 2000000 in
theorem cUint_no (h : Rd w 1 v bs.length (bs.map byteV)) (a n : Nat) (ha : a ≤ 4611686018427387904) (h1 : 1 ≤ n) (h8 : n ≤ 8) (hno : bs.length < a + n) : Calls Tryz.prog 162 #[v, .int .i64 (a : Int), .int .i64 (n : Int)] w fun e w' => e = .returned (.tuple #[u64V 0, .bool false]) ∧ w = w' := by
  have CF := follow_any h a n ha (by omega)
  rw [show decide (a + n ≤ bs.length) = false by simp; omega] at CF
  have HF := Lib.hid CF
  obtain ⟨A, c, rfl, hlc, hcm, _⟩ := id h
  have t1 : decide ((n : Int) < 1) = false := by simp; omega
  have t2 : decide ((8 : Int) < (n : Int)) = false := by simp; omega
  have t2' : decide (8 < n) = false := by simp; omega
  clear h CF
  go_enter Tryz.func162, Tryz.ntmps162
  go_wp2_with fail
  refine HF.out.mono ?_
  rintro e w' ⟨rfl, rfl⟩
  go_wp2
  go_ret2
  exact ⟨rfl, rfl⟩

set_option maxRecDepth 100000 in
set_option maxHeartbeats 2000000 in
theorem cUint_yes (h : Rd w 1 v bs.length (bs.map byteV)) (a n : Nat) (h1 : 1 ≤ n) (h8 : n ≤ 8) (hyes : a + n ≤ bs.length) (hm : bs.length ≤ 4611686018427387904) : Calls Tryz.prog 162 #[v, .int .i64 (a : Int), .int .i64 (n : Int)] w fun e w' => e = .returned (.tuple #[u64V ((be ((bs.drop a).take n) : Nat) : Int), .bool true]) ∧ w = w' := by
  have CF := follow_any h a n (by omega) (by omega)
  rw [show decide (a + n ≤ bs.length) = true by simp; omega] at CF
  have HF := Lib.hid CF
  obtain ⟨A, c, rfl, hlc, hcm, _⟩ := id h
  unfold maxLen at hcm
  obtain ⟨g, o, rfl, hc⟩ := rd_cells h (by omega)
  have HC := Lib.hid hc
  have t1 : decide ((n : Int) < 1) = false := by simp; omega
  have t2 : decide ((8 : Int) < (n : Int)) = false := by simp; omega
  have t2' : decide (8 < n) = false := by simp; omega
  have b1 : (0 : Int) ≤ a := by omega
  have b2 : (a : Int) ≤ (a : Int) + n := by omega
  have b3 : (a : Int) + n ≤ c := by omega
  have b4 : ¬ c = a := by omega
  have b5 : ((a : Int) + n).toNat = a + n := by omega
  obtain ⟨l, hl⟩ : ∃ l, (bs.drop a).take n = l := ⟨_, rfl⟩
  have hll : l.length = n := by rw [← hl]; simp; omega
  have hlc2 : ∀ (j : Nat) b, l[j]? = some b → w.cell? ⟨g, o + a + j, none⟩ = some (byteV b) := fun j b hb => by
    rw [Nat.add_assoc]
    refine hc (a + j) b ?_
    rw [← hl, List.getElem?_take] at hb
    split at hb
    · rw [List.getElem?_drop] at hb; exact hb
    · cases hb
  have HLC := Lib.hid hlc2
  have HLL := Lib.hid hll
  rw [hl]
  have e0 : a + n - a = n := by omega
  clear h CF hc hl hlc2 hll
  go_enter Tryz.func162, Tryz.ntmps162
  go_wp2_with fail
  refine HF.out.mono ?_
  rintro e w' ⟨rfl, rfl⟩
  go_wp2
  go_loop [8, 31] (fun x i => UiRel l x i) (fun _ i => n - (intOf i).toNat)
  case atStart => exact ⟨0, Nat.zero_le _, rfl, by simp [be]⟩
  case round =>
    obtain ⟨k, hk, rfl, rfl⟩ := hrel
    have hln := HLL.out
    by_cases hlt : k < n
    · obtain ⟨b, hb⟩ : ∃ b, l[k]? = some b := ⟨_, List.getElem?_eq_getElem (by omega)⟩
      have q := HLC.out k b hb
      have HE := Lib.hid (be_take_succ l k b hb)
      have HO := Lib.hid (or_byte (be (l.take k)) b (pow7 l k (by omega)))
      have s1 : decide ((k : Int) < n) = true := by simpa using hlt
      have s2 : (0:Int) ≤ k := by omega
      have s3 : (k:Int) < n := by omega
      generalize be (l.take k) = u at HE HO ⊢
      clear hb hln
      go_wp2
      go_round
      case rel =>
        refine ⟨k + 1, by have := HLL.out; omega, by go_num, ?_⟩
        rw [HE.out, wrap_u64_byte, HO.out]
      case measure => simp [intOf]; omega
    · have s1 : decide ((k : Int) < n) = false := by simp; omega
      have E := Lib.hid (show l.take k = l from List.take_of_length_le (by omega))
      rw [E.out]
      clear hln
      go_wp2
      go_ret2
      exact ⟨rfl, rfl⟩

end
end

section
open Go.RowKit

def cmpB (a b : List UInt8) : Int := Lib.compareBytes a b
def PairPost (w : World) (bs : List UInt8) (e : Ending) (w' : World) : Prop := ∃ A c, e = .returned (.tuple #[.slice A bs.length c, .bool true]) ∧ NewO w bs A c w'
def NilFalse (w : World) (e : Ending) (w' : World) : Prop := e = .returned (.tuple #[.slice none 0 0, .bool false]) ∧ Upd NoF w w'
end

section
open Go.RowKit

def jsumS (i : Nat) (bs : List UInt8) : List UInt8 := tagged 88 (beB i 4 ++ bs)
def frameS (i : Nat) (bs : List UInt8) : List UInt8 := beB bs.length 4 ++ jsumS i bs ++ bs
def Bytes4 (W : World) (i : Nat) (e : Ending) (w' : World) : Prop := ∃ A c, e = .returned (.slice A 4 c) ∧ Own w' 5 1 (.slice A 4 c) 4 ((beB i 4).map byteV) ∧ (∀ k, OwnB (.slice A 4 c) k → W.heap.size ≤ k) ∧ Upd NoF W w'
end

section
open Go.RowKit

def parseStep (bs : List UInt8) (a idx : Nat) : Option (List UInt8 × Nat) :=
  if a + 12 ≤ bs.length then
    if be ((bs.drop a).take 4) ≤ 65536 ∧ a + 12 + be ((bs.drop a).take 4) ≤ bs.length then
      if (bs.drop (a + 4)).take 8 = jsumS idx ((bs.drop (a + 12)).take (be ((bs.drop a).take 4))) then some ((bs.drop (a + 12)).take (be ((bs.drop a).take 4)), a + 12 + be ((bs.drop a).take 4)) else none
    else none
  else none
def parseF (bs : List UInt8) : Nat → List (List UInt8) → Nat → List (List UInt8) × Nat
  | 0, l, a => (l, a)
  | f + 1, l, a => match parseStep bs a l.length with
    | none => (l, a)
    | some (r, a') => parseF bs f (l ++ [r]) a'
def parseS (bs : List UInt8) : List (List UInt8) × Nat := parseF bs (bs.length + 1) [] 0

theorem parseStep_le {bs : List UInt8} {a idx : Nat} {r : List UInt8} {a' : Nat} (h : parseStep bs a idx = some (r, a')) : a + 12 ≤ a' ∧ a' ≤ bs.length ∧ r.length ≤ 65536 ∧ a' = a + 12 + r.length := by
  unfold parseStep at h
  split at h
  · split at h
    · split at h
      · injection h with h
        injection h with h1 h2
        subst h1 h2
        simp
        omega
      · cases h
    · cases h
  · cases h

/-- Where the parse stands. -/
def PAt (bs : List UInt8) (l : List (List UInt8)) (a : Nat) : Prop := ∃ f, parseF bs f l a = parseS bs ∧ bs.length < f + a ∧ a ≤ bs.length ∧ l.length * 12 ≤ a
theorem PAt.start (bs : List UInt8) : PAt bs [] 0 := ⟨bs.length + 1, rfl, by omega, by omega, by simp⟩
theorem PAt.stop {bs : List UInt8} {l : List (List UInt8)} {a : Nat} (h : PAt bs l a) (hs : parseStep bs a l.length = none) : parseS bs = (l, a) := by
  obtain ⟨f, h1, h2, h3, _⟩ := h
  obtain ⟨f, rfl⟩ : ∃ k, f = k + 1 := ⟨f - 1, by omega⟩
  rw [← h1, parseF, hs]
theorem PAt.next {bs : List UInt8} {l : List (List UInt8)} {a a' : Nat} {r : List UInt8} (h : PAt bs l a) (hs : parseStep bs a l.length = some (r, a')) : PAt bs (l ++ [r]) a' := by
  obtain ⟨f, h1, h2, h3, h4⟩ := h
  obtain ⟨f, rfl⟩ : ∃ k, f = k + 1 := ⟨f - 1, by omega⟩
  rw [parseF, hs] at h1
  obtain ⟨e1, e2, _⟩ := parseStep_le hs
  exact ⟨f, h1, by omega, e2, by simp; omega⟩

/-! ### lists of records in memory -/
def RecsV (w : World) (v : Value) (l : List (List UInt8)) (vs : List Value) : Prop :=
  Own w 52 1 v l.length vs ∧ ∀ (i : Nat) b, l[i]? = some b → ∃ u, vs[i]? = some u ∧ Own w 5 1 u b.length (b.map byteV)
def RecsF (v : Value) (vs : List Value) : Nat → Prop := fun k => OwnB v k ∨ ∃ u ∈ vs, OwnB u k
def RecsAt (w : World) (v : Value) (l : List (List UInt8)) (F : Nat → Prop) : Prop := ∃ vs : List Value, RecsV w v l vs ∧ F = RecsF v vs

section
variable {w w' : World} {v : Value} {l : List (List UInt8)} {F G : Nat → Prop}
theorem RecsAt.nil (w : World) : RecsAt w (.slice none 0 0) [] NoF := by
  refine ⟨[], ⟨Own.nil _ _ _, fun i b h => (by cases h)⟩, ?_⟩
  funext k
  simp [NoF, RecsF, OwnB, Value.ownBlock]
theorem RecsAt.upd (h : RecsAt w v l F) (hu : Upd G w w') (hG : ∀ k, F k → ¬ G k) : RecsAt w' v l F := by
  obtain ⟨vs, ⟨h1, h2⟩, rfl⟩ := h
  refine ⟨vs, ⟨h1.upd hu (fun k hk => hG k (.inl hk)), fun i b hb => ?_⟩, rfl⟩
  obtain ⟨u, e1, e2⟩ := h2 i b hb
  exact ⟨u, e1, e2.upd hu (fun k hk => hG k (.inr ⟨u, List.mem_of_getElem? e1, hk⟩))⟩
theorem RecsAt.lt (h : RecsAt w v l F) {k : Nat} (hk : F k) : k < w.heap.size := by
  obtain ⟨vs, ⟨h1, h2⟩, rfl⟩ := h
  rcases hk with hk | ⟨u, hu, hk⟩
  · exact h1.lt hk
  · obtain ⟨i, hi, rfl⟩ := List.mem_iff_getElem.1 hu
    have hl := h1.1
    obtain ⟨u', e1, e2⟩ := h2 i _ (List.getElem?_eq_getElem (by omega))
    rw [List.getElem?_eq_getElem hi] at e1
    injection e1 with e1
    rw [e1] at hk
    exact e2.lt hk
theorem RecsAt.form (h : RecsAt w v l F) : ∃ A c, v = .slice A l.length c ∧ l.length ≤ c ∧ c ≤ maxLen := by
  obtain ⟨vs, ⟨h1, h2⟩, rfl⟩ := h
  obtain ⟨A, c, e, h3, h4, _⟩ := h1.rd
  exact ⟨A, c, e, h3, h4⟩
theorem RecsAt.own (h : RecsAt w v l F) : ∃ vs, Own w 52 1 v l.length vs := by
  obtain ⟨vs, ⟨h1, _⟩, _⟩ := h
  exact ⟨vs, h1⟩
/-- One record. -/
theorem RecsAt.get {A : Option Addr} {n c : Nat} (h : RecsAt w (.slice A n c) l F) {i : Nat} {b : List UInt8} (hb : l[i]? = some b) : ∃ g Au cu, A = some ⟨g, 0, none⟩ ∧ w.cell? ⟨g, i, none⟩ = some (.slice Au b.length cu) ∧ Own w 5 1 (.slice Au b.length cu) b.length (b.map byteV) := by
  obtain ⟨vs, ⟨h1, h2⟩, rfl⟩ := h
  have hlt : i < l.length := (List.getElem?_eq_some_iff.1 hb).1
  obtain ⟨u, e1, e2⟩ := h2 i b hb
  obtain ⟨Au, cu, rfl⟩ := e2.form
  rcases h1.2 with ⟨_, e⟩ | ⟨g, cap, cur, e, _⟩
  · omega
  · injection e with e
    subst e
    obtain ⟨A', c', e, _, _, _, hx⟩ := h1.rd
    obtain ⟨g', o, e', hx⟩ := hx (by omega)
    injection e with e
    rw [← e] at e'
    injection e' with e'
    injection e' with e1' e2'
    subst e1' e2'
    exact ⟨g, Au, cu, rfl, by have := hx i _ e1; simpa using this, e2⟩
end

/-- One more record. -/
theorem RecsV.push {w w0 w1 : World} {A A' Au : Option Addr} {c c' cu : Nat} {l : List (List UInt8)} {vs : List Value} {b : List UInt8} (h : RecsV w (.slice A l.length c) l vs) (h0 : Upd NoF w w0) (hu : Own w0 5 1 (.slice Au b.length cu) b.length (b.map byteV))
    (ho : Own w1 52 1 (.slice A' (l.length + 1) c') (l.length + 1) (vs ++ [.slice Au b.length cu])) (hup : Upd (OwnB (.slice A l.length c)) w0 w1) (hn : ∀ k, OwnB (.slice A' (l.length + 1) c') k → OwnB (.slice A l.length c) k ∨ w0.heap.size ≤ k) :
    RecsV w1 (.slice A' (l.length + 1) c') (l ++ [b]) (vs ++ [.slice Au b.length cu]) ∧ ∀ k, RecsF (.slice A' (l.length + 1) c') (vs ++ [.slice Au b.length cu]) k → RecsF (.slice A l.length c) vs k ∨ OwnB (.slice Au b.length cu) k ∨ w0.heap.size ≤ k := by
  obtain ⟨h1, h2⟩ := h
  have hO := h1.upd h0 (fun _ _ h => h)
  have keep : ∀ {u : Value} {n : Nat} {xs : List Value}, Own w0 5 1 u n xs → Own w1 5 1 u n xs := fun {u n xs} hx => hx.upd hup (fun k hk e => by
    rcases hO.2 with ⟨e1, _⟩ | ⟨g', cap, cur, e1, hb, _⟩
    · rw [e1] at e; simp [OwnB, Value.ownBlock] at e
    · rw [e1] at e
      simp [OwnB, Value.ownBlock] at e
      subst e
      exact hx.blk_ne hb (by decide) hk)
  refine ⟨⟨by rw [List.length_append, List.length_singleton]; exact ho, fun i x hx => ?_⟩, fun k hk => ?_⟩
  · have hl := h1.1
    rcases Nat.lt_or_ge i l.length with hlt | hge
    · rw [List.getElem?_append_left hlt] at hx
      obtain ⟨u, e1, e2⟩ := h2 i x hx
      exact ⟨u, by rw [List.getElem?_append_left (by omega)]; exact e1, keep (e2.upd h0 (fun _ _ h => h))⟩
    · rw [List.getElem?_append_right hge] at hx
      have hi0 : i - l.length = 0 := by
        have := (List.getElem?_eq_some_iff.1 hx).1
        simp at this
        omega
      rw [hi0] at hx
      simp at hx
      subst hx
      exact ⟨_, by rw [List.getElem?_append_right (by omega)]; simp [show i - vs.length = 0 by omega], keep hu⟩
  · rcases hk with hk | ⟨u, hu', hk⟩
    · rcases hn k hk with e | e
      · exact .inl (.inl e)
      · exact .inr (.inr e)
    · rcases List.mem_append.1 hu' with e | e
      · exact .inl (.inr ⟨u, e, hk⟩)
      · simp at e
        subst e
        exact .inr (.inl hk)
end

section
open Go.RowKit

def ParsePost (w : World) (bs : List UInt8) (e : Ending) (w' : World) : Prop :=
  ∃ v F, e = .returned (.tuple #[v, .int .i64 ((parseS bs).2 : Int)]) ∧ RecsAt w' v (parseS bs).1 F ∧ (∀ k, F k → w.heap.size ≤ k) ∧ Upd NoF w w'
def PRel (w : World) (bs : List UInt8) (out at_ : Value) (wr : World) : Prop :=
  ∃ (l : List (List UInt8)) (a : Nat) (A : Option Addr) (c : Nat) (vs : List Value), out = .slice A l.length c ∧ at_ = .int .i64 a ∧ PAt bs l a ∧ RecsV wr (.slice A l.length c) l vs ∧ (∀ k, RecsF (.slice A l.length c) vs k → w.heap.size ≤ k) ∧ Upd NoF w wr
theorem ParsePost.mk {w wr w' : World} {bs : List UInt8} {l : List (List UInt8)} {a : Nat} {A : Option Addr} {c : Nat} {vs : List Value} (hP : PAt bs l a) (hs : parseStep bs a l.length = none) (hV : RecsV wr (.slice A l.length c) l vs) (hF : ∀ k, RecsF (.slice A l.length c) vs k → w.heap.size ≤ k) (hU : Upd NoF w wr) (hu : Upd NoF wr w') :
    ParsePost w bs (.returned (.tuple #[.slice A l.length c, .int .i64 (a : Int)])) w' := by
  unfold ParsePost
  rw [hP.stop hs]
  exact ⟨_, _, rfl, RecsAt.upd ⟨vs, hV, rfl⟩ hu (fun _ _ h => h), hF, hU.trans hu (fun _ _ h => h)⟩
end

section
open Go.RowKit

def BytesAt (w : World) (r : List UInt8) (k : Nat) (e : Ending) (w' : World) : Prop := ∃ A c, e = .returned (.tuple #[.slice A r.length c, .int .i64 (k : Int), .bool true]) ∧ NewO w r A c w'
def NoBytes (w : World) (e : Ending) (w' : World) : Prop := e = .returned (.tuple #[.slice none 0 0, .int .i64 0, .bool false]) ∧ w = w'
end

section
open Go.RowKit

/-- Bytes that are being collected, beside a block that is kept. -/
def Acc (w0 w : World) (g : Nat) (t : TypeId) (cs : Array Value) (bs : List UInt8) (n : Nat) (A : Option Addr) (c : Nat) : Prop :=
  n = bs.length ∧ Own w 5 1 (.slice A n c) n (bs.map byteV) ∧ (∀ k, OwnB (.slice A n c) k → w0.heap.size ≤ k ∧ k ≠ g) ∧ Upd NoF w0 w ∧ Blk w g t cs
theorem Acc.push {w0 w wa w' : World} {g : Nat} {t : TypeId} {cs : Array Value} {bs ys : List UInt8} {n m : Nat} {A A' : Option Addr} {c c' : Nat} (h : Acc w0 w g t cs bs n A c) (ha : Upd NoF w wa) (hm : m = ys.length)
    (ho : Own w' 5 1 (.slice A' (n + m) c') (n + m) (bs.map byteV ++ ys.map byteV)) (hu : Upd (OwnB (.slice A n c)) wa w') (hn : ∀ k, OwnB (.slice A' (n + m) c') k → OwnB (.slice A n c) k ∨ wa.heap.size ≤ k) : Acc w0 w' g t cs (bs ++ ys) (n + m) A' c' := by
  obtain ⟨h1, h2, h3, h4, h5⟩ := h
  have hs := ha.size
  have hs0 := h4.size
  have hl := h5.lt
  refine ⟨by rw [List.length_append, h1, hm], by rw [List.map_append]; exact ho, fun k hk => ?_, (h4.trans ha (fun _ _ h => h)).trans hu (fun k hk e => by have := (h3 k e).1; omega), hu.blk (ha.blk h5 (fun h => h)) (fun e => (h3 _ e).2 rfl)⟩
  rcases hn k hk with e | e
  · exact h3 k e
  · omega
theorem Acc.call {w0 w w' : World} {g : Nat} {t : TypeId} {cs : Array Value} {bs : List UInt8} {n n' : Nat} {A A' : Option Addr} {c c' : Nat} {bs' : List UInt8} (h : Acc w0 w g t cs bs n A c) (hn : NewO w bs' A' c' w') (hl : n' = bs'.length) : Acc w0 w' g t cs bs' n' A' c' := by
  obtain ⟨h1, h2, h3, h4, h5⟩ := h
  obtain ⟨k1, k2, k3⟩ := hn
  subst hl
  have hs := h4.size
  have hl := h5.lt
  exact ⟨rfl, k1, fun k hk => by have := k2 k hk; omega, h4.trans k3 (fun _ _ h => h), k3.blk h5 (fun h => h)⟩
theorem Acc.rd {w0 w : World} {g : Nat} {t : TypeId} {cs : Array Value} {bs : List UInt8} {n : Nat} {A : Option Addr} {c : Nat} (h : Acc w0 w g t cs bs n A c) : Rd w 1 (.slice A n c) bs.length (bs.map byteV) := by
  have := h.2.1.rd
  rw [← h.1]
  exact this
theorem Acc.new {w0 w : World} {g : Nat} {t : TypeId} {cs : Array Value} {bs : List UInt8} {n : Nat} {A : Option Addr} {c : Nat} (h : Acc w0 w g t cs bs n A c) : NewO w0 bs A c w := by
  obtain ⟨h1, h2, h3, h4, h5⟩ := h
  subst h1
  exact ⟨h2, fun k hk => (h3 k hk).1, h4⟩
theorem range_blk {w : World} {g : Nat} {t : TypeId} {cs : List Value} (h : Blk w g t cs.toArray) : w.rangeAt g 0 cs := fun j v hv => by
  rw [h.cell]
  simpa using hv
end

section
open Go.RowKit
attribute [local go_sem ↓] Go.wp_at_zero Go.wp_at_succ

theorem name_spell {l : List UInt8} (h : l.length = 8) : ∃ b0 b1 b2 b3 b4 b5 b6 b7, l = [b0, b1, b2, b3, b4, b5, b6, b7] := by
  obtain ⟨b0, b1, b2, b3, b4, b5, b6, b7, r, rfl⟩ := eight l (by omega)
  obtain rfl : r = [] := by simpa using h
  exact ⟨b0, b1, b2, b3, b4, b5, b6, b7, rfl⟩
theorem retb {a b : Bool} (h : a = b) : Ending.returned (.bool a) = .returned (.bool b) := by rw [h]
end

section
open Go.RowKit

def five (v : VoteS) : List Int := [v.slot, v.round, v.kind, v.signer, v.choice]
def LsRel (a b : VoteS) (W : World) (i : Value) (wr : World) : Prop := ∃ k q : Nat, k ≤ 5 ∧ i = .int .i64 k ∧ (∀ j, j < k → (five a)[j]? = (five b)[j]?) ∧ wr = W.drewN q
end

section
open Go.ChangeShapes Go.WideShapes Go.ChangeAt Go.RowKit

theorem own : ownKnob Tryz.prog.godebug = none := by kernel_rfl
theorem laid : laidOutB Tryz.prog = true := by kernel_rfl

theorem trodAll_below {H : Type} {enc : TypeId × Value → H} {W W' : World} (hb : Below W.heap.size W W') : ∀ {ts : List TypeId} {vs : List Value} {ds : List (DataW H)} {ps : List MemPlace},
    DataW.TrodAll enc Tryz.prog W 0 (fun _ => true) true ts vs ds ps → (∀ x ∈ ps, x.block < W.heap.size) → (∀ t ∈ ts, Tryz.prog.readableRec t = true ∧ t < Tryz.prog.types.size) →
    DataW.TrodAll enc Tryz.prog W' 0 (fun b => decide (b < W.heap.size)) true ts vs ds ps
  | [], vs, ds, ps, h, _, _ => by
    obtain ⟨rfl, rfl, rfl⟩ := trodAll_nil h
    exact trodAll_mk0
  | t :: ts, vs, ds, ps, h, hlt, hr => by
    obtain ⟨v, vs0, d, ds0, p, ps0, rfl, rfl, rfl, h0, r0⟩ := trodAll_cons h
    obtain ⟨hr1, hr2⟩ := hr t (by simp)
    exact trodAll_cons_mk (Below.trod laid hr1 hr2 h0 hb (fun x hx => hlt x (by simp [hx]))) (trodAll_below hb r0 (fun x hx => hlt x (by simp [hx])) (fun t ht => hr t (by simp [ht])))

/-- The row's post of a statement that returned true and turned nothing that was there. -/
theorem law_post {H : Type} {enc : TypeId × Value → H} {f : Func} {s : ChangeSpec} {W W' : World} {args : Array Value} {ds gs : List (DataW H)} {before : List MemPlace} (hv : s.vars = []) (hres : f.resultTypes = #[4])
    (hr : ∀ t ∈ f.params.toList, Tryz.prog.readableRec t = true ∧ t < Tryz.prog.types.size) (hfn : (s.fn H (ds ++ gs)).results = [.lit (.bool true)] ∧ (s.fn H (ds ++ gs)).args = ds ∧ (s.fn H (ds ++ gs)).vars = [])
    (hW : DataW.Whole enc Tryz.prog f.params.toList s.vars false W args.toList ds gs before) (hb : Below W.heap.size W W') : s.post enc Tryz.prog f false true false false W args (.bool true) W' := by
  have hW0 := hW
  have hlt : ∀ p ∈ before, p.block < W.heap.size := fun p hp => hW.lt p hp
  obtain ⟨p, q, hA, hV, rfl, _, _⟩ := hW
  rw [hv] at hV
  obtain ⟨rfl, rfl⟩ := trodVars_none hV
  refine ⟨ds, [], p ++ [], [], p, [], hW0, ?_, ?_, ?_, World.keptBut_mono (fun x hx => ⟨hx, .inr (.inl (by simpa using hx))⟩) (hb.frame (· ∈ p ++ [])), fun h => by cases h⟩
  · rw [hfn.1, hres]
    exact trodAll_cons_mk (shut_bool Tryz.underlying4 true) trodAll_mk0
  · rw [hfn.2.1]
    exact trodAll_below hb hA (fun x hx => hlt x (by simp [hx])) hr
  · rw [hv, hfn.2.2]
    exact rfl
end
end Go.Proofs.YtengcmfdfmnacaaGreat
