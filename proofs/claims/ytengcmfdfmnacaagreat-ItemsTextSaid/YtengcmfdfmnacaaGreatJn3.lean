/- What the functions of package disk compute, on plain data. No condition. A disk of which one file is turned, made or removed. No condition. New, Off, Arm, Read, Append of package disk; bytes.Clone. No condition. Append of package disk. Condition: no file grows beyond 2^40 bytes. Append of package disk to a file that is not there yet. Condition: not more than 2^40 bytes. change of package disk, for whatever closure. No condition. Sync, Truncate, Remove, Rename of package disk. No condition. Truncate of package disk. No condition. The functions of package disk, each against its plain specification. Conditions: no name longer than memory, no file beyond 2^40 bytes. Sync, Truncate, Remove, Rename, Read, Arm, Off of package disk, each against its plain specification. Conditions: no name longer than memory. Files and the choices of package disk. Condition: fewer than 2^43 files. The crash, file by file. No condition. Crash of package disk: what one file comes to. No condition. Crash of package disk. Condition: fewer than 2^43 files. The sanity check of the statements on the disk returns true. No condition. The reference disk in memory: find, fails. No condition. The reference disk: drop, put. No condition. The hash functions of package hash and of the reference: Tagged. Conditions: sizes. Numbers as bytes: AppendUint and Uint of package codec and of the reference. Conditions: sizes. Numbers as bytes: AppendUint of package codec and of the reference. Conditions: sizes. Numbers as bytes: Uint of package codec and of the reference. Conditions: sizes. -/
import GoSem.ClaimWide
import Derived.Test.YtengcmfdfmnacaaGreatJn2
import Derived.StillTailTactics
import Derived.Deep.QuietTactic
import Derived.BigQuiet
import Derived.RegionTactic
import Derived.Lib.SliceRun
import Derived.Laws.BitsAllLaws
import Derived.Lib.SlBytesConst
import Derived.Laws.IdiomStrings
import Derived.Shelf.Bytes.SlSmallAll
import Derived.Laws.MakeOwn
namespace Go.Proofs.YtengcmfdfmnacaaGreat
section
open Go

structure FSt where
  c : List UInt8
  dur : Nat
abbrev FS := List (List UInt8 × FSt)
structure DSt where
  fs : FS
  off : Bool
  armed : Bool
  left : Nat

def getF (fs : FS) (nm : List UInt8) : Option FSt := (fs.find? (fun p => p.1 == nm)).map (·.2)
def setF (nm : List UInt8) (f : FSt) (fs : FS) : FS := fs.map (fun p => if p.1 == nm then (p.1, f) else p)
def insF (p : List UInt8 × FSt) : FS → FS
  | [] => [p]
  | y :: l => if bytesBefore p.1 y.1 then p :: y :: l else y :: insF p l
def delF (nm : List UInt8) (fs : FS) : FS := fs.filter (fun p => !(p.1 == nm))

/-- Whether one more write goes through. -/
def wrB (armed : Bool) (left : Nat) : Bool := !(armed && left == 0)
def wrL (armed : Bool) (left : Nat) : Nat := if armed then left - 1 else left
def wrS (s : DSt) : DSt := { s with off := s.off || !wrB s.armed s.left, left := wrL s.armed s.left }

def sRead (s : DSt) (nm : List UInt8) : List UInt8 × Int :=
  if nm = [] then ([], 1) else if s.off then ([], 103) else
  match getF s.fs nm with
  | none => ([], 6)
  | some f => (f.c, 0)

def withFile (nm : List UInt8) (fs : FS) : FS := match getF fs nm with | none => insF (nm, ⟨[], 0⟩) fs | some _ => fs
def sAppend (s : DSt) (nm b : List UInt8) : Int × DSt :=
  if nm = [] then (1, s) else if s.off then (103, s) else
  let f := (getF s.fs nm).getD ⟨[], 0⟩
  let s1 := { s with fs := setF nm ⟨f.c ++ b, f.dur⟩ (withFile nm s.fs) }
  (if wrB s.armed s.left then 0 else 103, wrS s1)

def sChange (s : DSt) (nm : List UInt8) (g : FS → FSt → FS) : Int × DSt :=
  if nm = [] then (1, s) else if s.off then (103, s) else
  match getF s.fs nm with
  | none => (6, s)
  | some f => if wrB s.armed s.left then (0, { wrS s with fs := g s.fs f }) else (103, wrS s)

def sSync (s : DSt) (nm : List UInt8) : Int × DSt := sChange s nm fun fs f => setF nm ⟨f.c, f.c.length⟩ fs
def cutAt (size : Int) (n : Nat) : Nat := min size.toNat n
def sTruncate (s : DSt) (nm : List UInt8) (size : Int) : Int × DSt := sChange s nm fun fs f => setF nm ⟨f.c.take (cutAt size f.c.length), min f.dur (cutAt size f.c.length)⟩ fs
def sRename (s : DSt) (nm to : List UInt8) : Int × DSt := if to = [] then (1, s) else sChange s nm fun fs f => insF (to, f) (delF to (delF nm fs))
def sRemove (s : DSt) (nm : List UInt8) : Int × DSt := sChange s nm fun fs _ => delF nm fs
def sArm (s : DSt) (n : Int) : DSt := { s with armed := true, left := n.toNat }

/-- The next pick modulo n. -/
def below (picks : List Int) (n : Nat) : Nat × List Int := match picks with | [] => (0, []) | p :: ps => ((p % (n : Int)).toNat, ps)
def flipLast (c : List UInt8) : List UInt8 := c.modify (c.length - 1) (fun b => b ^^^ 255)
def zeroLast (k : Nat) (c : List UInt8) : List UInt8 := c.take (c.length - k) ++ List.replicate k 0
def damaged (dm kept : Nat) (c : List UInt8) : List UInt8 := if dm = 1 ∧ 0 < kept then flipLast c else if dm = 2 then zeroLast (min kept 8) c else c
def crashF (picks : List Int) (f : FSt) : FSt × List Int :=
  if f.c.length - f.dur = 0 then (f, picks) else
  let k := below picks (f.c.length - f.dur + 1)
  let m := below k.2 3
  (⟨damaged m.1 k.1 (f.c.take (f.dur + k.1)), f.dur + k.1⟩, m.2)
def crashL : List Int → FS → FS
  | _, [] => []
  | ps, (nm, f) :: l => (nm, (crashF ps f).1) :: crashL (crashF ps f).2 l
def sCrash (s : DSt) (picks : List Int) : DSt := { fs := crashL picks s.fs, off := false, armed := false, left := 0 }
def sNew : DSt := ⟨[], false, false, 0⟩
end

section
open Go.RowKit Go.Maps

def setR (r' : FRec) (L : List FRec) : List FRec := L.map (fun x => if x.fb = r'.fb then r' else x)

theorem pw_ne {α : Type} {R : α → α → Prop} {L : List α} (h : L.Pairwise R) (hs : ∀ a b, R a b → R b a) {x y : α} (hx : x ∈ L) (hy : y ∈ L) (hne : x ≠ y) : R x y := by
  induction L with
  | nil => cases hx
  | cons a l ih =>
    rw [List.pairwise_cons] at h
    rcases List.mem_cons.1 hx with rfl | hx'
    · rcases List.mem_cons.1 hy with rfl | hy'
      · exact absurd rfl hne
      · exact h.1 y hy'
    · rcases List.mem_cons.1 hy with rfl | hy'
      · exact hs _ _ (h.1 x hx')
      · exact ih h.2 hx' hy'

section
variable {w w' : World} {d mb : Nat} {off armed : Bool} {left : Nat} {L : List FRec}

theorem mem_setR {r' x : FRec} (h : x ∈ setR r' L) : x = r' ∨ (x ∈ L ∧ x.fb ≠ r'.fb) := by
  obtain ⟨y, hy, rfl⟩ := List.mem_map.1 h
  by_cases he : y.fb = r'.fb
  · simp [he]
  · right
    simp only [if_neg he]
    exact ⟨hy, he⟩

end
end

section
open Go.RowKit Go.Maps

theorem byte_info : (Tryz.prog.info? 5).map (fun i => (i.zero, i.size, i.bytes)) = some (some (.int .u8 0), 1, 1) := by kernel_rfl

/-- A new slice of bytes. -/
def NewB (w : World) (bs : List UInt8) (v : Value) (w' : World) : Prop :=
  Own w' 5 1 v bs.length (bs.map byteV) ∧ (∀ k, OwnB v k → w.heap.size ≤ k) ∧ Upd NoF w w'

theorem own_of_ownsRow {w : World} {base : Nat} {e : TypeId} {size n : Nat} {v : Value} {xs : List Value} (h : w.ownsRow base e size v n xs) : Own w e size v n xs ∧ ∀ k, OwnB v k → base ≤ k := by
  refine ⟨⟨h.1, ?_⟩, fun k hk => ?_⟩
  · rcases h.2 with h | ⟨g, cap, cur, rfl, _, hg, h1, h2, h3, h4⟩
    · exact .inl h
    · exact .inr ⟨g, cap, cur, rfl, hg, h1, h2, Nat.le_of_eq h3.symm, h4⟩
  · exact (h.lt k hk).1

def ClonePost (w : World) (bs : List UInt8) (e : Ending) (w' : World) : Prop := ∃ A c, e = .returned (.slice A bs.length c) ∧ NewB w bs (.slice A bs.length c) w'

theorem clone_any (v : Value) (bs : List UInt8) (w : World) (h : Rd w 1 v bs.length (bs.map byteV)) (hl : bs.length ≤ 140737488355328) : Calls Tryz.prog 52 #[v] w (ClonePost w bs) := by
  obtain ⟨A, c, rfl, hn, hc, hlen, hA⟩ := h
  cases A with
  | none =>
    have h0 : bs = [] := by
      cases bs with
      | nil => rfl
      | cons b l =>
        obtain ⟨g, o, h, _⟩ := hA (by simp)
        cases h
    subst h0
    refine (Tryz.bytes_Clone_nil 0 c w).mono ?_
    rintro e w' ⟨rfl, rfl⟩
    exact ⟨none, 0, rfl, Own.nil _ _ _, fun k hk => by simp [OwnB, Value.ownBlock] at hk, Upd.refl _ _⟩
  | some a =>
    refine (Tryz.bytes_Clone_at a bs.length c (bs.map fun b => (b.toNat : Int)) w (by simp) hl ?_).mono ?_
    · intro i hi
      obtain ⟨g, o, ha, hcell⟩ := hA (by omega)
      injection ha with ha
      subst ha
      have hadd : (⟨g, o, none⟩ : Addr).add i = ⟨g, o + i, none⟩ := by unfold Addr.add; split <;> simp_all
      rw [hadd, hcell i (byteV bs[i]) (by simp [hi])]
      simp [hi]
    · rintro e w' ⟨v', rfl, hrow, _, hb⟩
      obtain ⟨h1, h2⟩ := own_of_ownsRow hrow
      obtain ⟨A', c', rfl⟩ := h1.form
      refine ⟨A', c', rfl, ?_, h2, Upd.of_below hb (fun i hi h => by omega)⟩
      have : (bs.map fun b => (b.toNat : Int)).map (Value.int .u8) = bs.map byteV := by simp [byteV]
      rw [← this]
      exact h1

section
variable {w : World} {d mb : Nat} {off armed : Bool} {left : Nat} {L : List FRec}

/-- A file's content as it is read: new memory. -/
def ReadPost (w : World) (bs : List UInt8) (e : Ending) (w' : World) : Prop := ∃ A c, e = retPE (.slice A bs.length c) 0 ∧ NewB w bs (.slice A bs.length c) w'
end
end

section
open Go.RowKit Go.Maps

abbrev retE (e : Int) : Ending := .returned (.int .i64 e)
def codeW (armed : Bool) (left : Nat) : Int := if wrB armed left then 0 else 103

section
variable {w : World} {d mb : Nat} {off armed : Bool} {left : Nat} {L : List FRec}

end
end

section
open Go.RowKit Go.Maps

section
variable {w : World} {d mb : Nat} {off armed : Bool} {left : Nat} {L : List FRec}

end
end

section
open Go.RowKit Go.Maps

section
variable {w : World} {d mb : Nat} {off armed : Bool} {left : Nat} {L : List FRec}

end
end

section
open Go.RowKit Go.Maps

section
variable {w : World} {d mb : Nat} {off armed : Bool} {left : Nat} {L : List FRec}

theorem mem_delR {nm : List UInt8} {x : FRec} (h : x ∈ delR nm L) : x ∈ L ∧ x.nm ≠ nm := by
  obtain ⟨h1, h2⟩ := List.mem_filter.1 h
  exact ⟨h1, by simpa using h2⟩

end
end

section
open Go.RowKit Go.Maps

section
variable {w : World} {d mb : Nat} {off armed : Bool} {left : Nat} {L : List FRec}

end
end

section
open Go.RowKit Go.Maps

def absR (r : FRec) : List UInt8 × FSt := (r.nm, ⟨r.c, r.dur⟩)
def absL (L : List FRec) : FS := L.map absR

section
variable {w : World} {d : Nat} {s : DSt} {F : Nat → Prop}

end
end

section
open Go.RowKit Go.Maps

section
variable {w : World} {d mb : Nat} {s : DSt} {F : Nat → Prop} {L : List FRec} {off armed : Bool} {left : Nat}

/-- What Read returns: new memory. -/
def BytesErr (w : World) (r : List UInt8 × Int) (e : Ending) (w' : World) : Prop := ∃ A c, e = retPE (.slice A r.1.length c) r.2 ∧ NewB w r.1 (.slice A r.1.length c) w'

theorem NewB.nil (w : World) : NewB w [] (.slice none 0 0) w := ⟨Own.nil _ _ _, fun k hk => by simp [OwnB, Value.ownBlock] at hk, Upd.refl _ _⟩

end
end

section
open Go.RowKit Go.Maps

/-- A new slice of strings. -/
def NewS (w : World) (ss : List (List UInt8)) (v : Value) (w' : World) : Prop :=
  Own w' 9 1 v ss.length (ss.map strV) ∧ (∀ k, OwnB v k → w.heap.size ≤ k) ∧ Upd NoF w w'
def StrsPost (w : World) (ss : List (List UInt8)) (e : Ending) (w' : World) : Prop := ∃ A c, e = .returned (.slice A ss.length c) ∧ NewS w ss (.slice A ss.length c) w'

section
variable {w : World} {d mb : Nat} {s : DSt} {F : Nat → Prop} {L : List FRec} {off armed : Bool} {left : Nat}

theorem RdI.cut {F : Nat → Prop} {w : World} {A : Option Addr} {c : Nat} {p : Int} {ps : List Int} (h : RdI F w (.slice A (ps.length + 1) c) (p :: ps)) {g o : Nat} (hA : A = some ⟨g, o, none⟩) (A' : Option Addr) (hA' : c ≠ 1 → A' = some ⟨g, o + 1, none⟩) :
    RdI F w (.slice A' ps.length (c - 1)) ps := by
  intro w' hu
  obtain ⟨A0, c0, he, hn, hc, hl, hx⟩ := h w' hu
  injection he with e1 e2 e3
  subst e1 e3
  refine ⟨A', c - 1, rfl, by simp at hn; omega, by omega, by simp, fun h0 => ?_⟩
  obtain ⟨g1, o1, e, hcell⟩ := hx (by simp)
  rw [hA] at e
  injection e with e
  injection e with e1 e2
  subst e1 e2
  refine ⟨g, o + 1, hA' (by simp at hn; omega), fun j u hu => ?_⟩
  have := hcell (j + 1) u (by simpa using hu)
  rw [show o + 1 + j = o + (j + 1) by omega]
  exact this

end
end

section
open Go

def crashRun : List Int → FS → Nat → FS × List Int
  | ps, fs, 0 => (fs, ps)
  | ps, [], _ + 1 => ([], ps)
  | ps, (nm, f) :: l, i + 1 => ((nm, (crashF ps f).1) :: (crashRun (crashF ps f).2 l i).1, (crashRun (crashF ps f).2 l i).2)
end

section
open Go.RowKit Go.Maps

section
variable {w : World} {d mb : Nat} {L : List FRec} {off armed : Bool} {left : Nat}

end
end

section
open Go.RowKit Go.Maps

section
variable {w0 wr : World} {d mb cb : Nat} {L L' : List FRec} {picks : List Int} {k : Nat}

end
end

section
open Go.RowKit Go.Maps

/-- 'string(b)'. -/
theorem run_str {w : World} {v : Value} {bs : List UInt8} (h : Rd w 1 v bs.length (bs.map byteV)) : (convert 52 9 v).run Tryz.prog w = .ok (strV bs) w := by
  obtain ⟨A, c, rfl, hn, hc, hl, hA⟩ := h
  cases bs with
  | nil =>
    have := run_convert_bytes_zero (P := Tryz.prog) w 52 5 Tryz.underlying52 Tryz.underlying5 A c 9 Tryz.underlying9
    rw [List.length_nil, this]
    rfl
  | cons b l =>
    obtain ⟨g, o, rfl, hcell⟩ := hA (by simp)
    refine run_convert_bytes_back (P := Tryz.prog) w 52 9 5 ⟨g, o, none⟩ c (b :: l) Tryz.underlying52 Tryz.underlying5 Tryz.underlying9 ?_
    intro j hj
    have hadd : (⟨g, o, none⟩ : Addr).add j = ⟨g, o + j, none⟩ := by unfold Addr.add; split <;> simp_all
    rw [hadd]
    exact hcell j _ (by simp only [List.getElem?_map]; rw [List.getElem?_eq_getElem hj]; rfl)

/-! ### a disk since the world w0, when its blocks were those of F0 -/
section
variable {w0 w w' : World} {F0 : Nat → Prop} {d : Nat} {s : DSt}
end
end

section
open Go.RowKit Go.Maps

/-- A file of the reference disk. -/
structure RRec where
  nm : List UInt8
  cv : Value
  c : List UInt8
  dur : Nat

def cellsR (R : List RRec) : List Value := R.flatMap (fun r => [strV r.nm, r.cv, .int .i64 r.dur])

theorem cellsR_at {R : List RRec} {i : Nat} {r : RRec} (h : R[i]? = some r) : (cellsR R)[i * 3]? = some (strV r.nm) ∧ (cellsR R)[i * 3 + 1]? = some r.cv ∧ (cellsR R)[i * 3 + 2]? = some (.int .i64 r.dur) := by
  induction R generalizing i with
  | nil => cases h
  | cons x R ih =>
    cases i with
    | zero =>
      simp at h
      subst h
      simp [cellsR]
    | succ i =>
      have := ih (i := i) (by simpa using h)
      simp only [cellsR, List.flatMap_cons] at this ⊢
      refine ⟨?_, ?_, ?_⟩
      · rw [show (i + 1) * 3 = 3 + i * 3 by omega, List.getElem?_append_right (by simp)]; simpa using this.1
      · rw [show (i + 1) * 3 + 1 = 3 + (i * 3 + 1) by omega, List.getElem?_append_right (by simp)]; simpa using this.2.1
      · rw [show (i + 1) * 3 + 2 = 3 + (i * 3 + 2) by omega, List.getElem?_append_right (by simp)]; simpa using this.2.2

def refFoot (m : Nat) (lv : Value) (R : List RRec) : Nat → Prop := fun k => k = m ∨ OwnB lv k ∨ ∃ r ∈ R, OwnB r.cv k

section
variable {w w' : World} {m : Nat} {off armed : Bool} {left : Nat} {lv : Value} {R : List RRec}

def idxR (R : List RRec) (nm : List UInt8) : Int := match R.findIdx? (fun r => r.nm == nm) with | some i => i | none => -1

end
end

section
open Go.RowKit Go.Maps

section
variable {w w' : World} {m : Nat} {off armed : Bool} {left : Nat} {lv : Value} {R : List RRec}

/-- The part of a slice before k, and the part from k on. -/
theorem Rd.upto {size n c k : Nat} {A : Option Addr} {xs : List Value} (h : Rd w size (.slice A n c) n xs) (hk : k ≤ n) : Rd w size (.slice A k c) k (xs.take (k * size)) := by
  obtain ⟨A', c', e, hn, hc, hl, hx⟩ := h
  injection e with e1 _ e3
  subst e1 e3
  refine ⟨A, c, rfl, by omega, hc, ?_, fun h0 => ?_⟩
  · rw [List.length_take, hl]; exact Nat.min_eq_left (Nat.mul_le_mul_right _ hk)
  · obtain ⟨g, o, rfl, hx'⟩ := hx (by omega)
    refine ⟨g, o, rfl, fun j u hu => hx' j u ?_⟩
    rw [List.getElem?_take] at hu
    split at hu
    · exact hu
    · cases hu
theorem Rd.from_ {size n c k g o : Nat} {xs : List Value} (h : Rd w size (.slice (some ⟨g, o, none⟩) n c) n xs) (hk : k ≤ n) (A' : Option Addr) (hA : k < n → A' = some ⟨g, o + k * size, none⟩) : Rd w size (.slice A' (n - k) (c - k)) (n - k) (xs.drop (k * size)) := by
  obtain ⟨A0, c', e, hn, hc, hl, hx⟩ := h
  injection e with e1 _ e3
  subst e1 e3
  refine ⟨A', c - k, rfl, by omega, by omega, ?_, fun h0 => ?_⟩
  · rw [List.length_drop, hl, Nat.sub_mul]
  · obtain ⟨g', o', e, hx'⟩ := hx (by omega)
    injection e with e
    injection e with e1 e2
    subst e1 e2
    refine ⟨g, o + k * size, hA (by omega), fun j u hu => ?_⟩
    rw [Nat.add_assoc]
    exact hx' _ u (by rw [← hu, List.getElem?_drop])

end
end

section
open Go.RowKit

theorem Rd.keep {w w' : World} {size n : Nat} {v : Value} {xs : List Value} (h : Rd w size v n xs) (hu : Upd NoF w w') : Rd w' size v n xs := by
  obtain ⟨A', c', e, h1, h2, h3, hx⟩ := h
  exact ⟨A', c', e, h1, h2, h3, fun h0 => by
    obtain ⟨g, o, e', hc⟩ := hx h0
    exact ⟨g, o, e', fun j u hu' => hu.cell (hc j u hu') (fun h => h)⟩⟩
end

section
open Go.RowKit

/-- A new slice of bytes that owns its block. -/
def NewO (w : World) (bs : List UInt8) (A : Option Addr) (c : Nat) (w' : World) : Prop := Own w' 5 1 (.slice A bs.length c) bs.length (bs.map byteV) ∧ (∀ k, OwnB (.slice A bs.length c) k → w.heap.size ≤ k) ∧ Upd NoF w w'
def BytesPost (w : World) (bs : List UInt8) (e : Ending) (w' : World) : Prop := ∃ A c, e = .returned (.slice A bs.length c) ∧ NewO w bs A c w'

theorem run_make_bytes (w : World) (n m : Nat) (l c : Int) (hl : l = n) (hc : c = m) (hm : m ≤ 1099511627776) (hn : n ≤ m) : ∃ w' cs, (Instr.makeSlice 52 (.int .i64 l) (.int .i64 c)).run Tryz.prog w = .ok (.slice (some ⟨w.heap.size, 0, none⟩) n m) w' ∧ Blk w' w.heap.size 5 cs ∧ cs.size = m ∧ Upd NoF w w' := by
  obtain ⟨i1, hi1, hy0, hy1, hy2⟩ := info_parts byte_info
  subst hl hc
  have h := run_make (P := Tryz.prog) w 52 5 i1 _ Tryz.underlying52 hi1 hy0 .i64 .i64 n m (by omega) (by omega) (by rw [hy2]; omega) (by omega)
  refine ⟨_, _, h, Blk.new w _ _, ?_, (Upd.refl NoF w).alloc _⟩
  rw [size_madeCells, hy1]
  simp

theorem run_copy0 (w : World) (g o dl dc : Nat) (A : Option Addr) (c : Nat) (ty : TypeId) : (Builtin.copy_ #[52, 52] ty #[.slice (some ⟨g, o, none⟩) dl dc, .slice A 0 c]).run Tryz.prog w = .ok (.int .i64 0) w := by
  obtain ⟨i1, hi1, hy0, hy1, hy2⟩ := info_parts byte_info
  cases A <;> simp [Builtin.copy_, run_underlying Tryz.underlying52, Builtin.lenOf, Builtin.firstCells, sizeOf, typeInfo, hi1, storeCells, loadCells, loadCellsFrom, goInt]

/-- 'make' and 'copy' at once. -/
theorem make_copy {w : World} {v : Value} {bs : List UInt8} (h : Rd w 1 v bs.length (bs.map byteV)) (n : Nat) (c : Int) (hc : c = ((bs.length + n : Nat) : Int)) (hm : bs.length + n ≤ 1099511627776) : ∃ w1 w2,
    (Instr.makeSlice 52 (.int .i64 (bs.length : Int)) (.int .i64 c)).run Tryz.prog w = .ok (.slice (some ⟨w.heap.size, 0, none⟩) bs.length (bs.length + n)) w1 ∧
    (Builtin.copy_ #[52, 52] 3 #[.slice (some ⟨w.heap.size, 0, none⟩) bs.length (bs.length + n), v]).run Tryz.prog w1 = .ok (.int .i64 (bs.length : Int)) w2 ∧
    NewO w bs (some ⟨w.heap.size, 0, none⟩) (bs.length + n) w2 := by
  obtain ⟨w1, cs, h1, h2, h3, h4⟩ := run_make_bytes w bs.length (bs.length + n) bs.length c rfl hc hm (by omega)
  have hN : ∀ k, OwnB (.slice (some ⟨w.heap.size, 0, none⟩) bs.length (bs.length + n)) k → w.heap.size ≤ k := fun k hk => by simp [OwnB, Value.ownBlock] at hk; omega
  rcases Nat.eq_zero_or_pos bs.length with h0 | h0
  · obtain rfl : bs = [] := List.eq_nil_of_length_eq_zero h0
    obtain ⟨A, c', rfl, _⟩ := h
    refine ⟨w1, w1, h1, run_copy0 _ _ _ _ _ _ _ _, ⟨by simp, .inr ⟨w.heap.size, _, cs, rfl, h2, by omega, by unfold maxLen; omega, by omega, by simp⟩⟩, hN, h4⟩
  · obtain ⟨w2, k1, k2, k3⟩ := run_copy_bytes (dl := bs.length) (dc := bs.length + n) (o := 0) h2 (h.keep h4) h0 bs.length (by simp only [Nat.min_def]; split <;> omega) (by omega) 3
    refine ⟨w1, w2, h1, k1, ⟨by simp, .inr ⟨w.heap.size, _, _, rfl, k2, by omega, by unfold maxLen; omega, ?_, ?_⟩⟩, hN, h4.trans k3 (fun k hk e => by have e : k = w.heap.size := e; omega)⟩
    · simp; omega
    · simp

set_option maxRecDepth 100000 in
theorem extended_any {w : World} {v : Value} {bs : List UInt8} (h : Rd w 1 v bs.length (bs.map byteV)) (n : Nat) (hm : bs.length + n ≤ 1099511627776) : Calls Tryz.prog 98 #[v, .int .i64 (n : Int)] w (BytesPost w bs) := by
  obtain ⟨w1, w2, h1, h2, h3⟩ := make_copy h n ((bs.length : Int) + (n : Int)) (by omega) hm
  obtain ⟨A, c, rfl, hlc, hcm, _⟩ := id h
  have H3 := Lib.hid h3
  clear h h3
  go_enter Tryz.func98, Tryz.ntmps98
  go_wp2
  go_ret
  exact ⟨_, _, rfl, H3.out⟩

def AuRel (w : World) (bs : List UInt8) (v : Int) (n : Nat) (out i : Value) (wr : World) : Prop := ∃ (r : Nat) (xs : List UInt8) (A : Option Addr) (c : Nat), r ≤ n ∧ i = .int .i64 ((r : Int) - 1) ∧ out = .slice A xs.length c ∧ NewO w xs A c wr ∧ xs ++ beB v r = bs ++ beB v n

theorem NewO.push {w wr w1 : World} {xs : List UInt8} {A A' : Option Addr} {c c' : Nat} {b : UInt8} {o : Obj} (h : NewO w xs A c wr) (ho : Own w1 5 1 (.slice A' (xs.length + 1) c') (xs.length + 1) (xs.map byteV ++ [byteV b])) (hu : Upd (OwnB (.slice A xs.length c)) (wr.alloc o) w1)
    (hn : ∀ k, OwnB (.slice A' (xs.length + 1) c') k → OwnB (.slice A xs.length c) k ∨ (wr.alloc o).heap.size ≤ k) : NewO w (xs ++ [b]) A' c' w1 := by
  obtain ⟨h1, h2, h3⟩ := h
  have hs := h3.size
  refine ⟨by rw [List.length_append, List.length_singleton, List.map_append]; exact ho, fun k hk => ?_, (h3.alloc o).trans hu (fun k hk e => by have := h2 k e; omega)⟩
  rw [List.length_append, List.length_singleton] at hk
  rcases hn k hk with e | e
  · exact h2 k e
  · simp at e; omega
end

section
open Go.RowKit

set_option maxRecDepth 100000 in
set_option maxHeartbeats 4000000 in
theorem cAppendUint_any {w : World} {b : Value} {bs : List UInt8} (h : Rd w 1 b bs.length (bs.map byteV)) (v : Int) (_hv : 0 ≤ v) (n : Nat) (hn : n ≤ 8) (hm : bs.length + 8 ≤ 1099511627776) : Calls Tryz.prog 59 #[b, u64V v, .int .i64 (n : Int)] w (BytesPost w (bs ++ beB v n)) := by
  obtain ⟨A, c, rfl, hlc, hcm, _⟩ := id h
  have CE := Lib.hid (extended_any h n (by omega))
  obtain ⟨i1, hi1, hy0, hy1, hy2⟩ := info_parts byte_info
  have m1 : max (n : Int) 0 = n := by omega
  have m2 : min (n : Int) 8 = n := by omega
  clear h
  go_enter Tryz.func59, Tryz.ntmps59
  go_wp2_with fail
  refine CE.out.mono ?_
  rintro e w1 ⟨A1, c1, rfl, hN1⟩
  have N1 := Lib.hid hN1
  clear hN1 m1 m2
  go_wp2
  go_loopw [7, 8] (fun out i wr => AuRel w bs v n out i wr) (fun _ i _ => (intOf i + 1).toNat)
  case atStart => exact ⟨n, bs, A1, c1, Nat.le_refl _, rfl, rfl, N1.out, rfl⟩
  case round =>
    obtain ⟨r, xs, A2, c2, hr, hi, rfl, hN, hE⟩ := hrel
    have hlen : xs.length + r = bs.length + n := by
      have := congrArg List.length hE
      simpa [beB_len] using this
    have HN := Lib.hid hN
    have HE := Lib.hid hE
    cases r with
    | zero =>
      obtain rfl := hi
      obtain rfl : xs = bs ++ beB v n := by simpa [beB] using HE.out
      have t1 : decide ((0 : Int) ≤ ((0 : Nat) : Int) - 1) = false := by decide
      clear hN hE hlen
      go_wp2
      go_ret
      exact ⟨A2, c2, rfl, HN.out⟩
    | succ r =>
      obtain rfl : _ = Value.int .i64 (r : Int) := hi.trans (by congr 1; omega)
      have t1 : decide ((0 : Int) ≤ (r : Int)) = true := by simp
      have e1 : (0 : Int) ≤ 8 * (r : Int) := by omega
      have e2 : (8 * (r : Int)).toNat = 8 * r := by omega
      have e3 : min (8 * r) 64 = 8 * r := by omega
      have HBV := Lib.hid (show Value.int .u8 (IntKind.u8.wrap (v / 2 ^ (8 * r))) = byteV (byteAt v r) from wrap_byte _)
      have hxl : xs.length ≤ 1099511627776 := by omega
      clear hN hE hi hlen
      go_wp2_with (at_builtin; refine wpList_append_to _ rfl (.tmp 21) (.tmp 27) 52 rfl 5 i1 _ 1 1 Tryz.underlying52 hi1 hy0 hy1 hy2 rfl (.slice A2 xs.length c2) xs.length (xs.map byteV) rfl (HN.out.1.upd ((Upd.refl NoF wr).alloc _) (fun _ _ h => h)) (.slice (some ⟨wr.heap.size, 0, none⟩) 1 1) 1 [byteV (byteAt v r)] rfl (Rd.of_blk (Blk.new wr _ _) (by omega) (by unfold maxLen; omega) rfl (by intro j u hu; rw [← HBV.out, IntKind.wrap_u8'] at hu; cases j with | zero => simpa using hu | succ j => simp at hu)) (by simp [byteV, Value.oneCell']) (by unfold maxLen; omega) (by omega) ?_; intro A3 c3 w3 hown3 hupd3 hnew3; have O3 := Lib.hid hown3; have V3 := Lib.hid hupd3; have W3 := Lib.hid hnew3; clear hown3 hupd3 hnew3)
      go_roundw
      case rel =>
        refine ⟨r, xs ++ [byteAt v r], A3, c3, by omega, by go_num, by simp, HN.out.push O3.out V3.out W3.out, ?_⟩
        rw [← HE.out]
        simp [beB]
      case measure => simp [intOf]

set_option maxRecDepth 100000 in
set_option maxHeartbeats 4000000 in
theorem r1AppendUint_any {w : World} {b : Value} {bs : List UInt8} (h : Rd w 1 b bs.length (bs.map byteV)) (v : Int) (_hv : 0 ≤ v) (n : Nat) (hn : n ≤ 8) (hm : bs.length + 8 ≤ 1099511627776) : Calls Tryz.prog 96 #[b, u64V v, .int .i64 (n : Int)] w (BytesPost w (bs ++ beB v n)) := by
  obtain ⟨A, c, rfl, hlc, hcm, _⟩ := id h
  have H := Lib.hid h
  obtain ⟨i1, hi1, hy0, hy1, hy2⟩ := info_parts byte_info
  have m1 : max (0 : Int) (n : Int) = n := by omega
  have m2 : min (n : Int) 8 = n := by omega
  clear h
  go_enter Tryz.func96, Tryz.ntmps96
  go_wp2_with (at_builtin; refine wpList_append_new _ rfl (.tmp 9) (.tmp 10) 52 rfl 5 i1 _ 1 1 Tryz.underlying52 hi1 hy0 hy1 hy2 rfl (.slice (some ⟨w.heap.size, 0, none⟩) 0 0) rfl (Own.fresh w _ _) (.slice A bs.length c) bs.length (bs.map byteV) rfl (H.out.keep ((Upd.refl NoF w).alloc _)) (bytes_oneCell _) (by unfold maxLen; omega) (by omega) ?_; intro A1 c1 w1 hown1 hupd1 hnew1; have N1 := Lib.hid (show NewO w bs A1 c1 w1 from ⟨hown1, fun k hk => (by rcases hnew1 k hk with e | e; (simp [OwnB, Value.ownBlock] at e; omega); (simp at e; omega)), ((Upd.refl NoF w).alloc _).trans hupd1 (fun k hk e => by simp [OwnB, Value.ownBlock] at e; omega)⟩); clear hown1 hupd1 hnew1)
  clear m1 m2
  go_loopw [7, 8] (fun out i wr => AuRel w bs v n out i wr) (fun _ i _ => (intOf i + 1).toNat)
  case atStart => exact ⟨n, bs, A1, c1, Nat.le_refl _, rfl, rfl, N1.out, rfl⟩
  case round =>
    obtain ⟨r, xs, A2, c2, hr, hi, rfl, hN, hE⟩ := hrel
    have hlen : xs.length + r = bs.length + n := by
      have := congrArg List.length hE
      simpa [beB_len] using this
    have HN := Lib.hid hN
    have HE := Lib.hid hE
    cases r with
    | zero =>
      obtain rfl := hi
      obtain rfl : xs = bs ++ beB v n := by simpa [beB] using HE.out
      have t1 : decide ((0 : Int) ≤ ((0 : Nat) : Int) - 1) = false := by decide
      clear hN hE hlen
      go_wp2
      go_ret
      exact ⟨A2, c2, rfl, HN.out⟩
    | succ r =>
      obtain rfl : _ = Value.int .i64 (r : Int) := hi.trans (by congr 1; omega)
      have t1 : decide ((0 : Int) ≤ (r : Int)) = true := by simp
      have e1 : (0 : Int) ≤ 8 * (r : Int) := by omega
      have e2 : (8 * (r : Int)).toNat = 8 * r := by omega
      have e3 : min (8 * r) 64 = 8 * r := by omega
      have HBV := Lib.hid (show Value.int .u8 (IntKind.u8.wrap (v / 2 ^ (8 * r))) = byteV (byteAt v r) from wrap_byte _)
      have hxl : xs.length ≤ 1099511627776 := by omega
      clear hN hE hi hlen
      go_wp2_with (at_builtin; refine wpList_append_to _ rfl (.tmp 20) (.tmp 27) 52 rfl 5 i1 _ 1 1 Tryz.underlying52 hi1 hy0 hy1 hy2 rfl (.slice A2 xs.length c2) xs.length (xs.map byteV) rfl (HN.out.1.upd ((Upd.refl NoF wr).alloc _) (fun _ _ h => h)) (.slice (some ⟨wr.heap.size, 0, none⟩) 1 1) 1 [byteV (byteAt v r)] rfl (Rd.of_blk (Blk.new wr _ _) (by omega) (by unfold maxLen; omega) rfl (by intro j u hu; rw [← HBV.out, IntKind.wrap_u8'] at hu; cases j with | zero => simpa using hu | succ j => simp at hu)) (by simp [byteV, Value.oneCell']) (by unfold maxLen; omega) (by omega) ?_; intro A3 c3 w3 hown3 hupd3 hnew3; have O3 := Lib.hid hown3; have V3 := Lib.hid hupd3; have W3 := Lib.hid hnew3; clear hown3 hupd3 hnew3)
      go_roundw
      case rel =>
        refine ⟨r, xs ++ [byteAt v r], A3, c3, by omega, by go_num, by simp, HN.out.push O3.out V3.out W3.out, ?_⟩
        rw [← HE.out]
        simp [beB]
      case measure => simp [intOf]
end

section
open Go.RowKit

set_option maxRecDepth 100000 in
theorem follow_any {w : World} {v : Value} {bs : List UInt8} (h : Rd w 1 v bs.length (bs.map byteV)) (a n : Nat) (ha : a ≤ 4611686018427387904) (hn : n ≤ 4611686018427387904) : Calls Tryz.prog 191 #[v, .int .i64 (a : Int), .int .i64 (n : Int)] w fun e w' => e = .returned (.bool (decide (a + n ≤ bs.length))) ∧ w = w' := by
  have hlm := h.le
  unfold maxLen at hlm
  obtain ⟨A, c, rfl, hlc, hcm, _⟩ := id h
  clear h
  have t0 : decide ((0 : Int) ≤ (a : Int)) = true := by simp
  by_cases h1 : a ≤ bs.length
  · have t1 : decide ((a : Int) ≤ (bs.length : Int)) = true := by simpa using h1
    have t1' : decide (a ≤ bs.length) = true := by simpa using h1
    have E := Lib.hid (show decide ((n : Int) ≤ (bs.length : Int) - (a : Int)) = decide (a + n ≤ bs.length) by
      by_cases h : a + n ≤ bs.length
      · simp [h]; omega
      · simp [h]; omega)
    generalize decide (a + n ≤ bs.length) = z at E ⊢
    go_enter Tryz.func191, Tryz.ntmps191
    go_wp2
    go_ret
    exact ⟨congrArg (fun z => Ending.returned (.bool z)) E.out, rfl⟩
  · have t1 : decide ((a : Int) ≤ (bs.length : Int)) = false := by simp; omega
    have t1' : decide (a ≤ bs.length) = false := by simp; omega
    have E := Lib.hid (show false = decide (a + n ≤ bs.length) by simp; omega)
    generalize decide (a + n ≤ bs.length) = z at E ⊢
    go_enter Tryz.func191, Tryz.ntmps191
    go_wp2
    go_ret
    exact ⟨congrArg (fun z => Ending.returned (.bool z)) E.out, rfl⟩

def UiRel (l : List UInt8) (x i : Value) : Prop := ∃ k : Nat, k ≤ l.length ∧ i = .int .i64 k ∧ x = u64V ((be (l.take k) : Nat) : Int)

theorem pow7 (l : List UInt8) (k : Nat) (h : k < 8) : be (l.take k) < 72057594037927936 := by
  have h1 := be_take_lt l k
  have h2 : (256 : Nat) ^ k ≤ 256 ^ 7 := Nat.pow_le_pow_right (by omega) (by omega)
  omega

section
variable {w : World} {v : Value} {bs : List UInt8}

set_option maxRecDepth 100000 in
set_option maxHeartbeats 2000000 in
theorem cUint_no (h : Rd w 1 v bs.length (bs.map byteV)) (a n : Nat) (ha : a ≤ 4611686018427387904) (h1 : 1 ≤ n) (h8 : n ≤ 8) (hno : bs.length < a + n) : Calls Tryz.prog 162 #[v, .int .i64 (a : Int), .int .i64 (n : Int)] w fun e w' => e = .returned (.tuple #[u64V 0, .bool false]) ∧ w = w' := by
  have CF := follow_any h a n ha (by omega)
  rw [show decide (a + n ≤ bs.length) = false by simp; omega] at CF
  have HF := Lib.hid CF
  obtain ⟨A, c, rfl, hlc, hcm, _⟩ := id h
  have t1 : decide ((n : Int) < 1) = false := by simp; omega
  have t2 : decide ((8 : Int) < (n : Int)) = false := by simp; omega
  have t2' : decide (8 < n) = false := by simp; omega
  clear h CF
  go_enter Tryz.func162, Tryz.ntmps162
  go_wp2_with fail
  refine HF.out.mono ?_
  rintro e w' ⟨rfl, rfl⟩
  go_wp2
  go_ret2
  exact ⟨rfl, rfl⟩

set_option maxRecDepth 100000 in
set_option maxHeartbeats 2000000 in
theorem cUint_yes (h : Rd w 1 v bs.length (bs.map byteV)) (a n : Nat) (h1 : 1 ≤ n) (h8 : n ≤ 8) (hyes : a + n ≤ bs.length) (hm : bs.length ≤ 4611686018427387904) : Calls Tryz.prog 162 #[v, .int .i64 (a : Int), .int .i64 (n : Int)] w fun e w' => e = .returned (.tuple #[u64V ((be ((bs.drop a).take n) : Nat) : Int), .bool true]) ∧ w = w' := by
  have CF := follow_any h a n (by omega) (by omega)
  rw [show decide (a + n ≤ bs.length) = true by simp; omega] at CF
  have HF := Lib.hid CF
  obtain ⟨A, c, rfl, hlc, hcm, _⟩ := id h
  unfold maxLen at hcm
  obtain ⟨g, o, rfl, hc⟩ := rd_cells h (by omega)
  have HC := Lib.hid hc
  have t1 : decide ((n : Int) < 1) = false := by simp; omega
  have t2 : decide ((8 : Int) < (n : Int)) = false := by simp; omega
  have t2' : decide (8 < n) = false := by simp; omega
  have b1 : (0 : Int) ≤ a := by omega
  have b2 : (a : Int) ≤ (a : Int) + n := by omega
  have b3 : (a : Int) + n ≤ c := by omega
  have b4 : ¬ c = a := by omega
  have b5 : ((a : Int) + n).toNat = a + n := by omega
  obtain ⟨l, hl⟩ : ∃ l, (bs.drop a).take n = l := ⟨_, rfl⟩
  have hll : l.length = n := by rw [← hl]; simp; omega
  have hlc2 : ∀ (j : Nat) b, l[j]? = some b → w.cell? ⟨g, o + a + j, none⟩ = some (byteV b) := fun j b hb => by
    rw [Nat.add_assoc]
    refine hc (a + j) b ?_
    rw [← hl, List.getElem?_take] at hb
    split at hb
    · rw [List.getElem?_drop] at hb; exact hb
    · cases hb
  have HLC := Lib.hid hlc2
  have HLL := Lib.hid hll
  rw [hl]
  have e0 : a + n - a = n := by omega
  clear h CF hc hl hlc2 hll
  go_enter Tryz.func162, Tryz.ntmps162
  go_wp2_with fail
  refine HF.out.mono ?_
  rintro e w' ⟨rfl, rfl⟩
  go_wp2
  go_loop [8, 31] (fun x i => UiRel l x i) (fun _ i => n - (intOf i).toNat)
  case atStart => exact ⟨0, Nat.zero_le _, rfl, by simp [be]⟩
  case round =>
    obtain ⟨k, hk, rfl, rfl⟩ := hrel
    have hln := HLL.out
    by_cases hlt : k < n
    · obtain ⟨b, hb⟩ : ∃ b, l[k]? = some b := ⟨_, List.getElem?_eq_getElem (by omega)⟩
      have q := HLC.out k b hb
      have HE := Lib.hid (be_take_succ l k b hb)
      have HO := Lib.hid (or_byte (be (l.take k)) b (pow7 l k (by omega)))
      have s1 : decide ((k : Int) < n) = true := by simpa using hlt
      have s2 : (0:Int) ≤ k := by omega
      have s3 : (k:Int) < n := by omega
      generalize be (l.take k) = u at HE HO ⊢
      clear hb hln
      go_wp2
      go_round
      case rel =>
        refine ⟨k + 1, by have := HLL.out; omega, by go_num, ?_⟩
        rw [HE.out, wrap_u64_byte, HO.out]
      case measure => simp [intOf]; omega
    · have s1 : decide ((k : Int) < n) = false := by simp; omega
      have E := Lib.hid (show l.take k = l from List.take_of_length_le (by omega))
      rw [E.out]
      clear hln
      go_wp2
      go_ret2
      exact ⟨rfl, rfl⟩

end
end
end Go.Proofs.YtengcmfdfmnacaaGreat
