/- The small functions of package disk: write, open, existing. No condition. What the functions of package disk compute, on plain data. No condition. A disk of which one file is turned, made or removed. No condition. New, Off, Arm, Read, Append of package disk; bytes.Clone. No condition. Append of package disk. Condition: no file grows beyond 2^40 bytes. Append of package disk to a file that is not there yet. Condition: not more than 2^40 bytes. change of package disk, for whatever closure. No condition. Sync, Truncate, Remove, Rename of package disk. No condition. Truncate of package disk. No condition. -/
import Derived.Test.YtbgificdilpdcaaGreatJn1
import Derived.Outline
import GoSem.ClaimWide
import Derived.StillTailTactics
import Derived.Deep.QuietTactic
import Derived.BigQuiet
import Derived.RegionTactic
namespace Go.Proofs.YtbgificdilpdcaaGreat
section
open Go.RowKit Go.Maps

abbrev retPE (v : Value) (e : Int) : Ending := .returned (.tuple #[v, .int .i64 e])

theorem strV_empty : strV [] = .string ⟨#[]⟩ := rfl

theorem write_on (d : Nat) (m : Value) (o : Bool) (l : Int) (w : World) (h : Blk w d 79 #[m, .bool o, .bool false, .int .i64 l]) :
    Calls Tryz.prog 48 #[ptrV d] w fun e w' => e = .returned (.bool true) ∧ w = w' := by
  have h2 : w.cell? ⟨d, 2, none⟩ = some (.bool false) := h.cell 2
  clear h
  unfold ptrV
  go_enter Tryz.func48, Tryz.ntmps48
  go_wp2
  go_ret
  exact ⟨rfl, rfl⟩

theorem write_out (d : Nat) (m : Value) (o : Bool) (w : World) (h : Blk w d 79 #[m, .bool o, .bool true, .int .i64 0]) :
    Calls Tryz.prog 48 #[ptrV d] w fun e w' => e = .returned (.bool false) ∧ w.setCell ⟨d, 1, none⟩ (.bool true) = w' := by
  have h1 : w.cell? ⟨d, 1, none⟩ = some (.bool o) := h.cell 1
  have h2 : w.cell? ⟨d, 2, none⟩ = some (.bool true) := h.cell 2
  have h3 : w.cell? ⟨d, 3, none⟩ = some (.int .i64 0) := h.cell 3
  have f1 : w.frozen? ⟨d, 1, none⟩ = false := h.frozen 1
  clear h
  unfold ptrV
  go_enter Tryz.func48, Tryz.ntmps48
  go_wp2
  go_ret
  exact ⟨rfl, rfl⟩

theorem write_down (d : Nat) (m : Value) (o : Bool) (l : Nat) (w : World) (h : Blk w d 79 #[m, .bool o, .bool true, .int .i64 l]) (hl : 0 < l) (hm : l ≤ 9223372036854775807) :
    Calls Tryz.prog 48 #[ptrV d] w fun e w' => e = .returned (.bool true) ∧ w.setCell ⟨d, 3, none⟩ (.int .i64 ((l - 1 : Nat) : Int)) = w' := by
  obtain ⟨k, rfl⟩ : ∃ k, l = k + 1 := ⟨l - 1, by omega⟩
  have h2 : w.cell? ⟨d, 2, none⟩ = some (.bool true) := h.cell 2
  have h3 : w.cell? ⟨d, 3, none⟩ = some (.int .i64 ((k : Int) + 1)) := by simpa using h.cell 3
  have f3 : w.frozen? ⟨d, 3, none⟩ = false := h.frozen 3
  have hne : (((k : Int) + 1) == 0) = false := by simp; omega
  clear h
  unfold ptrV
  go_enter Tryz.func48, Tryz.ntmps48
  go_wp2
  go_ret
  refine ⟨rfl, ?_⟩
  simp

section
variable {w : World} {d mb : Nat} {off armed : Bool} {left : Nat} {L : List FRec}

theorem open_arg (v : Value) (w : World) (hv : v = .pointer none ∨ ∃ d, v = ptrV d) : Calls Tryz.prog 47 #[v, strV []] w fun e w' => e = retPE (.pointer none) 1 ∧ w = w' := by
  rw [strV_empty]
  rcases hv with rfl | ⟨d, rfl⟩
  · go_enter Tryz.func47, Tryz.ntmps47
    go_wp2
    go_ret2
    exact ⟨rfl, rfl⟩
  · unfold ptrV
    go_enter Tryz.func47, Tryz.ntmps47
    go_wp2
    go_ret2
    exact ⟨rfl, rfl⟩

theorem open_nil (s : ByteArray) (w : World) : Calls Tryz.prog 47 #[.pointer none, .string s] w fun e w' => e = retPE (.pointer none) 1 ∧ w = w' := by
  go_enter Tryz.func47, Tryz.ntmps47
  go_wp2
  go_ret2
  exact ⟨rfl, rfl⟩

theorem open_off (h : DiskL w d mb true armed left L) (nm : List UInt8) (hn : nm.isEmpty = false) : Calls Tryz.prog 47 #[ptrV d, strV nm] w fun e w' => e = retPE (.pointer none) 103 ∧ w = w' := by
  have h1 : w.cell? ⟨d, 1, none⟩ = some (.bool true) := h.head.cell 1
  clear h
  go_enter Tryz.func47, Tryz.ntmps47
  go_wp2
  go_ret2
  exact ⟨rfl, rfl⟩

/-- What the map holds under a name. -/
def atV (L : List FRec) (nm : List UInt8) : Value := match L.find? (fun r => r.nm == nm) with | some r => ptrV r.fb | none => .pointer none

theorem open_on (h : DiskL w d mb false armed left L) (nm : List UInt8) (hn : nm.isEmpty = false) (hm : nm.length ≤ maxLen) : Calls Tryz.prog 47 #[ptrV d, strV nm] w fun e w' => e = retPE (atV L nm) 0 ∧ w = w' := by
  have h0 : w.cell? ⟨d, 0, none⟩ = some (.map (some mb)) := h.head.cell 0
  have h1 : w.cell? ⟨d, 1, none⟩ = some (.bool false) := h.head.cell 1
  have hl : (Instr.lookup 77 (.map (some mb)) (strV nm) false).run Tryz.prog w = .ok (atV L nm) w := h.look hm
  clear h
  go_enter Tryz.func47, Tryz.ntmps47
  go_wp2
  go_ret2
  exact ⟨rfl, rfl⟩

theorem existing_arg (d : Nat) (w : World) : Calls Tryz.prog 85 #[ptrV d, strV []] w fun e w' => e = retPE (.pointer none) 1 ∧ w = w' := by
  go_enter Tryz.func85, Tryz.ntmps85
  go_wp2_with (go_at_call 47; refine (open_arg _ _ (.inr ⟨d, rfl⟩)).mono ?_; rintro e w' ⟨rfl, rfl⟩)
  go_ret2
  exact ⟨rfl, rfl⟩

theorem existing_off (h : DiskL w d mb true armed left L) (nm : List UInt8) (hn : nm.isEmpty = false) : Calls Tryz.prog 85 #[ptrV d, strV nm] w fun e w' => e = retPE (.pointer none) 103 ∧ w = w' := by
  have H := Lib.hid h
  clear h
  go_enter Tryz.func85, Tryz.ntmps85
  go_wp2_with (go_at_call 47; refine (open_off H.out _ hn).mono ?_; rintro e w' ⟨rfl, rfl⟩)
  go_ret2
  exact ⟨rfl, rfl⟩

theorem existing_no (h : DiskL w d mb false armed left L) (nm : List UInt8) (hn : nm.isEmpty = false) (hm : nm.length ≤ maxLen) (hf : L.find? (fun r => r.nm == nm) = none) :
    Calls Tryz.prog 85 #[ptrV d, strV nm] w fun e w' => e = retPE (.pointer none) 6 ∧ w = w' := by
  have ho : Calls Tryz.prog 47 #[ptrV d, strV nm] w fun e w' => e = retPE (.pointer none) 0 ∧ w = w' := by
    have := open_on h nm hn hm
    unfold atV at this
    rwa [hf] at this
  have H := Lib.hid ho
  clear h ho hf
  go_enter Tryz.func85, Tryz.ntmps85
  go_wp2_with (go_at_call 47; refine H.out.mono ?_; rintro e w' ⟨rfl, rfl⟩)
  go_ret2
  exact ⟨rfl, rfl⟩

theorem existing_yes (h : DiskL w d mb false armed left L) (nm : List UInt8) (hn : nm.isEmpty = false) (hm : nm.length ≤ maxLen) (r : FRec) (hf : L.find? (fun r => r.nm == nm) = some r) :
    Calls Tryz.prog 85 #[ptrV d, strV nm] w fun e w' => e = retPE (ptrV r.fb) 0 ∧ w = w' := by
  have ho : Calls Tryz.prog 47 #[ptrV d, strV nm] w fun e w' => e = retPE (ptrV r.fb) 0 ∧ w = w' := by
    have := open_on h nm hn hm
    unfold atV at this
    rwa [hf] at this
  have H := Lib.hid ho
  clear h ho hf
  go_enter Tryz.func85, Tryz.ntmps85
  go_wp2_with (go_at_call 47; refine H.out.mono ?_; rintro e w' ⟨rfl, rfl⟩)
  go_ret2
  exact ⟨rfl, rfl⟩
end
end

section
open Go

structure FSt where
  c : List UInt8
  dur : Nat
abbrev FS := List (List UInt8 × FSt)
structure DSt where
  fs : FS
  off : Bool
  armed : Bool
  left : Nat

def getF (fs : FS) (nm : List UInt8) : Option FSt := (fs.find? (fun p => p.1 == nm)).map (·.2)
def setF (nm : List UInt8) (f : FSt) (fs : FS) : FS := fs.map (fun p => if p.1 == nm then (p.1, f) else p)
def insF (p : List UInt8 × FSt) : FS → FS
  | [] => [p]
  | y :: l => if bytesBefore p.1 y.1 then p :: y :: l else y :: insF p l
def delF (nm : List UInt8) (fs : FS) : FS := fs.filter (fun p => !(p.1 == nm))

/-- Whether one more write goes through. -/
def wrB (armed : Bool) (left : Nat) : Bool := !(armed && left == 0)
def wrL (armed : Bool) (left : Nat) : Nat := if armed then left - 1 else left
def wrS (s : DSt) : DSt := { s with off := s.off || !wrB s.armed s.left, left := wrL s.armed s.left }

def sRead (s : DSt) (nm : List UInt8) : List UInt8 × Int :=
  if nm = [] then ([], 1) else if s.off then ([], 103) else
  match getF s.fs nm with
  | none => ([], 6)
  | some f => (f.c, 0)

def withFile (nm : List UInt8) (fs : FS) : FS := match getF fs nm with | none => insF (nm, ⟨[], 0⟩) fs | some _ => fs
def sAppend (s : DSt) (nm b : List UInt8) : Int × DSt :=
  if nm = [] then (1, s) else if s.off then (103, s) else
  let f := (getF s.fs nm).getD ⟨[], 0⟩
  let s1 := { s with fs := setF nm ⟨f.c ++ b, f.dur⟩ (withFile nm s.fs) }
  (if wrB s.armed s.left then 0 else 103, wrS s1)

def sChange (s : DSt) (nm : List UInt8) (g : FS → FSt → FS) : Int × DSt :=
  if nm = [] then (1, s) else if s.off then (103, s) else
  match getF s.fs nm with
  | none => (6, s)
  | some f => if wrB s.armed s.left then (0, { wrS s with fs := g s.fs f }) else (103, wrS s)

def sSync (s : DSt) (nm : List UInt8) : Int × DSt := sChange s nm fun fs f => setF nm ⟨f.c, f.c.length⟩ fs
def cutAt (size : Int) (n : Nat) : Nat := min size.toNat n
def sTruncate (s : DSt) (nm : List UInt8) (size : Int) : Int × DSt := sChange s nm fun fs f => setF nm ⟨f.c.take (cutAt size f.c.length), min f.dur (cutAt size f.c.length)⟩ fs
def sRename (s : DSt) (nm to : List UInt8) : Int × DSt := if to = [] then (1, s) else sChange s nm fun fs f => insF (to, f) (delF to (delF nm fs))
def sRemove (s : DSt) (nm : List UInt8) : Int × DSt := sChange s nm fun fs _ => delF nm fs
def sArm (s : DSt) (n : Int) : DSt := { s with armed := true, left := n.toNat }

/-- The next pick modulo n. -/
def below (picks : List Int) (n : Nat) : Nat × List Int := match picks with | [] => (0, []) | p :: ps => ((p % (n : Int)).toNat, ps)
def flipLast (c : List UInt8) : List UInt8 := c.modify (c.length - 1) (fun b => b ^^^ 255)
def zeroLast (k : Nat) (c : List UInt8) : List UInt8 := c.take (c.length - k) ++ List.replicate k 0
def damaged (dm kept : Nat) (c : List UInt8) : List UInt8 := if dm = 1 ∧ 0 < kept then flipLast c else if dm = 2 then zeroLast (min kept 8) c else c
def crashF (picks : List Int) (f : FSt) : FSt × List Int :=
  if f.c.length - f.dur = 0 then (f, picks) else
  let k := below picks (f.c.length - f.dur + 1)
  let m := below k.2 3
  (⟨damaged m.1 k.1 (f.c.take (f.dur + k.1)), f.dur + k.1⟩, m.2)
def crashL : List Int → FS → FS
  | _, [] => []
  | ps, (nm, f) :: l => (nm, (crashF ps f).1) :: crashL (crashF ps f).2 l
def sCrash (s : DSt) (picks : List Int) : DSt := { fs := crashL picks s.fs, off := false, armed := false, left := 0 }
def sNew : DSt := ⟨[], false, false, 0⟩
end

section
open Go.RowKit Go.Maps

def setR (r' : FRec) (L : List FRec) : List FRec := L.map (fun x => if x.fb = r'.fb then r' else x)

theorem pw_ne {α : Type} {R : α → α → Prop} {L : List α} (h : L.Pairwise R) (hs : ∀ a b, R a b → R b a) {x y : α} (hx : x ∈ L) (hy : y ∈ L) (hne : x ≠ y) : R x y := by
  induction L with
  | nil => cases hx
  | cons a l ih =>
    rw [List.pairwise_cons] at h
    rcases List.mem_cons.1 hx with rfl | hx'
    · rcases List.mem_cons.1 hy with rfl | hy'
      · exact absurd rfl hne
      · exact h.1 y hy'
    · rcases List.mem_cons.1 hy with rfl | hy'
      · exact hs _ _ (h.1 x hx')
      · exact ih h.2 hx' hy'

section
variable {w w' : World} {d mb : Nat} {off armed : Bool} {left : Nat} {L : List FRec}

theorem DiskL.same_of_fb (h : DiskL w d mb off armed left L) {x y : FRec} (hx : x ∈ L) (hy : y ∈ L) (he : x.fb = y.fb) : x = y :=
  Classical.byContradiction fun hne => pw_ne h.fbs (fun _ _ h e => h e.symm) hx hy hne he
theorem DiskL.same_of_nm (h : DiskL w d mb off armed left L) {x y : FRec} (hx : x ∈ L) (hy : y ∈ L) (he : x.nm = y.nm) : x = y := by
  refine Classical.byContradiction fun hne => ?_
  have := pw_ne (R := fun a b : FRec => a.nm ≠ b.nm) (h.sorted.imp (fun {a b} hb e => by rw [e, Go.WideAt.bytes_irrefl] at hb; cases hb)) (fun _ _ h e => h e.symm) hx hy hne
  exact this he

theorem mem_setR {r' x : FRec} (h : x ∈ setR r' L) : x = r' ∨ (x ∈ L ∧ x.fb ≠ r'.fb) := by
  obtain ⟨y, hy, rfl⟩ := List.mem_map.1 h
  by_cases he : y.fb = r'.fb
  · simp [he]
  · right
    simp only [if_neg he]
    exact ⟨hy, he⟩

/-- One file has turned. -/
theorem DiskL.turn (h : DiskL w d mb off armed left L) {r r' : FRec} (hr : r ∈ L) (hnm : r'.nm = r.nm) (hfb : r'.fb = r.fb) (hdur : r'.dur ≤ r'.c.length) (hlen : r'.c.length ≤ 1099511627776)
    (hu : Upd (fun k => k = r.fb ∨ OwnB r.cv k) w w') (hb : Blk w' r.fb 85 #[r'.cv, .int .i64 r'.dur]) (ho : Own w' 5 1 r'.cv r'.c.length (r'.c.map byteV))
    (hn : ∀ k, OwnB r'.cv k → OwnB r.cv k ∨ w.heap.size ≤ k) : DiskL w' d mb off armed left (setR r' L) := by
  have hf := h.file r hr
  have hw := h.own r hr
  have hd : d ≠ r.fb := h.head.unlike hf (by decide)
  have hapart : ∀ x ∈ L, x.fb ≠ r.fb → ∀ k, OwnB x.cv k → ¬ OwnB r.cv k := fun x hx hne k hk hk' => pw_ne (R := fun a b : FRec => ∀ k, OwnB a.cv k → ¬ OwnB b.cv k) h.gs (fun _ _ h k a b => h k b a) hx hr (fun e => hne (by rw [e])) k hk hk'
  refine { head := hu.blk h.head ?_, files := ?_, file := ?_, own := ?_, dur := ?_, nm := ?_, fbs := ?_, gs := ?_, lft := h.lft, len := ?_ }
  · rintro (e | e)
    · exact hd e
    · exact hw.blk_ne h.head (by decide) e
  · have e : mapD (setR r' L) = mapD L := by
      simp only [mapD, setR, List.map_map]
      congr 1
      refine List.map_congr_left (fun x hx => ?_)
      simp only [Function.comp]
      split
      · rename_i he
        have := h.same_of_fb hx hr (he.trans hfb)
        subst this
        simp [entD, hnm, hfb]
      · rfl
    rw [e, show (setR r' L).length = L.length by simp [setR]]
    refine ownsMap_upd h.files hu ?_
    rintro (e | e)
    · exact ownsMap_ne_blk h.files hf e
    · exact ownsMap_ne_own h.files hw e rfl
  · intro x hx
    rcases mem_setR hx with rfl | ⟨hx, hne⟩
    · rw [hfb]; exact hb
    · refine hu.blk (h.file x hx) ?_
      rintro (e | e)
      · exact hne (e.trans hfb.symm)
      · exact hw.blk_ne (h.file x hx) (by decide) e
  · intro x hx
    rcases mem_setR hx with rfl | ⟨hx, hne⟩
    · exact ho
    · refine (h.own x hx).upd hu (fun k hk => ?_)
      rintro (e | e)
      · exact (h.own x hx).ne_of hf (by decide) hk e
      · exact hapart x hx (fun e => hne (e.trans hfb.symm)) k hk e
  · intro x hx
    rcases mem_setR hx with rfl | ⟨hx, _⟩
    · exact hdur
    · exact h.dur x hx
  · intro x hx
    rcases mem_setR hx with rfl | ⟨hx, _⟩
    · rw [hnm]; exact h.nm r hr
    · exact h.nm x hx
  · simp only [setR]
    rw [List.pairwise_map]
    refine h.fbs.imp (fun {a b} hab => ?_)
    split <;> split
    · rename_i h1 h2; exact absurd (h1.trans h2.symm) hab
    · rename_i h1 h2; exact fun e => h2 e.symm
    · rename_i h1 h2; exact h1
    · exact hab
  · simp only [setR]
    rw [List.pairwise_map]
    refine List.Pairwise.imp_of_mem ?_ (h.fbs.and h.gs)
    rintro a b ha hb ⟨hab, hg⟩
    split <;> split
    · rename_i h1 h2; exact absurd (h1.trans h2.symm) hab
    · rename_i h1 h2
      intro k hk hk'
      rcases hn k hk with e | e
      · exact hapart b hb (fun e => h2 (e.trans hfb.symm)) k hk' e
      · have := (h.own b hb).lt hk'; omega
    · rename_i h1 h2
      intro k hk hk'
      rcases hn k hk' with e | e
      · exact hapart a ha (fun e => h1 (e.trans hfb.symm)) k hk e
      · have := (h.own a ha).lt hk; omega
    · exact hg
  · intro x hx
    rcases mem_setR hx with rfl | ⟨hx, _⟩
    · exact hlen
    · exact h.len x hx

theorem foot_setR {r r' : FRec} (hr : r ∈ L) (hfb : r'.fb = r.fb) (hn : ∀ k, OwnB r'.cv k → OwnB r.cv k ∨ w.heap.size ≤ k) {k : Nat} (hk : foot d mb (setR r' L) k) : foot d mb L k ∨ w.heap.size ≤ k := by
  rcases hk with rfl | rfl | ⟨x, hx, hk⟩
  · exact .inl (.inl rfl)
  · exact .inl (.inr (.inl rfl))
  · rcases mem_setR hx with rfl | ⟨hx, _⟩
    · rcases hk with rfl | hk
      · exact .inl (.inr (.inr ⟨r, hr, .inl hfb⟩))
      · rcases hn k hk with e | e
        · exact .inl (.inr (.inr ⟨r, hr, .inr e⟩))
        · exact .inr e
    · exact .inl (.inr (.inr ⟨x, hx, hk⟩))

/-- Only the disk's own block has turned. -/
theorem DiskL.top (h : DiskL w d mb off armed left L) {off' armed' : Bool} {left' : Nat} (hu : Upd (fun k => k = d) w w') (hb : Blk w' d 79 #[.map (some mb), .bool off', .bool armed', .int .i64 left']) (hl : left' ≤ 9223372036854775807) :
    DiskL w' d mb off' armed' left' L :=
  { head := hb, files := ownsMap_upd h.files hu (ownsMap_ne_blk h.files h.head), file := fun r hr => hu.blk (h.file r hr) ((h.file r hr).unlike h.head (by decide)),
    own := fun r hr => (h.own r hr).upd hu (fun _ hk => (h.own r hr).ne_of h.head (by decide) hk), dur := h.dur, nm := h.nm, fbs := h.fbs, gs := h.gs, lft := hl, len := h.len }

/-- write: what it says and what becomes of the disk. -/
theorem write_any (h : DiskL w d mb off armed left L) : Calls Tryz.prog 48 #[ptrV d] w fun e w' => e = .returned (.bool (wrB armed left)) ∧ DiskL w' d mb (off || !wrB armed left) armed (wrL armed left) L ∧ Upd (fun k => k = d) w w' := by
  cases armed with
  | false =>
    refine (write_on d _ off _ w h.head).mono ?_
    rintro e w' ⟨rfl, rfl⟩
    exact ⟨rfl, by simpa [wrB, wrL] using h, Upd.refl _ _⟩
  | true =>
    rcases Nat.eq_zero_or_pos left with rfl | hl
    · refine (write_out d _ off w h.head).mono ?_
      rintro e w' ⟨rfl, rfl⟩
      have hu : Upd (fun k => k = d) w (w.setCell ⟨d, 1, none⟩ (.bool true)) := (Upd.refl (fun k => k = d) w).setCell (p := ⟨d, 1, none⟩) (.inl rfl) _
      refine ⟨rfl, ?_, hu⟩
      have := h.top hu (off' := true) (armed' := true) (left' := 0) (h.head.put 1 (.bool true)) (Nat.zero_le _)
      simpa [wrB, wrL] using this
    · refine (write_down d _ off left w h.head hl h.lft).mono ?_
      rintro e w' ⟨rfl, rfl⟩
      have hu : Upd (fun k => k = d) w (w.setCell ⟨d, 3, none⟩ (.int .i64 ((left - 1 : Nat) : Int))) := (Upd.refl (fun k => k = d) w).setCell (p := ⟨d, 3, none⟩) (.inl rfl) _
      have hb : wrB true left = true := by simp [wrB]; omega
      refine ⟨by rw [hb], ?_, hu⟩
      have := h.top hu (off' := off) (armed' := true) (left' := left - 1) (h.head.put 3 _) (by have := h.lft; omega)
      simpa [hb, wrL] using this

/-- A file without bytes has come. -/
theorem DiskL.make (h : DiskL w d mb off armed left L) {r : FRec} (hm : r.nm.length ≤ maxLen) (hf : L.find? (fun x => x.nm == r.nm) = none) (hc : r.c = []) (hv : r.cv = .slice none 0 0) (hd : r.dur = 0)
    (hfb : w.heap.size ≤ r.fb) (hu : Upd (fun k => k = mb) w w') (hb : Blk w' r.fb 85 #[r.cv, .int .i64 r.dur]) (hmap : w'.ownsMap Tryz.prog 9 fileR mb (L.length + 1) (mapD (insR r L))) :
    DiskL w' d mb off armed left (insR r L) := by
  have hne : ∀ {x}, x ∈ L → x.fb ≠ mb := fun {x} hx e => ownsMap_ne_blk h.files (h.file x hx) e.symm
  have hown : Own w' 5 1 r.cv r.c.length (r.c.map byteV) := by rw [hv, hc]; exact Own.nil _ _ _
  have hno : ∀ k, ¬ OwnB r.cv k := by rw [hv]; intro k; simp [OwnB, Value.ownBlock]
  refine { head := hu.blk h.head (fun e => ownsMap_ne_blk h.files h.head e.symm), files := by rw [length_insR]; exact hmap, file := ?_, own := ?_, dur := ?_, nm := ?_, fbs := ?_, gs := ?_, lft := h.lft, len := ?_ }
  · intro x hx
    rcases mem_insR.1 hx with rfl | hx
    · exact hb
    · exact hu.blk (h.file x hx) (hne hx)
  · intro x hx
    rcases mem_insR.1 hx with rfl | hx
    · exact hown
    · exact (h.own x hx).upd hu (fun k hk e => ownsMap_ne_own h.files (h.own x hx) hk e.symm)
  · intro x hx
    rcases mem_insR.1 hx with rfl | hx
    · rw [hd]; exact Nat.zero_le _
    · exact h.dur x hx
  · intro x hx
    rcases mem_insR.1 hx with rfl | hx
    · exact hm
    · exact h.nm x hx
  · exact pairwise_insR (fun _ _ h e => h e.symm) h.fbs (fun x hx e => by have := (h.file x hx).lt; omega)
  · exact pairwise_insR (fun _ _ h k a b => h k b a) h.gs (fun x hx k hk => absurd hk (hno k))
  · intro x hx
    rcases mem_insR.1 hx with rfl | hx
    · rw [hc]; simp
    · exact h.len x hx
end
end

section
open Go.RowKit Go.Maps

theorem byte_info : (Tryz.prog.info? 5).map (fun i => (i.zero, i.size, i.bytes)) = some (some (.int .u8 0), 1, 1) := by kernel_rfl

/-- A new slice of bytes. -/
def NewB (w : World) (bs : List UInt8) (v : Value) (w' : World) : Prop :=
  Own w' 5 1 v bs.length (bs.map byteV) ∧ (∀ k, OwnB v k → w.heap.size ≤ k) ∧ Upd NoF w w'

theorem own_of_ownsRow {w : World} {base : Nat} {e : TypeId} {size n : Nat} {v : Value} {xs : List Value} (h : w.ownsRow base e size v n xs) : Own w e size v n xs ∧ ∀ k, OwnB v k → base ≤ k := by
  refine ⟨⟨h.1, ?_⟩, fun k hk => ?_⟩
  · rcases h.2 with h | ⟨g, cap, cur, rfl, _, hg, h1, h2, h3, h4⟩
    · exact .inl h
    · exact .inr ⟨g, cap, cur, rfl, hg, h1, h2, Nat.le_of_eq h3.symm, h4⟩
  · exact (h.lt k hk).1

def ClonePost (w : World) (bs : List UInt8) (e : Ending) (w' : World) : Prop := ∃ A c, e = .returned (.slice A bs.length c) ∧ NewB w bs (.slice A bs.length c) w'

theorem clone_any (v : Value) (bs : List UInt8) (w : World) (h : Rd w 1 v bs.length (bs.map byteV)) (hl : bs.length ≤ 140737488355328) : Calls Tryz.prog 86 #[v] w (ClonePost w bs) := by
  obtain ⟨A, c, rfl, hn, hc, hlen, hA⟩ := h
  cases A with
  | none =>
    have h0 : bs = [] := by
      cases bs with
      | nil => rfl
      | cons b l =>
        obtain ⟨g, o, h, _⟩ := hA (by simp)
        cases h
    subst h0
    refine (Tryz.bytes_Clone_nil 0 c w).mono ?_
    rintro e w' ⟨rfl, rfl⟩
    exact ⟨none, 0, rfl, Own.nil _ _ _, fun k hk => by simp [OwnB, Value.ownBlock] at hk, Upd.refl _ _⟩
  | some a =>
    refine (Tryz.bytes_Clone_at a bs.length c (bs.map fun b => (b.toNat : Int)) w (by simp) hl ?_).mono ?_
    · intro i hi
      obtain ⟨g, o, ha, hcell⟩ := hA (by omega)
      injection ha with ha
      subst ha
      have hadd : (⟨g, o, none⟩ : Addr).add i = ⟨g, o + i, none⟩ := by unfold Addr.add; split <;> simp_all
      rw [hadd, hcell i (byteV bs[i]) (by simp [hi])]
      simp [hi]
    · rintro e w' ⟨v', rfl, hrow, _, hb⟩
      obtain ⟨h1, h2⟩ := own_of_ownsRow hrow
      obtain ⟨A', c', rfl⟩ := h1.form
      refine ⟨A', c', rfl, ?_, h2, Upd.of_below hb (fun i hi h => by omega)⟩
      have : (bs.map fun b => (b.toNat : Int)).map (Value.int .u8) = bs.map byteV := by simp [byteV]
      rw [← this]
      exact h1

theorem new_any (w : World) : Calls Tryz.prog 14 #[] w fun e w' => e = .returned (ptrV (w.heap.size + 1)) ∧ DiskL w' (w.heap.size + 1) w.heap.size false false 0 [] ∧ Upd NoF w w' := by
  have hmm := @run_makeMap Tryz.prog
  go_enter Tryz.func14, Tryz.ntmps14
  go_wp2
  go_ret
  refine ⟨by simp, ?_, ((Upd.refl _ _).alloc _).alloc _⟩
  refine { head := by simpa using Blk.new (w.alloc (.map #[] 0)) 79 _, files := ?_, file := by simp, own := by simp, dur := by simp, nm := by simp, fbs := .nil, gs := .nil, lft := by simp, len := by simp }
  exact (World.ownsMap_made w Tryz.prog 9 fileR).alloc _

section
variable {w : World} {d mb : Nat} {off armed : Bool} {left : Nat} {L : List FRec}

theorem arm_any (h : DiskL w d mb off armed left L) (n : Int) (h0 : -9223372036854775808 ≤ n) (h1 : n ≤ 9223372036854775807) :
    Calls Tryz.prog 19 #[ptrV d, .int .i64 n] w fun e w' => e = .returned (.tuple #[]) ∧ DiskL w' d mb off true n.toNat L ∧ Upd (fun k => k = d) w w' := by
  have c2 : w.cell? ⟨d, 2, none⟩ = some (.bool armed) := h.head.cell 2
  have c3 : w.cell? ⟨d, 3, none⟩ = some (.int .i64 left) := h.head.cell 3
  have f2 : w.frozen? ⟨d, 2, none⟩ = false := h.head.frozen 2
  have f3 : w.frozen? ⟨d, 3, none⟩ = false := h.head.frozen 3
  have fin : DiskL ((w.setCell ⟨d, 2, none⟩ (.bool true)).setCell ⟨d, 3, none⟩ (.int .i64 (n.toNat : Int))) d mb off true n.toNat L ∧ Upd (fun k => k = d) w ((w.setCell ⟨d, 2, none⟩ (.bool true)).setCell ⟨d, 3, none⟩ (.int .i64 (n.toNat : Int))) := by
    have hu : Upd (fun k => k = d) w ((w.setCell ⟨d, 2, none⟩ (.bool true)).setCell ⟨d, 3, none⟩ (.int .i64 (n.toNat : Int))) :=
      ((Upd.refl (fun k => k = d) w).setCell (p := ⟨d, 2, none⟩) (.inl rfl) _).setCell (p := ⟨d, 3, none⟩) (.inl rfl) _
    exact ⟨h.top hu ((h.head.put 2 _).put 3 _) (by omega), hu⟩
  have F := Lib.hid fin
  clear h fin
  go_enter Tryz.func19, Tryz.ntmps19
  go_wp2
  go_end0
  rw [show max n 0 = ((n.toNat : Nat) : Int) by omega]
  exact ⟨rfl, F.out⟩

theorem read_arg (d : Nat) (w : World) : Calls Tryz.prog 46 #[ptrV d, strV []] w fun e w' => e = retPE (.slice none 0 0) 1 ∧ w = w' := by
  go_enter Tryz.func46, Tryz.ntmps46
  go_wp2_with (go_at_call 85; refine (existing_arg _ _).mono ?_; rintro e w' ⟨rfl, rfl⟩)
  go_ret2
  exact ⟨rfl, rfl⟩
theorem read_off (h : DiskL w d mb true armed left L) (nm : List UInt8) (hn : nm.isEmpty = false) : Calls Tryz.prog 46 #[ptrV d, strV nm] w fun e w' => e = retPE (.slice none 0 0) 103 ∧ w = w' := by
  have H := Lib.hid h
  clear h
  go_enter Tryz.func46, Tryz.ntmps46
  go_wp2_with (go_at_call 85; refine (existing_off H.out _ hn).mono ?_; rintro e w' ⟨rfl, rfl⟩)
  go_ret2
  exact ⟨rfl, rfl⟩
theorem read_no (h : DiskL w d mb false armed left L) (nm : List UInt8) (hn : nm.isEmpty = false) (hm : nm.length ≤ maxLen) (hf : L.find? (fun r => r.nm == nm) = none) :
    Calls Tryz.prog 46 #[ptrV d, strV nm] w fun e w' => e = retPE (.slice none 0 0) 6 ∧ w = w' := by
  have H := Lib.hid (existing_no h nm hn hm hf)
  clear h hf
  go_enter Tryz.func46, Tryz.ntmps46
  go_wp2_with (go_at_call 85; refine H.out.mono ?_; rintro e w' ⟨rfl, rfl⟩)
  go_ret2
  exact ⟨rfl, rfl⟩
/-- A file's content as it is read: new memory. -/
def ReadPost (w : World) (bs : List UInt8) (e : Ending) (w' : World) : Prop := ∃ A c, e = retPE (.slice A bs.length c) 0 ∧ NewB w bs (.slice A bs.length c) w'
theorem read_yes (h : DiskL w d mb false armed left L) (nm : List UInt8) (hn : nm.isEmpty = false) (hm : nm.length ≤ maxLen) (r : FRec) (hf : L.find? (fun r => r.nm == nm) = some r) :
    Calls Tryz.prog 46 #[ptrV d, strV nm] w (ReadPost w r.c) := by
  have hr : r ∈ L := List.mem_of_find?_eq_some hf
  have H := Lib.hid (existing_yes h nm hn hm r hf)
  have c0 : w.cell? ⟨r.fb, 0, none⟩ = some r.cv := (h.file r hr).cell 0
  have C := Lib.hid (clone_any r.cv r.c w (h.own r hr).rd (by have := h.len r hr; omega))
  clear h hf hr
  go_enter Tryz.func46, Tryz.ntmps46
  go_wp2_with (first | (go_at_call 85; refine H.out.mono ?_; rintro e w' ⟨rfl, rfl⟩) | (go_at_call 86; refine C.out.mono ?_; rintro e w' ⟨A, c, rfl, hnew⟩))
  go_ret2
  exact ⟨A, c, rfl, hnew⟩
end
end

section
open Go.RowKit Go.Maps

abbrev retE (e : Int) : Ending := .returned (.int .i64 e)
def codeW (armed : Bool) (left : Nat) : Int := if wrB armed left then 0 else 103

section
variable {w : World} {d mb : Nat} {off armed : Bool} {left : Nat} {L : List FRec}

theorem append_nil (s : ByteArray) (v : Value) (w : World) : Calls Tryz.prog 16 #[.pointer none, .string s, v] w fun e w' => e = retE 1 ∧ w = w' := by
  go_enter Tryz.func16, Tryz.ntmps16
  go_wp2_with (go_at_call 47; refine (open_nil _ _).mono ?_; rintro e w' ⟨rfl, rfl⟩)
  go_ret
  exact ⟨rfl, rfl⟩
theorem append_arg (d : Nat) (v : Value) (w : World) : Calls Tryz.prog 16 #[ptrV d, strV [], v] w fun e w' => e = retE 1 ∧ w = w' := by
  go_enter Tryz.func16, Tryz.ntmps16
  go_wp2_with (go_at_call 47; refine (open_arg _ _ (.inr ⟨d, rfl⟩)).mono ?_; rintro e w' ⟨rfl, rfl⟩)
  go_ret
  exact ⟨rfl, rfl⟩
theorem append_off (h : DiskL w d mb true armed left L) (nm : List UInt8) (hn : nm.isEmpty = false) (v : Value) : Calls Tryz.prog 16 #[ptrV d, strV nm, v] w fun e w' => e = retE 103 ∧ w = w' := by
  have H := Lib.hid h
  clear h
  go_enter Tryz.func16, Tryz.ntmps16
  go_wp2_with (go_at_call 47; refine (open_off H.out _ hn).mono ?_; rintro e w' ⟨rfl, rfl⟩)
  go_ret
  exact ⟨rfl, rfl⟩

/-- The file r has got new content. -/
def AppPost (w : World) (d mb : Nat) (armed : Bool) (left : Nat) (L : List FRec) (r : FRec) (c' : List UInt8) (e : Ending) (w' : World) : Prop :=
  e = retE (codeW armed left) ∧ ∃ r' : FRec, r'.nm = r.nm ∧ r'.fb = r.fb ∧ r'.c = c' ∧ r'.dur = r.dur ∧ DiskL w' d mb (!wrB armed left) armed (wrL armed left) (setR r' L) ∧ Upd (foot d mb L) w w' ∧
    ∀ k, foot d mb (setR r' L) k → foot d mb L k ∨ w.heap.size ≤ k

theorem app_turn (h : DiskL w d mb off armed left L) {r : FRec} (hr : r ∈ L) {b : List UInt8} (hl : r.c.length + b.length ≤ 1099511627776) {w1 : World} {A : Option Addr} {c : Nat}
    (ho : Own w1 5 1 (.slice A (r.c.length + b.length) c) (r.c.length + b.length) (r.c.map byteV ++ b.map byteV)) (hu : Upd (OwnB r.cv) w w1)
    (hn : ∀ k, OwnB (.slice A (r.c.length + b.length) c) k → OwnB r.cv k ∨ w.heap.size ≤ k) :
    DiskL (w1.setCell ⟨r.fb, 0, none⟩ (.slice A (r.c.length + b.length) c)) d mb off armed left (setR { r with cv := .slice A (r.c.length + b.length) c, c := r.c ++ b } L) ∧
    Upd (fun k => k = r.fb ∨ OwnB r.cv k) w (w1.setCell ⟨r.fb, 0, none⟩ (.slice A (r.c.length + b.length) c)) := by
  have hf := h.file r hr
  have hw := h.own r hr
  have hf1 : Blk w1 r.fb 85 #[r.cv, .int .i64 r.dur] := hu.blk hf (hw.blk_ne hf (by decide))
  have hu1 : Upd (fun k => k = r.fb ∨ OwnB r.cv k) w (w1.setCell ⟨r.fb, 0, none⟩ (.slice A (r.c.length + b.length) c)) := (hu.mono (fun _ _ h => .inr h)).setCell (p := ⟨r.fb, 0, none⟩) (.inl (.inl rfl)) _
  refine ⟨h.turn hr rfl rfl (by have := h.dur r hr; simp; omega) (by simpa using hl) hu1 (hf1.put 0 _) ?_ hn, hu1⟩
  have ho' : Own w1 5 1 (.slice A (r.c.length + b.length) c) (r.c ++ b).length ((r.c ++ b).map byteV) := by simpa using ho
  exact ho'.upd ((Upd.refl (fun k => k = r.fb) w1).setCell (p := ⟨r.fb, 0, none⟩) (.inl rfl) _) (fun k hk => ho'.ne_of hf1 (by decide) hk)

set_option maxRecDepth 100000 in
set_option maxHeartbeats 400000 in
theorem append_yes (h : DiskL w d mb false armed left L) (nm : List UInt8) (hn : nm.isEmpty = false) (hm : nm.length ≤ maxLen) (r : FRec) (hf : L.find? (fun r => r.nm == nm) = some r)
    (v : Value) (b : List UInt8) (hb : Rd w 1 v b.length (b.map byteV)) (hl : r.c.length + b.length ≤ 1099511627776) :
    Calls Tryz.prog 16 #[ptrV d, strV nm, v] w (AppPost w d mb armed left L r (r.c ++ b)) := by
  have hr : r ∈ L := List.mem_of_find?_eq_some hf
  have ho : Calls Tryz.prog 47 #[ptrV d, strV nm] w fun e w' => e = retPE (ptrV r.fb) 0 ∧ w = w' := by
    have := open_on h nm hn hm
    unfold atV at this
    rwa [hf] at this
  have O := Lib.hid ho
  have H := Lib.hid h
  have c0 : w.cell? ⟨r.fb, 0, none⟩ = some r.cv := (h.file r hr).cell 0
  have hfile := Lib.hid (h.file r hr)
  obtain ⟨i0, hi, hz0, hz1, hz2⟩ := info_parts byte_info
  have hown := Lib.hid (h.own r hr)
  have hrd := Lib.hid hb
  have hlen := Lib.hid hl
  have hmax := Lib.hid (show r.c.length + b.length ≤ maxLen by unfold maxLen; omega)
  have hmul := Lib.hid (show (r.c.length + b.length) * 1 ≤ 140737488355328 by omega)
  have fin : ∀ (e : Ending) (w' : World) (r' : FRec) (w2 : World), r'.nm = r.nm → r'.fb = r.fb → r'.c = r.c ++ b → r'.dur = r.dur → e = retE (codeW armed left) → Upd (fun k => k = r.fb ∨ OwnB r.cv k) w w2 → (∀ k, OwnB r'.cv k → OwnB r.cv k ∨ w.heap.size ≤ k) →
      DiskL w' d mb (false || !wrB armed left) armed (wrL armed left) (setR r' L) → Upd (fun k => k = d) w2 w' → AppPost w d mb armed left L r (r.c ++ b) e w' := by
    intro e w' r' w2 h1 h2 h3 h4 he hu2 hn2 hd2 hu3
    refine ⟨he, r', h1, h2, h3, h4, by simpa using hd2, ?_, fun k hk => foot_setR hr h2 hn2 hk⟩
    refine (hu2.mono ?_).trans hu3 ?_
    · rintro k _ (rfl | hk)
      · exact .inr (.inr ⟨r, hr, .inl rfl⟩)
      · exact .inr (.inr ⟨r, hr, .inr hk⟩)
    · rintro k _ rfl
      exact .inl rfl
  have FIN := Lib.hid fin
  clear h ho hf hb hm hl fin
  cases hwb : wrB armed left
  all_goals
    go_enter Tryz.func16, Tryz.ntmps16
    go_wp2_with (first
      | (go_at_call 47; refine O.out.mono ?_; rintro e w' ⟨rfl, rfl⟩)
      | (at_builtin; refine wpList_append_to _ rfl _ _ 28 rfl 5 i0 (.int .u8 0) 1 1 Tryz.underlying28 hi hz0 hz1 hz2 rfl r.cv r.c.length _ rfl hown.out v b.length (b.map byteV) rfl hrd.out (bytes_oneCell b) hmax.out hmul.out ?_; intro A c w1 hown1 hupd hnew; have hD := Lib.hid (app_turn H.out hr hlen.out hown1 hupd hnew); have hf1 := hupd.blk hfile.out (hown.out.blk_ne hfile.out (by decide)); have hc1 := hf1.cell 0; have hz1 := hf1.frozen 0; have hN := Lib.hid hnew; clear hf1 hown1 hupd hnew)
      | (go_at_call 48; refine (write_any hD.out.1).mono ?_; rintro e w' ⟨rfl, hd2, hu2⟩; have hD2 := Lib.hid hd2; have hU2 := Lib.hid hu2; clear hd2 hu2))
    go_ret
    exact FIN.out _ _ { r with cv := .slice A (r.c.length + b.length) c, c := r.c ++ b } _ rfl rfl rfl rfl (by simp [codeW, hwb]) hD.out.2 hN.out hD2.out hU2.out
end
end

section
open Go.RowKit Go.Maps

theorem setR_insR {r r' : FRec} {L : List FRec} (hnm : r'.nm = r.nm) (hfb : r'.fb = r.fb) (hn : ∀ x ∈ L, x.fb ≠ r.fb) : setR r' (insR r L) = insR r' L := by
  have hs : ∀ l : List FRec, (∀ x ∈ l, x.fb ≠ r.fb) → l.map (fun x => if x.fb = r'.fb then r' else x) = l := by
    intro l hl
    induction l with
    | nil => rfl
    | cons y l ih =>
      simp only [List.map_cons]
      rw [ih (fun x hx => hl x (by simp [hx])), if_neg (by rw [hfb]; exact hl y (by simp))]
  induction L with
  | nil => simp [setR, insR, hfb]
  | cons y l ih =>
    simp only [insR, hnm]
    split
    · simp only [setR, List.map_cons]
      rw [hs l (fun x hx => hn x (by simp [hx]))]
      simp [hfb, hn y (by simp)]
    · have := ih (fun x hx => hn x (by simp [hx]))
      simp only [setR, List.map_cons] at this ⊢
      rw [this, if_neg (by rw [hfb]; exact hn y (by simp))]

section
variable {w : World} {d mb : Nat} {off armed : Bool} {left : Nat} {L : List FRec}

/-- The file nm has come, with its content. -/
def MakePost (w : World) (d mb : Nat) (armed : Bool) (left : Nat) (L : List FRec) (nm c' : List UInt8) (e : Ending) (w' : World) : Prop :=
  e = retE (codeW armed left) ∧ ∃ r' : FRec, r'.nm = nm ∧ r'.c = c' ∧ r'.dur = 0 ∧ DiskL w' d mb (!wrB armed left) armed (wrL armed left) (insR r' L) ∧ Upd (foot d mb L) w w' ∧
    ∀ k, foot d mb (insR r' L) k → foot d mb L k ∨ w.heap.size ≤ k

theorem make_turn (h : DiskL w d mb off armed left L) {nm : List UInt8} (hm : nm.length ≤ maxLen) (hf : L.find? (fun r => r.nm == nm) = none) {w1 : World}
    (hmap : w1.ownsMap Tryz.prog 9 fileR mb (L.length + 1) ((mapD L).put (.string nm) (.lit (.int .i64 (w.heap.size : Int)))))
    (hg : (w.alloc (.cells #[.slice none 0 0, .int .i64 0] 85)).grownBy w1 (some mb)) :
    DiskL w1 d mb off armed left (insR ⟨nm, w.heap.size, .slice none 0 0, [], 0⟩ L) ∧ Upd (fun k => k = mb) w w1 := by
  have hu : Upd (fun k => k = mb) w w1 := ((Upd.refl (fun k => k = mb) w).alloc _).trans (Upd.of_grown (F := fun k => k = mb) hg (fun k e => .inl (by injection e with e; exact e.symm))) (fun _ _ h => h)
  refine ⟨h.make (r := ⟨nm, w.heap.size, .slice none 0 0, [], 0⟩) hm hf rfl rfl rfl (Nat.le_refl _) hu ?_ ?_, hu⟩
  · refine (hg.block _ (by simp) ?_).trans (Blk.new w _ _)
    intro e
    injection e with e
    have := h.files.lt
    simp only at e
    omega
  · have e1 := put_mapD L ⟨nm, w.heap.size, .slice none 0 0, [], 0⟩
    simp only at e1
    rw [e1, delR_of_none hf] at hmap
    exact hmap

theorem app_turn0 (h : DiskL w d mb off armed left L) {nm : List UInt8} {fb : Nat} (hr : (⟨nm, fb, .slice none 0 0, [], 0⟩ : FRec) ∈ L) {b : List UInt8} (hl : b.length ≤ 1099511627776) {w1 : World} {A : Option Addr} {c : Nat}
    (ho : Own w1 5 1 (.slice A (0 + b.length) c) (0 + b.length) ([] ++ b.map byteV)) (hu : Upd (OwnB (.slice none 0 0)) w w1)
    (hn : ∀ k, OwnB (.slice A (0 + b.length) c) k → OwnB (.slice none 0 0) k ∨ w.heap.size ≤ k) :
    DiskL (w1.setCell ⟨fb, 0, none⟩ (.slice A b.length c)) d mb off armed left (setR ⟨nm, fb, .slice A b.length c, b, 0⟩ L) ∧
    Upd (fun k => k = fb ∨ OwnB (.slice none 0 0) k) w (w1.setCell ⟨fb, 0, none⟩ (.slice A b.length c)) ∧ (∀ k, OwnB (.slice A b.length c) k → OwnB (.slice none 0 0) k ∨ w.heap.size ≤ k) := by
  have := app_turn h hr (b := b) (by simpa using hl) ho hu hn
  simp only [List.length_nil, Nat.zero_add, List.nil_append] at this hn
  exact ⟨this.1, this.2, hn⟩

set_option maxRecDepth 100000 in
set_option maxHeartbeats 1000000 in
theorem append_new (h : DiskL w d mb false armed left L) (nm : List UInt8) (hn : nm.isEmpty = false) (hm : nm.length ≤ maxLen) (hf : L.find? (fun r => r.nm == nm) = none)
    (v : Value) (b : List UInt8) (hb : RdB (foot d mb L) w v b) (hl : b.length ≤ 1099511627776) (hL : L.length < maxLen) :
    Calls Tryz.prog 16 #[ptrV d, strV nm, v] w (MakePost w d mb armed left L nm b) := by
  have ho : Calls Tryz.prog 47 #[ptrV d, strV nm] w fun e w' => e = retPE (.pointer none) 0 ∧ w = w' := by
    have := open_on h nm hn hm
    unfold atV at this
    rwa [hf] at this
  have O := Lib.hid ho
  have H := Lib.hid h
  have hsz : d < w.heap.size := h.head.lt
  have c0 : w.cell? ⟨d, 0, none⟩ = some (.map (some mb)) := h.head.cell 0
  have hq := fun w : World => run_eql_map_nil (P := Tryz.prog) w 77 9 81 (some mb) Tryz.underlying77
  obtain ⟨i0, hi, hz0, hz1, hz2⟩ := info_parts byte_info
  have hM := Lib.hid (h.files.alloc (.cells #[.slice none 0 0, .int .i64 0] 85))
  have hrd := Lib.hid hb
  have hlen := Lib.hid hl
  have hmax := Lib.hid (show 0 + b.length ≤ maxLen by unfold maxLen; omega)
  have hmul := Lib.hid (show (0 + b.length) * 1 ≤ 140737488355328 by omega)
  have hLm := Lib.hid hL
  have hkey := Lib.hid (keyOf_strV hm)
  have T := Lib.hid (fun w1 a b => make_turn (w1 := w1) h hm hf a b)
  have fin : ∀ (e : Ending) (w' : World) (r' : FRec) (w1 w2 : World), r'.nm = nm → r'.fb = w.heap.size → r'.c = b → r'.dur = 0 → e = retE (codeW armed left) → Upd (fun k => k = mb) w w1 →
      Upd (fun k => k = w.heap.size ∨ OwnB (.slice none 0 0) k) w1 w2 → (∀ k, OwnB r'.cv k → OwnB (.slice none 0 0) k ∨ w1.heap.size ≤ k) →
      DiskL w' d mb (false || !wrB armed left) armed (wrL armed left) (setR r' (insR ⟨nm, w.heap.size, .slice none 0 0, [], 0⟩ L)) → Upd (fun k => k = d) w2 w' → MakePost w d mb armed left L nm b e w' := by
    intro e w' r' w1 w2 h1 h2 h3 h4 he hu1 hu2 hn2 hd2 hu3
    have e1 : setR r' (insR ⟨nm, w.heap.size, .slice none 0 0, [], 0⟩ L) = insR r' L := setR_insR (r := ⟨nm, w.heap.size, .slice none 0 0, [], 0⟩) h1 h2 (fun x hx => by have := (h.file x hx).lt; simp only; omega)
    rw [e1] at hd2
    refine ⟨he, r', h1, h3, h4, by simpa using hd2, ?_, ?_⟩
    · refine ((hu1.mono (fun k _ e => .inr (.inl e))).trans hu2 ?_).trans hu3 (fun k _ e => .inl e)
      rintro k hk (rfl | e)
      · omega
      · simp [OwnB, Value.ownBlock] at e
    · rintro k (rfl | rfl | ⟨x, hx, hk⟩)
      · exact .inl (.inl rfl)
      · exact .inl (.inr (.inl rfl))
      · rcases mem_insR.1 hx with rfl | hx
        · rcases hk with rfl | hk
          · exact .inr (by omega)
          · rcases hn2 k hk with e | e
            · simp [OwnB, Value.ownBlock] at e
            · have := hu1.size; exact .inr (by omega)
        · exact .inl (.inr (.inr ⟨x, hx, hk⟩))
  have FIN := Lib.hid fin
  have hr0 : (⟨nm, w.heap.size, .slice none 0 0, [], 0⟩ : FRec) ∈ insR ⟨nm, w.heap.size, .slice none 0 0, [], 0⟩ L := mem_insR.2 (.inl rfl)
  have R0 := Lib.hid hr0
  have hfoot := Lib.hid (fun w1 (hu : Upd (fun k => k = mb) w w1) => hb w1 (hu.mono (fun k _ e => .inr (.inl e))))
  clear h ho hf hb hm hl fin hL hr0
  cases hwb : wrB armed left
  all_goals
    go_enter Tryz.func16, Tryz.ntmps16
    go_wp2_with (first
      | (go_at_call 47; refine O.out.mono ?_; rintro e w' ⟨rfl, rfl⟩)
      | (at_mapUpdate; refine wpList_mapUpdate_own _ rfl _ _ _ 77 rfl 9 81 keyed Tryz.underlying77 fileR mb L.length (mapD L) rfl hM.out hLm.out (strV nm) (ptrV w.heap.size) (.string nm) rfl rfl hkey.out (.lit (.int .i64 w.heap.size)) [] rfl ?_; intro w1 hm1 hg1; have hD1 := Lib.hid (T.out w1 hm1 hg1); have hf1 := hD1.out.1.file _ R0.out; have hc0 := hf1.cell 0; have hff := Lib.hid hf1; clear hf1 hm1 hg1)
      | (at_builtin; refine wpList_append_to _ rfl _ _ 28 rfl 5 i0 (.int .u8 0) 1 1 Tryz.underlying28 hi hz0 hz1 hz2 rfl (.slice none 0 0) 0 [] rfl (Own.nil _ _ _) v b.length (b.map byteV) rfl (hfoot.out _ hD1.out.2) (bytes_oneCell b) hmax.out hmul.out ?_; intro A c w2 hown1 hupd hnew; have hD := Lib.hid (app_turn0 hD1.out.1 R0.out hlen.out hown1 hupd hnew); have hf2 := hupd.blk hff.out (by simp [OwnB, Value.ownBlock]); have hc1 := hf2.cell 0; have hz1 := hf2.frozen 0; clear hf2 hown1 hupd hnew)
      | (go_at_call 48; refine (write_any hD.out.1).mono ?_; rintro e w' ⟨rfl, hd2, hu2⟩; have hD2 := Lib.hid hd2; have hU2 := Lib.hid hu2; clear hd2 hu2))
    go_ret
    exact FIN.out _ _ ⟨nm, w.heap.size, .slice A b.length c, b, 0⟩ _ _ rfl rfl rfl rfl (by simp [codeW, hwb]) hD1.out.2 hD.out.2.1 hD.out.2.2 hD2.out hU2.out
end
end

section
open Go.RowKit Go.Maps

section
variable {w : World} {d mb : Nat} {off armed : Bool} {left : Nat} {L : List FRec}

theorem change_arg (d : Nat) (v : Value) (w : World) : Calls Tryz.prog 87 #[ptrV d, strV [], v] w fun e w' => e = retE 1 ∧ w = w' := by
  go_enter Tryz.func87, Tryz.ntmps87
  go_wp2_with (go_at_call 85; refine (existing_arg _ _).mono ?_; rintro e w' ⟨rfl, rfl⟩)
  go_ret
  exact ⟨rfl, rfl⟩
theorem change_off (h : DiskL w d mb true armed left L) (nm : List UInt8) (hn : nm.isEmpty = false) (v : Value) : Calls Tryz.prog 87 #[ptrV d, strV nm, v] w fun e w' => e = retE 103 ∧ w = w' := by
  have H := Lib.hid h
  clear h
  go_enter Tryz.func87, Tryz.ntmps87
  go_wp2_with (go_at_call 85; refine (existing_off H.out _ hn).mono ?_; rintro e w' ⟨rfl, rfl⟩)
  go_ret
  exact ⟨rfl, rfl⟩
theorem change_no (h : DiskL w d mb false armed left L) (nm : List UInt8) (hn : nm.isEmpty = false) (hm : nm.length ≤ maxLen) (hf : L.find? (fun r => r.nm == nm) = none) (v : Value) :
    Calls Tryz.prog 87 #[ptrV d, strV nm, v] w fun e w' => e = retE 6 ∧ w = w' := by
  have H := Lib.hid (existing_no h nm hn hm hf)
  clear h hf
  go_enter Tryz.func87, Tryz.ntmps87
  go_wp2_with (go_at_call 85; refine H.out.mono ?_; rintro e w' ⟨rfl, rfl⟩)
  go_ret
  exact ⟨rfl, rfl⟩
theorem change_out (h : DiskL w d mb false armed left L) (nm : List UInt8) (hn : nm.isEmpty = false) (hm : nm.length ≤ maxLen) (r : FRec) (hf : L.find? (fun r => r.nm == nm) = some r) (v : Value) (hwb : wrB armed left = false) :
    Calls Tryz.prog 87 #[ptrV d, strV nm, v] w fun e w' => e = retE 103 ∧ DiskL w' d mb true armed (wrL armed left) L ∧ Upd (fun k => k = d) w w' := by
  have H := Lib.hid (existing_yes h nm hn hm r hf)
  have D := Lib.hid h
  clear h hf
  go_enter Tryz.func87, Tryz.ntmps87
  go_wp2_with (first
    | (go_at_call 85; refine H.out.mono ?_; rintro e w' ⟨rfl, rfl⟩)
    | (go_at_call 48; refine (write_any D.out).mono ?_; rintro e w' ⟨rfl, hd2, hu2⟩; have hD2 := Lib.hid hd2; have hU2 := Lib.hid hu2; clear hd2 hu2))
  go_ret
  refine ⟨rfl, ?_, hU2.out⟩
  have := hD2.out
  rw [hwb] at this
  simpa using this

set_option maxRecDepth 100000 in
/-- The closure is called on the file. -/
theorem change_yes (h : DiskL w d mb false armed left L) (nm : List UInt8) (hn : nm.isEmpty = false) (hm : nm.length ≤ maxLen) (r : FRec) (hf : L.find? (fun r => r.nm == nm) = some r) (hwb : wrB armed left = true)
    (g : FuncId) (caps : Array Value) (Q : World → Prop) (hg : ∀ W : World, (callFunc g (#[ptrV r.fb] ++ caps)).run Tryz.prog W = .ok (.enter g (#[ptrV r.fb] ++ caps)) W)
    (hdo : ∀ w1, DiskL w1 d mb false armed (wrL armed left) L → Upd (fun k => k = d) w w1 → Calls Tryz.prog g (#[ptrV r.fb] ++ caps) w1 fun e w' => e = .returned (.tuple #[]) ∧ Q w') :
    Calls Tryz.prog 87 #[ptrV d, strV nm, .func (.func g) #[] caps] w fun e w' => e = retE 0 ∧ Q w' := by
  have H := Lib.hid (existing_yes h nm hn hm r hf)
  have D := Lib.hid h
  have DO := Lib.hid hdo
  clear h hf hdo
  go_enter Tryz.func87, Tryz.ntmps87
  go_wp2_with (first
    | (go_at_call 85; refine H.out.mono ?_; rintro e w' ⟨rfl, rfl⟩)
    | (go_at_call 48; refine (write_any D.out).mono ?_; rintro e w' ⟨rfl, hd2, hu2⟩; rw [hwb] at hd2; have hD2 := Lib.hid hd2; have hU2 := Lib.hid hu2; clear hd2 hu2))
  refine (DO.out _ (by simpa using hD2.out) hU2.out).mono ?_
  rintro e w2 ⟨rfl, hQ⟩
  go_wp2
  go_ret
  exact ⟨rfl, hQ⟩
end
end

section
open Go.RowKit Go.Maps

/-- The file r has turned. -/
def TurnPost (w : World) (d mb : Nat) (off armed : Bool) (left : Nat) (L : List FRec) (r : FRec) (c' : List UInt8) (dur' : Nat) (w' : World) : Prop :=
  ∃ r' : FRec, r'.nm = r.nm ∧ r'.fb = r.fb ∧ r'.c = c' ∧ r'.dur = dur' ∧ DiskL w' d mb off armed left (setR r' L) ∧ Upd (foot d mb L) w w' ∧ ∀ k, foot d mb (setR r' L) k → foot d mb L k ∨ w.heap.size ≤ k

section
variable {w : World} {d mb : Nat} {off armed : Bool} {left : Nat} {L : List FRec}

theorem sync1 (fb : Nat) (A : Option Addr) (n c : Nat) (dur : Int) (w : World) (h : Blk w fb 85 #[.slice A n c, .int .i64 dur]) :
    Calls Tryz.prog 89 #[ptrV fb] w fun e w' => e = .returned (.tuple #[]) ∧ w.setCell ⟨fb, 1, none⟩ (.int .i64 n) = w' := by
  have c0 : w.cell? ⟨fb, 0, none⟩ = some (.slice A n c) := h.cell 0
  have c1 : w.cell? ⟨fb, 1, none⟩ = some (.int .i64 dur) := h.cell 1
  have f1 : w.frozen? ⟨fb, 1, none⟩ = false := h.frozen 1
  clear h
  go_enter Tryz.func89, Tryz.ntmps89
  go_wp2
  go_end0
  exact ⟨rfl, rfl⟩

theorem sync_turn (h : DiskL w d mb off armed left L) {r : FRec} (hr : r ∈ L) :
    Calls Tryz.prog 89 #[ptrV r.fb] w fun e w' => e = .returned (.tuple #[]) ∧ TurnPost w d mb off armed left L r r.c r.c.length w' := by
  obtain ⟨A, c, hcv⟩ := (h.own r hr).form
  have hf := h.file r hr
  have hf' : Blk w r.fb 85 #[.slice A r.c.length c, .int .i64 r.dur] := by rw [← hcv]; exact hf
  refine (sync1 r.fb A r.c.length c r.dur w hf').mono ?_
  rintro e w' ⟨rfl, rfl⟩
  have hu : Upd (fun k => k = r.fb ∨ OwnB r.cv k) w (w.setCell ⟨r.fb, 1, none⟩ (.int .i64 r.c.length)) := (Upd.refl (fun k => k = r.fb ∨ OwnB r.cv k) w).setCell (p := ⟨r.fb, 1, none⟩) (.inl (.inl rfl)) _
  refine ⟨rfl, { r with dur := r.c.length }, rfl, rfl, rfl, rfl, ?_, hu.mono ?_, fun k hk => foot_setR (r' := { r with dur := r.c.length }) hr rfl (fun k hk => .inl hk) hk⟩
  · refine h.turn hr rfl rfl (Nat.le_refl _) (h.len r hr) hu (hf.put 1 _) ?_ (fun k hk => .inl hk)
    exact (h.own r hr).upd ((Upd.refl (fun k => k = r.fb) w).setCell (p := ⟨r.fb, 1, none⟩) (.inl rfl) _) (fun k hk => (h.own r hr).ne_of hf (by decide) hk)
  · rintro k _ (rfl | hk)
    · exact .inr (.inr ⟨r, hr, .inl rfl⟩)
    · exact .inr (.inr ⟨r, hr, .inr hk⟩)

theorem TurnPost.after {w0 w w' : World} {r : FRec} {c' : List UInt8} {dur' : Nat} (h : TurnPost w d mb off armed left L r c' dur' w') (hu : Upd (fun k => k = d) w0 w) : TurnPost w0 d mb off armed left L r c' dur' w' := by
  obtain ⟨r', h1, h2, h3, h4, h5, h6, h7⟩ := h
  refine ⟨r', h1, h2, h3, h4, h5, (hu.mono (fun k _ e => .inl e)).trans h6 (fun _ _ h => h), fun k hk => ?_⟩
  rcases h7 k hk with e | e
  · exact .inl e
  · exact .inr (Nat.le_trans hu.size e)

set_option maxRecDepth 100000 in
theorem remove1 (fb : Value) (bd bn : Nat) (nm : List UInt8) (w : World) (h : DiskL w d mb off armed left L) (hd : Blk w bd 36 #[ptrV d]) (hn : Blk w bn 9 #[strV nm]) (hm : nm.length ≤ maxLen) :
    Calls Tryz.prog 88 #[fb, ptrV bd, ptrV bn] w fun e w' => e = .returned (.tuple #[]) ∧ w'.ownsMap Tryz.prog 9 fileR mb L.length (mapD (delR nm L)) ∧ Upd (fun k => k = mb) w w' := by
  have c0 : w.cell? ⟨bd, 0, none⟩ = some (ptrV d) := hd.cell 0
  have c1 : w.cell? ⟨bn, 0, none⟩ = some (strV nm) := hn.cell 0
  have c2 : w.cell? ⟨d, 0, none⟩ = some (.map (some mb)) := h.head.cell 0
  have hM := Lib.hid h.files
  have hkey := Lib.hid (keyOf_strV hm)
  clear h hd hn hm
  go_enter Tryz.func88, Tryz.ntmps88
  go_still_tail 5, (by kernel_rfl)
  change wpList _ _ _ _ _ w.drew
  refine wpList_delete_own _ rfl _ _ 77 9 rfl 81 keyed Tryz.underlying77 fileR mb L.length (mapD L) rfl hM.out.drew (strV nm) (.string nm) rfl hkey.out ?_
  intro w1 hm1 hg1
  have hm2 := Lib.hid hm1
  have hg2 := Lib.hid hg1
  clear hm1 hg1
  go_wp2
  go_end0
  refine ⟨rfl, by rw [← del_mapD]; exact hm2.out, ((Upd.refl (fun k => k = mb) w).drew).trans (Upd.of_grown (F := fun k => k = mb) hg2.out.grown (fun k e => .inl (by injection e with e; exact e.symm))) (fun _ _ h => h)⟩

/-- A file has gone. -/
theorem DiskL.drop (h : DiskL w d mb off armed left L) {w' : World} (nm : List UInt8) (hu : Upd (fun k => k = mb) w w') {n : Nat} (hmap : w'.ownsMap Tryz.prog 9 fileR mb n (mapD (delR nm L))) :
    DiskL w' d mb off armed left (delR nm L) := by
  have hs : ∀ {x}, x ∈ delR nm L → x ∈ L := fun {x} hx => (List.mem_filter.1 hx).1
  exact { head := hu.blk h.head (fun e => ownsMap_ne_blk h.files h.head e.symm), files := ownsMap_exact hmap, file := fun x hx => hu.blk (h.file x (hs hx)) (fun e => ownsMap_ne_blk h.files (h.file x (hs hx)) e.symm),
          own := fun x hx => (h.own x (hs hx)).upd hu (fun k hk e => ownsMap_ne_own h.files (h.own x (hs hx)) hk e.symm), dur := fun x hx => h.dur x (hs hx), nm := fun x hx => h.nm x (hs hx),
          fbs := h.fbs.filter _, gs := h.gs.filter _, lft := h.lft, len := fun x hx => h.len x (hs hx) }

theorem foot_delR (nm : List UInt8) {k : Nat} (hk : foot d mb (delR nm L) k) : foot d mb L k := by
  rcases hk with rfl | rfl | ⟨x, hx, hk⟩
  · exact .inl rfl
  · exact .inr (.inl rfl)
  · exact .inr (.inr ⟨x, (List.mem_filter.1 hx).1, hk⟩)

theorem mem_delR {nm : List UInt8} {x : FRec} (h : x ∈ delR nm L) : x ∈ L ∧ x.nm ≠ nm := by
  obtain ⟨h1, h2⟩ := List.mem_filter.1 h
  exact ⟨h1, by simpa using h2⟩

/-- A file has got another name. -/
theorem DiskL.move (h : DiskL w d mb off armed left L) {w' : World} {r : FRec} (hr : r ∈ L) (to : List UInt8) (hto : to.length ≤ maxLen) (hu : Upd (fun k => k = mb) w w') {n : Nat}
    (hmap : w'.ownsMap Tryz.prog 9 fileR mb n (mapD (insR { r with nm := to } (delR to (delR r.nm L))))) : DiskL w' d mb off armed left (insR { r with nm := to } (delR to (delR r.nm L))) := by
  have hs : ∀ {x}, x ∈ delR to (delR r.nm L) → x ∈ L ∧ x.nm ≠ r.nm := fun {x} hx => mem_delR (mem_delR hx).1
  have hne : ∀ {x}, x ∈ delR to (delR r.nm L) → x ≠ r := fun {x} hx e => (hs hx).2 (by rw [e])
  refine { head := hu.blk h.head (fun e => ownsMap_ne_blk h.files h.head e.symm), files := ownsMap_exact hmap, file := ?_, own := ?_, dur := ?_, nm := ?_, fbs := ?_, gs := ?_, lft := h.lft, len := ?_ }
  · intro x hx
    have hfile : ∀ y ∈ L, Blk w' y.fb 85 #[y.cv, .int .i64 y.dur] := fun y hy => hu.blk (h.file y hy) (fun e => ownsMap_ne_blk h.files (h.file y hy) e.symm)
    rcases mem_insR.1 hx with rfl | hx
    · exact hfile r hr
    · exact hfile x (hs hx).1
  · intro x hx
    have hown : ∀ y ∈ L, Own w' 5 1 y.cv y.c.length (y.c.map byteV) := fun y hy => (h.own y hy).upd hu (fun k hk e => ownsMap_ne_own h.files (h.own y hy) hk e.symm)
    rcases mem_insR.1 hx with rfl | hx
    · exact hown r hr
    · exact hown x (hs hx).1
  · intro x hx
    rcases mem_insR.1 hx with rfl | hx
    · exact h.dur r hr
    · exact h.dur x (hs hx).1
  · intro x hx
    rcases mem_insR.1 hx with rfl | hx
    · exact hto
    · exact h.nm x (hs hx).1
  · exact pairwise_insR (fun _ _ h e => h e.symm) ((h.fbs.filter _).filter _) (fun x hx e => hne hx (h.same_of_fb (hs hx).1 hr e.symm))
  · refine pairwise_insR (fun _ _ h k a b => h k b a) ((h.gs.filter _).filter _) (fun x hx k hk hk' => ?_)
    exact pw_ne (R := fun a b : FRec => ∀ k, OwnB a.cv k → ¬ OwnB b.cv k) h.gs (fun _ _ h k a b => h k b a) hr (hs hx).1 (fun e => hne hx e.symm) k hk hk'
  · intro x hx
    rcases mem_insR.1 hx with rfl | hx
    · exact h.len r hr
    · exact h.len x (hs hx).1

theorem foot_move {r : FRec} (hr : r ∈ L) (to : List UInt8) {k : Nat} (hk : foot d mb (insR { r with nm := to } (delR to (delR r.nm L))) k) : foot d mb L k := by
  rcases hk with rfl | rfl | ⟨x, hx, hk⟩
  · exact .inl rfl
  · exact .inr (.inl rfl)
  · rcases mem_insR.1 hx with rfl | hx
    · exact .inr (.inr ⟨r, hr, hk⟩)
    · exact .inr (.inr ⟨x, (mem_delR (mem_delR hx).1).1, hk⟩)

set_option maxRecDepth 100000 in
theorem rename1 (r : FRec) (bd bn bt : Nat) (nm to : List UInt8) (w : World) (h : DiskL w d mb off armed left L) (hd : Blk w bd 36 #[ptrV d]) (hn : Blk w bn 9 #[strV nm]) (ht : Blk w bt 9 #[strV to]) (hm : nm.length ≤ maxLen) (hto : to.length ≤ maxLen) (hL : L.length < maxLen) :
    Calls Tryz.prog 90 #[ptrV r.fb, ptrV bd, ptrV bn, ptrV bt] w fun e w' => e = .returned (.tuple #[]) ∧ w'.ownsMap Tryz.prog 9 fileR mb (L.length + 1) (mapD (insR { r with nm := to } (delR to (delR nm L)))) ∧ Upd (fun k => k = mb) w w' := by
  have c0 : w.cell? ⟨bd, 0, none⟩ = some (ptrV d) := hd.cell 0
  have c1 : w.cell? ⟨bn, 0, none⟩ = some (strV nm) := hn.cell 0
  have c2 : w.cell? ⟨d, 0, none⟩ = some (.map (some mb)) := h.head.cell 0
  have hM := Lib.hid h.files
  have hkey := Lib.hid (keyOf_strV hm)
  have hkey2 := Lib.hid (keyOf_strV hto)
  have hLm := Lib.hid hL
  have B0 := Lib.hid hd
  have B1 := Lib.hid ht
  have B2 := Lib.hid h.head
  clear h hd hn ht hm hto hL
  go_enter Tryz.func90, Tryz.ntmps90
  go_wp2
  go_still_tail 5, (by kernel_rfl)
  change wpList _ _ _ _ _ w.drew
  refine wpList_delete_own _ rfl _ _ 77 9 rfl 81 keyed Tryz.underlying77 fileR mb L.length (mapD L) rfl hM.out.drew (strV nm) (.string nm) rfl hkey.out ?_
  intro w1 hm1 hg1
  have hu : Upd (fun k => k = mb) w w1 := ((Upd.refl (fun k => k = mb) w).drew).trans (Upd.of_grown (F := fun k => k = mb) hg1.grown (fun k e => .inl (by injection e with e; exact e.symm))) (fun _ _ h => h)
  have d0 : w1.cell? ⟨bd, 0, none⟩ = some (ptrV d) := (hu.blk B0.out (fun e => ownsMap_ne_blk hM.out B0.out e.symm)).cell 0
  have d1 : w1.cell? ⟨bt, 0, none⟩ = some (strV to) := (hu.blk B1.out (fun e => ownsMap_ne_blk hM.out B1.out e.symm)).cell 0
  have d2 : w1.cell? ⟨d, 0, none⟩ = some (.map (some mb)) := (hu.blk B2.out (fun e => ownsMap_ne_blk hM.out B2.out e.symm)).cell 0
  have hm2 := Lib.hid hm1
  have hg2 := Lib.hid hu
  clear hm1 hg1 hu c0 c1 c2
  go_wp2
  go_still_tail 6, (by kernel_rfl)
  change wpList _ _ _ _ _ w1.drew
  refine wpList_mapUpdate_own _ rfl _ _ _ 77 rfl 9 81 keyed Tryz.underlying77 fileR mb L.length _ rfl hm2.out.drew hLm.out (strV to) (ptrV r.fb) (.string to) rfl rfl hkey2.out (.lit (.int .i64 r.fb)) [] rfl ?_
  intro w2 hm3 hg3
  have hm4 := Lib.hid hm3
  have hg4 := Lib.hid hg3
  clear hm3 hg3
  go_wp2
  go_end0
  refine ⟨rfl, ?_, (hg2.out.drew).trans (Upd.of_grown (F := fun k => k = mb) hg4.out (fun k e => .inl (by injection e with e; exact e.symm))) (fun _ _ h => h)⟩
  have := hm4.out
  rw [del_mapD] at this
  have e1 := put_mapD (delR nm L) { r with nm := to }
  simp only at e1
  rwa [e1] at this
end
end

section
open Go.RowKit Go.Maps

section
variable {w : World} {d mb : Nat} {off armed : Bool} {left : Nat} {L : List FRec}

end
end
end Go.Proofs.YtbgificdilpdcaaGreat
