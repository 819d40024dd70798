/- What the functions of package disk compute, on plain data. No condition. -/
import GoSem.ClaimWide
namespace Go.Proofs.Ytmapijpphnlcmaa
open Go

structure FSt where
  c : List UInt8
  dur : Nat
abbrev FS := List (List UInt8 × FSt)
structure DSt where
  fs : FS
  off : Bool
  armed : Bool
  left : Nat

def getF (fs : FS) (nm : List UInt8) : Option FSt := (fs.find? (fun p => p.1 == nm)).map (·.2)
def setF (nm : List UInt8) (f : FSt) (fs : FS) : FS := fs.map (fun p => if p.1 == nm then (p.1, f) else p)
def insF (p : List UInt8 × FSt) : FS → FS
  | [] => [p]
  | y :: l => if bytesBefore p.1 y.1 then p :: y :: l else y :: insF p l
def delF (nm : List UInt8) (fs : FS) : FS := fs.filter (fun p => !(p.1 == nm))

/-- Whether one more write goes through. -/
def wrB (armed : Bool) (left : Nat) : Bool := !(armed && left == 0)
def wrL (armed : Bool) (left : Nat) : Nat := if armed then left - 1 else left
def wrS (s : DSt) : DSt := { s with off := s.off || !wrB s.armed s.left, left := wrL s.armed s.left }

def sRead (s : DSt) (nm : List UInt8) : List UInt8 × Int :=
  if nm = [] then ([], 1) else if s.off then ([], 103) else
  match getF s.fs nm with
  | none => ([], 6)
  | some f => (f.c, 0)

def withFile (nm : List UInt8) (fs : FS) : FS := match getF fs nm with | none => insF (nm, ⟨[], 0⟩) fs | some _ => fs
def sAppend (s : DSt) (nm b : List UInt8) : Int × DSt :=
  if nm = [] then (1, s) else if s.off then (103, s) else
  let f := (getF s.fs nm).getD ⟨[], 0⟩
  let s1 := { s with fs := setF nm ⟨f.c ++ b, f.dur⟩ (withFile nm s.fs) }
  (if wrB s.armed s.left then 0 else 103, wrS s1)

def sChange (s : DSt) (nm : List UInt8) (g : FS → FSt → FS) : Int × DSt :=
  if nm = [] then (1, s) else if s.off then (103, s) else
  match getF s.fs nm with
  | none => (6, s)
  | some f => if wrB s.armed s.left then (0, { wrS s with fs := g s.fs f }) else (103, wrS s)

def sSync (s : DSt) (nm : List UInt8) : Int × DSt := sChange s nm fun fs f => setF nm ⟨f.c, f.c.length⟩ fs
def cutAt (size : Int) (n : Nat) : Nat := min size.toNat n
def sTruncate (s : DSt) (nm : List UInt8) (size : Int) : Int × DSt := sChange s nm fun fs f => setF nm ⟨f.c.take (cutAt size f.c.length), min f.dur (cutAt size f.c.length)⟩ fs
def sRename (s : DSt) (nm to : List UInt8) : Int × DSt := if to = [] then (1, s) else sChange s nm fun fs f => insF (to, f) (delF to (delF nm fs))
def sRemove (s : DSt) (nm : List UInt8) : Int × DSt := sChange s nm fun fs _ => delF nm fs
def sArm (s : DSt) (n : Int) : DSt := { s with armed := true, left := n.toNat }

/-- The next pick modulo n. -/
def below (picks : List Int) (n : Nat) : Nat × List Int := match picks with | [] => (0, []) | p :: ps => ((p % (n : Int)).toNat, ps)
def flipLast (c : List UInt8) : List UInt8 := c.modify (c.length - 1) (fun b => b ^^^ 255)
def zeroLast (k : Nat) (c : List UInt8) : List UInt8 := c.take (c.length - k) ++ List.replicate k 0
def damaged (dm kept : Nat) (c : List UInt8) : List UInt8 := if dm = 1 ∧ 0 < kept then flipLast c else if dm = 2 then zeroLast (min kept 8) c else c
def crashF (picks : List Int) (f : FSt) : FSt × List Int :=
  if f.c.length - f.dur = 0 then (f, picks) else
  let k := below picks (f.c.length - f.dur + 1)
  let m := below k.2 3
  (⟨damaged m.1 k.1 (f.c.take (f.dur + k.1)), f.dur + k.1⟩, m.2)
def crashL : List Int → FS → FS
  | _, [] => []
  | ps, (nm, f) :: l => (nm, (crashF ps f).1) :: crashL (crashF ps f).2 l
def sCrash (s : DSt) (picks : List Int) : DSt := { fs := crashL picks s.fs, off := false, armed := false, left := 0 }
def sNew : DSt := ⟨[], false, false, 0⟩
end Go.Proofs.Ytmapijpphnlcmaa
