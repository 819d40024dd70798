/-
  No cell of these rows narrows 'for every input' (looked for: loops, veiled, ifaces, maps, wideKeys, modest, calm, conditions, laid).
  DERIVED. THE GIVEN ROWS OF THIS SEAT. 4 by the template 'for every input the law returns true; each argument reads behind the call as it read before'; 0 by the template 'total and deterministic' (their statements: YtbgificdilpdcaaGreatTotals.lean).
  GIVEN WITH THE SEED: the statements are not yours to turn. If you find one false, say at which input.
  Laid BY PROGRAM, IN A SANDBOX (cutbox-rows.mjs): the forced cells as the released guide's own fill.sh prints them over the translation 8bc2e6fa6652c2af… (all of the seat's roots in one cut). By AI agents, Wed Nov 11 2026. No macro, syntax, notation, axiom, sorry.
-/
import Derived.Test.YtbgificdilpdcaaGreatChecked
import GoSem.Claim
import GoSem.ClaimJoined
import GoSem.ClaimMapViews
import Derived.JoinedTies
import Derived.KernelRfl
namespace Go.Proofs.YtbgificdilpdcaaGreat
/- THE CELL 'sum', in the pinned program and in every row, IS THE sha256 OF THE DUMP (.gsa) THAT YtbgificdilpdcaaGreatProg.lean LOADS. Nothing in Lean hashes anything: it is a label: what it is worth is what the hold of that sum in a sandbox is worth. -/
noncomputable def Tryz.pinned : Pinned := { name := "ytbgificdilpdcaagreat", sum := "8bc2e6fa6652c2af55ce4b0e224c459c0a7853815c588504e5643462353d04cd", checked := Tryz.checked }
namespace Rows
def none {H : Type} : Left H := { results := [], args := [] }

/-- 'forkledgerlaw32.SnapshotEncode': WHATEVER THE INPUT: true; the input reads as it did. -/
def snapshotEncodeSpec : ChangeSpec := { name := "snapshotEncode", fn := fun _ => fun
  | [d] => { results := [.lit (.bool true)], args := [d] }
  | _ => none }
def snapshotEncodeRow : OpenClaim := { program := "ytbgificdilpdcaagreat", sum := "8bc2e6fa6652c2af55ce4b0e224c459c0a7853815c588504e5643462353d04cd", func := "forkledger/forkledgerlaw32.SnapshotEncode", spec := "snapshotEncode", inPlace := ["internal/bytealg.Compare"], unfollowed := true, recurses := true, apart := false }
def SnapshotEncodeSaid : Prop := snapshotEncodeRow.holds Tryz.pinned (OpenSpec.ofChange snapshotEncodeSpec)

/-- ITS FALSE NEIGHBOUR: 'it returns false'. Refute it at one input. -/
def snapshotEncodeWrong : ChangeSpec := { name := "snapshotEncode", fn := fun _ => fun
  | [d] => { results := [.lit (.bool false)], args := [d] }
  | _ => none }
def SnapshotEncodeWrongFalsely : Prop := snapshotEncodeRow.holds Tryz.pinned (OpenSpec.ofChange snapshotEncodeWrong)

/-- 'forkledgerlaw32.SnapshotDecode': WHATEVER THE INPUT: true; the input reads as it did. -/
def snapshotDecodeSpec : ChangeSpec := { name := "snapshotDecode", fn := fun _ => fun
  | [d] => { results := [.lit (.bool true)], args := [d] }
  | _ => none }
def snapshotDecodeRow : OpenClaim := { program := "ytbgificdilpdcaagreat", sum := "8bc2e6fa6652c2af55ce4b0e224c459c0a7853815c588504e5643462353d04cd", func := "forkledger/forkledgerlaw32.SnapshotDecode", spec := "snapshotDecode", inPlace := ["internal/bytealg.Compare"], unfollowed := true, recurses := true, apart := false }
def SnapshotDecodeSaid : Prop := snapshotDecodeRow.holds Tryz.pinned (OpenSpec.ofChange snapshotDecodeSpec)

/-- ITS FALSE NEIGHBOUR: 'it returns false'. Refute it at one input. -/
def snapshotDecodeWrong : ChangeSpec := { name := "snapshotDecode", fn := fun _ => fun
  | [d] => { results := [.lit (.bool false)], args := [d] }
  | _ => none }
def SnapshotDecodeWrongFalsely : Prop := snapshotDecodeRow.holds Tryz.pinned (OpenSpec.ofChange snapshotDecodeWrong)

/-- 'forkledgerlaw32.SnapshotDamaged': WHATEVER THE INPUT: true; the input reads as it did. -/
def snapshotDamagedSpec : ChangeSpec := { name := "snapshotDamaged", fn := fun _ => fun
  | [d] => { results := [.lit (.bool true)], args := [d] }
  | _ => none }
def snapshotDamagedRow : OpenClaim := { program := "ytbgificdilpdcaagreat", sum := "8bc2e6fa6652c2af55ce4b0e224c459c0a7853815c588504e5643462353d04cd", func := "forkledger/forkledgerlaw32.SnapshotDamaged", spec := "snapshotDamaged", inPlace := ["internal/bytealg.Compare"], unfollowed := true, recurses := true, apart := false }
def SnapshotDamagedSaid : Prop := snapshotDamagedRow.holds Tryz.pinned (OpenSpec.ofChange snapshotDamagedSpec)

/-- ITS FALSE NEIGHBOUR: 'it returns false'. Refute it at one input. -/
def snapshotDamagedWrong : ChangeSpec := { name := "snapshotDamaged", fn := fun _ => fun
  | [d] => { results := [.lit (.bool false)], args := [d] }
  | _ => none }
def SnapshotDamagedWrongFalsely : Prop := snapshotDamagedRow.holds Tryz.pinned (OpenSpec.ofChange snapshotDamagedWrong)

/-- 'forkledgerlaw32.SnapshotFile': WHATEVER THE INPUT: true; the input reads as it did. -/
def snapshotFileSpec : ChangeSpec := { name := "snapshotFile", fn := fun _ => fun
  | [d1, d2, d3, d4] => { results := [.lit (.bool true)], args := [d1, d2, d3, d4] }
  | _ => none }
def snapshotFileRow : OpenClaim := { program := "ytbgificdilpdcaagreat", sum := "8bc2e6fa6652c2af55ce4b0e224c459c0a7853815c588504e5643462353d04cd", func := "forkledger/forkledgerlaw32.SnapshotFile", spec := "snapshotFile", inPlace := ["internal/bytealg.Compare"], unfollowed := true, recurses := true, apart := false }
def SnapshotFileSaid : Prop := snapshotFileRow.holds Tryz.pinned (OpenSpec.ofChange snapshotFileSpec)

/-- ITS FALSE NEIGHBOUR: 'it returns false'. Refute it at one input. -/
def snapshotFileWrong : ChangeSpec := { name := "snapshotFile", fn := fun _ => fun
  | [d1, d2, d3, d4] => { results := [.lit (.bool false)], args := [d1, d2, d3, d4] }
  | _ => none }
def SnapshotFileWrongFalsely : Prop := snapshotFileRow.holds Tryz.pinned (OpenSpec.ofChange snapshotFileWrong)

/- THE SECOND FORM. 'bulk': how many values and letters a reading holds, each counted each time it is reached (what is shared counts as often as it is met; a slice's spare places count too). A statement '..UptoSaid' is the law's where the arguments, and the package variables that the reading takes, are together of bulk at most 1048576: NARROWER than '..Said'. Prove '..Said' where nothing that the law and all that it calls make is longer than what came in: it says more and counts as full. Else prove '..UptoSaid'. A law counts once. -/
mutual
def uptoBulk {H : Type} : DataW H → Nat
  | .lit (.string bytes) => bytes.length + 1
  | .lit _ => 1
  | .nil => 1
  | .ptr d => uptoBulk d + 1
  | .slice elems spare => uptoBulkAll elems + uptoBulkAll spare + 1
  | .agg parts => uptoBulkAll parts + 1
  | .iface _ d => uptoBulk d + 1
  | .map entries => uptoBulkEntries entries + 1
  | .held _ => 1
def uptoBulkAll {H : Type} : List (DataW H) → Nat
  | [] => 0
  | d :: r => uptoBulk d + uptoBulkAll r
def uptoBulkEntries {H : Type} : List (Lit × DataW H) → Nat
  | [] => 0
  | x :: r => uptoBulkEntry x + uptoBulkEntries r
def uptoBulkEntry {H : Type} : Lit × DataW H → Nat
  | (.string bytes, d) => bytes.length + uptoBulk d + 1
  | (_, d) => uptoBulk d + 1
 end
def uptoSmall : (H : Type) → List (DataW H) → Bool := fun _ ds => decide (uptoBulkAll ds ≤ 1048576)
def OpenSpec.upto (s : _root_.Go.ChangeSpec) : _root_.Go.OpenSpec := { _root_.Go.OpenSpec.ofChange s with cond := some uptoSmall }

/-- 'forkledgerlaw32.SnapshotEncode', WHERE WHAT IT READS IS OF BULK AT MOST 1048576: true; the input reads as it did. -/
def snapshotEncodeUptoRow : OpenClaim := { program := "ytbgificdilpdcaagreat", sum := "8bc2e6fa6652c2af55ce4b0e224c459c0a7853815c588504e5643462353d04cd", func := "forkledger/forkledgerlaw32.SnapshotEncode", spec := "snapshotEncode", inPlace := ["internal/bytealg.Compare"], unfollowed := true, recurses := true, apart := false, narrowed := true }
def SnapshotEncodeUptoSaid : Prop := snapshotEncodeUptoRow.holds Tryz.pinned (OpenSpec.upto snapshotEncodeSpec)

/-- 'forkledgerlaw32.SnapshotDecode', WHERE WHAT IT READS IS OF BULK AT MOST 1048576: true; the input reads as it did. -/
def snapshotDecodeUptoRow : OpenClaim := { program := "ytbgificdilpdcaagreat", sum := "8bc2e6fa6652c2af55ce4b0e224c459c0a7853815c588504e5643462353d04cd", func := "forkledger/forkledgerlaw32.SnapshotDecode", spec := "snapshotDecode", inPlace := ["internal/bytealg.Compare"], unfollowed := true, recurses := true, apart := false, narrowed := true }
def SnapshotDecodeUptoSaid : Prop := snapshotDecodeUptoRow.holds Tryz.pinned (OpenSpec.upto snapshotDecodeSpec)

/-- 'forkledgerlaw32.SnapshotDamaged', WHERE WHAT IT READS IS OF BULK AT MOST 1048576: true; the input reads as it did. -/
def snapshotDamagedUptoRow : OpenClaim := { program := "ytbgificdilpdcaagreat", sum := "8bc2e6fa6652c2af55ce4b0e224c459c0a7853815c588504e5643462353d04cd", func := "forkledger/forkledgerlaw32.SnapshotDamaged", spec := "snapshotDamaged", inPlace := ["internal/bytealg.Compare"], unfollowed := true, recurses := true, apart := false, narrowed := true }
def SnapshotDamagedUptoSaid : Prop := snapshotDamagedUptoRow.holds Tryz.pinned (OpenSpec.upto snapshotDamagedSpec)

/-- 'forkledgerlaw32.SnapshotFile', WHERE WHAT IT READS IS OF BULK AT MOST 1048576: true; the input reads as it did. -/
def snapshotFileUptoRow : OpenClaim := { program := "ytbgificdilpdcaagreat", sum := "8bc2e6fa6652c2af55ce4b0e224c459c0a7853815c588504e5643462353d04cd", func := "forkledger/forkledgerlaw32.SnapshotFile", spec := "snapshotFile", inPlace := ["internal/bytealg.Compare"], unfollowed := true, recurses := true, apart := false, narrowed := true }
def SnapshotFileUptoSaid : Prop := snapshotFileUptoRow.holds Tryz.pinned (OpenSpec.upto snapshotFileSpec)

end Rows
end Go.Proofs.YtbgificdilpdcaaGreat
