/-
  No cell of these rows narrows 'for every input' (looked for: loops, veiled, ifaces, maps, wideKeys, modest, calm, conditions, laid).
  DERIVED. THE GIVEN ROWS OF THIS SEAT. 3 by the template 'for every input the law returns true; each argument reads behind the call as it read before'; 0 by the template 'total and deterministic' (their statements: YtengcmfdfmnacaaGreatTotals.lean).
  GIVEN WITH THE SEED: the statements are not yours to turn. If you find one false, say at which input.
  Laid BY PROGRAM, IN A SANDBOX (cutbox-rows.mjs): the forced cells as the released guide's own fill.sh prints them over the translation 63101c3f77d40f95… (all of the seat's roots in one cut). By AI agents, Wed Nov 11 2026. No macro, syntax, notation, axiom, sorry.
-/
import Derived.Test.YtengcmfdfmnacaaGreatChecked
import GoSem.Claim
import GoSem.ClaimJoined
import GoSem.ClaimMapViews
import Derived.JoinedTies
import Derived.KernelRfl
namespace Go.Proofs.YtengcmfdfmnacaaGreat
/- THE CELL 'sum', in the pinned program and in every row, IS THE sha256 OF THE DUMP (.gsa) THAT YtengcmfdfmnacaaGreatProg.lean LOADS. Nothing in Lean hashes anything: it is a label: what it is worth is what the hold of that sum in a sandbox is worth. -/
noncomputable def Tryz.pinned : Pinned := { name := "ytengcmfdfmnacaagreat", sum := "63101c3f77d40f95967644d06670fce4b87c85c3cc8e770c90cef9a47711780b", checked := Tryz.checked }
namespace Rows
def none {H : Type} : Left H := { results := [], args := [] }

/-- 'forkledgerlaw25.ItemsGenesis': WHATEVER THE INPUT: true; the input reads as it did. -/
def itemsGenesisSpec : ChangeSpec := { name := "itemsGenesis", fn := fun _ => fun
  | [d] => { results := [.lit (.bool true)], args := [d] }
  | _ => none }
def itemsGenesisRow : OpenClaim := { program := "ytengcmfdfmnacaagreat", sum := "63101c3f77d40f95967644d06670fce4b87c85c3cc8e770c90cef9a47711780b", func := "forkledger/forkledgerlaw25.ItemsGenesis", spec := "itemsGenesis", inPlace := ["slices.overlaps[forkledger/api.Delta]", "internal/bytealg.Compare", "internal/reflectlite.ValueOf", "internal/reflectlite.Swapper", "(internal/reflectlite.Value).Len", "slices.overlaps[forkledger/api.Lock]", "slices.overlaps[forkledger/api.Name]"], unfollowed := true, recurses := true, plainKeys := false, apart := false }
def ItemsGenesisSaid : Prop := itemsGenesisRow.holds Tryz.pinned (OpenSpec.ofChange itemsGenesisSpec)

/-- ITS FALSE NEIGHBOUR: 'it returns false'. Refute it at one input. -/
def itemsGenesisWrong : ChangeSpec := { name := "itemsGenesis", fn := fun _ => fun
  | [d] => { results := [.lit (.bool false)], args := [d] }
  | _ => none }
def ItemsGenesisWrongFalsely : Prop := itemsGenesisRow.holds Tryz.pinned (OpenSpec.ofChange itemsGenesisWrong)

/-- 'forkledgerlaw25.ItemsGraph': WHATEVER THE INPUT: true; the input reads as it did. -/
def itemsGraphSpec : ChangeSpec := { name := "itemsGraph", fn := fun _ => fun
  | [d1, d2, d3] => { results := [.lit (.bool true)], args := [d1, d2, d3] }
  | _ => none }
def itemsGraphRow : OpenClaim := { program := "ytengcmfdfmnacaagreat", sum := "63101c3f77d40f95967644d06670fce4b87c85c3cc8e770c90cef9a47711780b", func := "forkledger/forkledgerlaw25.ItemsGraph", spec := "itemsGraph", inPlace := ["slices.overlaps[forkledger/api.Delta]", "internal/bytealg.Compare", "internal/reflectlite.ValueOf", "internal/reflectlite.Swapper", "(internal/reflectlite.Value).Len", "slices.overlaps[forkledger/api.Lock]", "slices.overlaps[forkledger/api.Name]"], unfollowed := true, recurses := true, plainKeys := false, apart := false }
def ItemsGraphSaid : Prop := itemsGraphRow.holds Tryz.pinned (OpenSpec.ofChange itemsGraphSpec)

/-- ITS FALSE NEIGHBOUR: 'it returns false'. Refute it at one input. -/
def itemsGraphWrong : ChangeSpec := { name := "itemsGraph", fn := fun _ => fun
  | [d1, d2, d3] => { results := [.lit (.bool false)], args := [d1, d2, d3] }
  | _ => none }
def ItemsGraphWrongFalsely : Prop := itemsGraphRow.holds Tryz.pinned (OpenSpec.ofChange itemsGraphWrong)

/-- 'forkledgerlaw25.ItemsText': WHATEVER THE INPUT: true; the input reads as it did. -/
def itemsTextSpec : ChangeSpec := { name := "itemsText", fn := fun _ => fun
  | [d1, d2, d3, d4] => { results := [.lit (.bool true)], args := [d1, d2, d3, d4] }
  | _ => none }
def itemsTextRow : OpenClaim := { program := "ytengcmfdfmnacaagreat", sum := "63101c3f77d40f95967644d06670fce4b87c85c3cc8e770c90cef9a47711780b", func := "forkledger/forkledgerlaw25.ItemsText", spec := "itemsText", inPlace := ["slices.overlaps[forkledger/api.Delta]", "internal/bytealg.Compare", "internal/reflectlite.ValueOf", "internal/reflectlite.Swapper", "(internal/reflectlite.Value).Len", "slices.overlaps[forkledger/api.Lock]", "slices.overlaps[forkledger/api.Name]"], unfollowed := true, recurses := true, plainKeys := false, apart := false }
def ItemsTextSaid : Prop := itemsTextRow.holds Tryz.pinned (OpenSpec.ofChange itemsTextSpec)

/-- ITS FALSE NEIGHBOUR: 'it returns false'. Refute it at one input. -/
def itemsTextWrong : ChangeSpec := { name := "itemsText", fn := fun _ => fun
  | [d1, d2, d3, d4] => { results := [.lit (.bool false)], args := [d1, d2, d3, d4] }
  | _ => none }
def ItemsTextWrongFalsely : Prop := itemsTextRow.holds Tryz.pinned (OpenSpec.ofChange itemsTextWrong)

/- THE SECOND FORM. 'bulk': how many values and letters a reading holds, each counted each time it is reached (what is shared counts as often as it is met; a slice's spare places count too). A statement '..UptoSaid' is the law's where the arguments, and the package variables that the reading takes, are together of bulk at most 1048576: NARROWER than '..Said'. Prove '..Said' where nothing that the law and all that it calls make is longer than what came in: it says more and counts as full. Else prove '..UptoSaid'. A law counts once. -/
mutual
def uptoBulk {H : Type} : DataW H → Nat
  | .lit (.string bytes) => bytes.length + 1
  | .lit _ => 1
  | .nil => 1
  | .ptr d => uptoBulk d + 1
  | .slice elems spare => uptoBulkAll elems + uptoBulkAll spare + 1
  | .agg parts => uptoBulkAll parts + 1
  | .iface _ d => uptoBulk d + 1
  | .map entries => uptoBulkEntries entries + 1
  | .held _ => 1
def uptoBulkAll {H : Type} : List (DataW H) → Nat
  | [] => 0
  | d :: r => uptoBulk d + uptoBulkAll r
def uptoBulkEntries {H : Type} : List (Lit × DataW H) → Nat
  | [] => 0
  | x :: r => uptoBulkEntry x + uptoBulkEntries r
def uptoBulkEntry {H : Type} : Lit × DataW H → Nat
  | (.string bytes, d) => bytes.length + uptoBulk d + 1
  | (_, d) => uptoBulk d + 1
 end
def uptoSmall : (H : Type) → List (DataW H) → Bool := fun _ ds => decide (uptoBulkAll ds ≤ 1048576)
def OpenSpec.upto (s : _root_.Go.ChangeSpec) : _root_.Go.OpenSpec := { _root_.Go.OpenSpec.ofChange s with cond := some uptoSmall }

/-- 'forkledgerlaw25.ItemsGenesis', WHERE WHAT IT READS IS OF BULK AT MOST 1048576: true; the input reads as it did. -/
def itemsGenesisUptoRow : OpenClaim := { program := "ytengcmfdfmnacaagreat", sum := "63101c3f77d40f95967644d06670fce4b87c85c3cc8e770c90cef9a47711780b", func := "forkledger/forkledgerlaw25.ItemsGenesis", spec := "itemsGenesis", inPlace := ["slices.overlaps[forkledger/api.Delta]", "internal/bytealg.Compare", "internal/reflectlite.ValueOf", "internal/reflectlite.Swapper", "(internal/reflectlite.Value).Len", "slices.overlaps[forkledger/api.Lock]", "slices.overlaps[forkledger/api.Name]"], unfollowed := true, recurses := true, plainKeys := false, apart := false, narrowed := true }
def ItemsGenesisUptoSaid : Prop := itemsGenesisUptoRow.holds Tryz.pinned (OpenSpec.upto itemsGenesisSpec)

/-- 'forkledgerlaw25.ItemsGraph', WHERE WHAT IT READS IS OF BULK AT MOST 1048576: true; the input reads as it did. -/
def itemsGraphUptoRow : OpenClaim := { program := "ytengcmfdfmnacaagreat", sum := "63101c3f77d40f95967644d06670fce4b87c85c3cc8e770c90cef9a47711780b", func := "forkledger/forkledgerlaw25.ItemsGraph", spec := "itemsGraph", inPlace := ["slices.overlaps[forkledger/api.Delta]", "internal/bytealg.Compare", "internal/reflectlite.ValueOf", "internal/reflectlite.Swapper", "(internal/reflectlite.Value).Len", "slices.overlaps[forkledger/api.Lock]", "slices.overlaps[forkledger/api.Name]"], unfollowed := true, recurses := true, plainKeys := false, apart := false, narrowed := true }
def ItemsGraphUptoSaid : Prop := itemsGraphUptoRow.holds Tryz.pinned (OpenSpec.upto itemsGraphSpec)

/-- 'forkledgerlaw25.ItemsText', WHERE WHAT IT READS IS OF BULK AT MOST 1048576: true; the input reads as it did. -/
def itemsTextUptoRow : OpenClaim := { program := "ytengcmfdfmnacaagreat", sum := "63101c3f77d40f95967644d06670fce4b87c85c3cc8e770c90cef9a47711780b", func := "forkledger/forkledgerlaw25.ItemsText", spec := "itemsText", inPlace := ["slices.overlaps[forkledger/api.Delta]", "internal/bytealg.Compare", "internal/reflectlite.ValueOf", "internal/reflectlite.Swapper", "(internal/reflectlite.Value).Len", "slices.overlaps[forkledger/api.Lock]", "slices.overlaps[forkledger/api.Name]"], unfollowed := true, recurses := true, plainKeys := false, apart := false, narrowed := true }
def ItemsTextUptoSaid : Prop := itemsTextUptoRow.holds Tryz.pinned (OpenSpec.upto itemsTextSpec)

end Rows
end Go.Proofs.YtengcmfdfmnacaaGreat
