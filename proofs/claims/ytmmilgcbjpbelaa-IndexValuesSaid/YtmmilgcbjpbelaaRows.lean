/-
  No cell of these rows narrows 'for every input' (looked for: loops, veiled, ifaces, maps, wideKeys, modest, calm, conditions, laid).
  DERIVED. THE GIVEN ROWS OF THIS SEAT. 6 by the template 'for every input the law returns true; each argument reads behind the call as it read before'; 0 by the template 'total and deterministic' (their statements: YtmmilgcbjpbelaaTotals.lean).
  GIVEN WITH THE SEED: the statements are not yours to turn. If you find one false, say at which input.
  Laid BY PROGRAM, IN A SANDBOX (cutbox-rows.mjs): the forced cells as the released guide's own fill.sh prints them over the translation 761ad77515b3be2b… (all of the seat's roots in one cut). By AI agents, Wed Nov 11 2026. No macro, syntax, notation, axiom, sorry.
-/
import Derived.Test.YtmmilgcbjpbelaaChecked
import GoSem.Claim
import GoSem.ClaimJoined
import GoSem.ClaimMapViews
import Derived.JoinedTies
import Derived.KernelRfl
namespace Go.Proofs.Ytmmilgcbjpbelaa
/- THE CELL 'sum', in the pinned program and in every row, IS THE sha256 OF THE DUMP (.gsa) THAT YtmmilgcbjpbelaaProg.lean LOADS. Nothing in Lean hashes anything: it is a label: what it is worth is what the hold of that sum in a sandbox is worth. -/
noncomputable def Try.pinned : Pinned := { name := "ytmmilgcbjpbelaa", sum := "761ad77515b3be2bdf63c2df119bb455659cb14d67f3ffb4d42c2f1f5d90619e", checked := Try.checked }
namespace Rows
def none {H : Type} : Left H := { results := [], args := [] }

/-- 'slackwaterlaw17.NodeHomes': WHATEVER THE INPUT: true; the input reads as it did. -/
def nodeHomesSpec : ChangeSpec := { name := "nodeHomes", fn := fun _ => fun
  | [d1, d2, d3] => { results := [.lit (.bool true)], args := [d1, d2, d3] }
  | _ => none }
def nodeHomesRow : OpenClaim := { program := "ytmmilgcbjpbelaa", sum := "761ad77515b3be2bdf63c2df119bb455659cb14d67f3ffb4d42c2f1f5d90619e", func := "slackwater/slackwaterlaw17.NodeHomes", spec := "nodeHomes", inPlace := ["internal/abi.NoEscape", "internal/bytealg.MakeNoZero"], apart := false }
def NodeHomesSaid : Prop := nodeHomesRow.holds Try.pinned (OpenSpec.ofChange nodeHomesSpec)

/-- ITS FALSE NEIGHBOUR: 'it returns false'. Refute it at one input. -/
def nodeHomesWrong : ChangeSpec := { name := "nodeHomes", fn := fun _ => fun
  | [d1, d2, d3] => { results := [.lit (.bool false)], args := [d1, d2, d3] }
  | _ => none }
def NodeHomesWrongFalsely : Prop := nodeHomesRow.holds Try.pinned (OpenSpec.ofChange nodeHomesWrong)

/-- 'slackwaterlaw23.IndexFinds': WHATEVER THE INPUT: true; the input reads as it did. -/
def indexFindsSpec : ChangeSpec := { name := "indexFinds", fn := fun _ => fun
  | [d1, d2] => { results := [.lit (.bool true)], args := [d1, d2] }
  | _ => none }
def indexFindsRow : OpenClaim := { program := "ytmmilgcbjpbelaa", sum := "761ad77515b3be2bdf63c2df119bb455659cb14d67f3ffb4d42c2f1f5d90619e", func := "slackwater/slackwaterlaw23.IndexFinds", spec := "indexFinds", inPlace := ["internal/abi.NoEscape", "internal/bytealg.MakeNoZero", "internal/bytealg.IndexByteString", "internal/bytealg.IndexString"], named := ["internal/bytealg.MaxLen"], apart := false }
def IndexFindsSaid : Prop := indexFindsRow.holds Try.pinned (OpenSpec.ofChange indexFindsSpec)

/-- ITS FALSE NEIGHBOUR: 'it returns false'. Refute it at one input. -/
def indexFindsWrong : ChangeSpec := { name := "indexFinds", fn := fun _ => fun
  | [d1, d2] => { results := [.lit (.bool false)], args := [d1, d2] }
  | _ => none }
def IndexFindsWrongFalsely : Prop := indexFindsRow.holds Try.pinned (OpenSpec.ofChange indexFindsWrong)

/-- 'slackwaterlaw23.IndexSplits': WHATEVER THE INPUT: true; the input reads as it did. -/
def indexSplitsSpec : ChangeSpec := { name := "indexSplits", fn := fun _ => fun
  | [d1, d2, d3, d4] => { results := [.lit (.bool true)], args := [d1, d2, d3, d4] }
  | _ => none }
def indexSplitsRow : OpenClaim := { program := "ytmmilgcbjpbelaa", sum := "761ad77515b3be2bdf63c2df119bb455659cb14d67f3ffb4d42c2f1f5d90619e", func := "slackwater/slackwaterlaw23.IndexSplits", spec := "indexSplits", inPlace := ["internal/abi.NoEscape", "internal/bytealg.MakeNoZero", "internal/bytealg.IndexByteString", "internal/bytealg.IndexString"], named := ["internal/bytealg.MaxLen"], apart := false }
def IndexSplitsSaid : Prop := indexSplitsRow.holds Try.pinned (OpenSpec.ofChange indexSplitsSpec)

/-- ITS FALSE NEIGHBOUR: 'it returns false'. Refute it at one input. -/
def indexSplitsWrong : ChangeSpec := { name := "indexSplits", fn := fun _ => fun
  | [d1, d2, d3, d4] => { results := [.lit (.bool false)], args := [d1, d2, d3, d4] }
  | _ => none }
def IndexSplitsWrongFalsely : Prop := indexSplitsRow.holds Try.pinned (OpenSpec.ofChange indexSplitsWrong)

/-- 'slackwaterlaw23.IndexPlays': WHATEVER THE INPUT: true; the input reads as it did. -/
def indexPlaysSpec : ChangeSpec := { name := "indexPlays", fn := fun _ => fun
  | [d1, d2] => { results := [.lit (.bool true)], args := [d1, d2] }
  | _ => none }
def indexPlaysRow : OpenClaim := { program := "ytmmilgcbjpbelaa", sum := "761ad77515b3be2bdf63c2df119bb455659cb14d67f3ffb4d42c2f1f5d90619e", func := "slackwater/slackwaterlaw23.IndexPlays", spec := "indexPlays", inPlace := ["internal/abi.NoEscape", "internal/bytealg.MakeNoZero", "internal/bytealg.IndexByteString", "internal/bytealg.IndexString"], named := ["internal/bytealg.MaxLen"], apart := false }
def IndexPlaysSaid : Prop := indexPlaysRow.holds Try.pinned (OpenSpec.ofChange indexPlaysSpec)

/-- ITS FALSE NEIGHBOUR: 'it returns false'. Refute it at one input. -/
def indexPlaysWrong : ChangeSpec := { name := "indexPlays", fn := fun _ => fun
  | [d1, d2] => { results := [.lit (.bool false)], args := [d1, d2] }
  | _ => none }
def IndexPlaysWrongFalsely : Prop := indexPlaysRow.holds Try.pinned (OpenSpec.ofChange indexPlaysWrong)

/-- 'slackwaterlaw23.IndexValues': WHATEVER THE INPUT: true; the input reads as it did. -/
def indexValuesSpec : ChangeSpec := { name := "indexValues", fn := fun _ => fun
  | [d1, d2] => { results := [.lit (.bool true)], args := [d1, d2] }
  | _ => none }
def indexValuesRow : OpenClaim := { program := "ytmmilgcbjpbelaa", sum := "761ad77515b3be2bdf63c2df119bb455659cb14d67f3ffb4d42c2f1f5d90619e", func := "slackwater/slackwaterlaw23.IndexValues", spec := "indexValues", inPlace := ["internal/abi.NoEscape", "internal/bytealg.MakeNoZero", "internal/bytealg.IndexByteString", "internal/bytealg.IndexString"], recurses := true, named := ["internal/bytealg.MaxLen"], apart := false }
def IndexValuesSaid : Prop := indexValuesRow.holds Try.pinned (OpenSpec.ofChange indexValuesSpec)

/-- ITS FALSE NEIGHBOUR: 'it returns false'. Refute it at one input. -/
def indexValuesWrong : ChangeSpec := { name := "indexValues", fn := fun _ => fun
  | [d1, d2] => { results := [.lit (.bool false)], args := [d1, d2] }
  | _ => none }
def IndexValuesWrongFalsely : Prop := indexValuesRow.holds Try.pinned (OpenSpec.ofChange indexValuesWrong)

/-- 'slackwaterlaw23.IndexNil': WHATEVER THE INPUT: true; the input reads as it did. -/
def indexNilSpec : ChangeSpec := { name := "indexNil", fn := fun _ => fun
  | [d1, d2, d3] => { results := [.lit (.bool true)], args := [d1, d2, d3] }
  | _ => none }
def indexNilRow : OpenClaim := { program := "ytmmilgcbjpbelaa", sum := "761ad77515b3be2bdf63c2df119bb455659cb14d67f3ffb4d42c2f1f5d90619e", func := "slackwater/slackwaterlaw23.IndexNil", spec := "indexNil", inPlace := ["internal/abi.NoEscape", "internal/bytealg.MakeNoZero", "internal/bytealg.IndexByteString", "internal/bytealg.IndexString"], recurses := true, named := ["internal/bytealg.MaxLen"], apart := false }
def IndexNilSaid : Prop := indexNilRow.holds Try.pinned (OpenSpec.ofChange indexNilSpec)

/-- ITS FALSE NEIGHBOUR: 'it returns false'. Refute it at one input. -/
def indexNilWrong : ChangeSpec := { name := "indexNil", fn := fun _ => fun
  | [d1, d2, d3] => { results := [.lit (.bool false)], args := [d1, d2, d3] }
  | _ => none }
def IndexNilWrongFalsely : Prop := indexNilRow.holds Try.pinned (OpenSpec.ofChange indexNilWrong)

/- THE SECOND FORM. 'bulk': how many values and letters a reading holds, each counted each time it is reached (what is shared counts as often as it is met; a slice's spare places count too). A statement '..UptoSaid' is the law's where the arguments, and the package variables that the reading takes, are together of bulk at most 1048576: NARROWER than '..Said'. Prove '..Said' where nothing that the law and all that it calls make is longer than what came in: it says more and counts as full. Else prove '..UptoSaid'. A law counts once. -/
mutual
def uptoBulk {H : Type} : DataW H → Nat
  | .lit (.string bytes) => bytes.length + 1
  | .lit _ => 1
  | .nil => 1
  | .ptr d => uptoBulk d + 1
  | .slice elems spare => uptoBulkAll elems + uptoBulkAll spare + 1
  | .agg parts => uptoBulkAll parts + 1
  | .iface _ d => uptoBulk d + 1
  | .map entries => uptoBulkEntries entries + 1
  | .held _ => 1
def uptoBulkAll {H : Type} : List (DataW H) → Nat
  | [] => 0
  | d :: r => uptoBulk d + uptoBulkAll r
def uptoBulkEntries {H : Type} : List (Lit × DataW H) → Nat
  | [] => 0
  | x :: r => uptoBulkEntry x + uptoBulkEntries r
def uptoBulkEntry {H : Type} : Lit × DataW H → Nat
  | (.string bytes, d) => bytes.length + uptoBulk d + 1
  | (_, d) => uptoBulk d + 1
 end
def uptoSmall : (H : Type) → List (DataW H) → Bool := fun _ ds => decide (uptoBulkAll ds ≤ 1048576)
def OpenSpec.upto (s : _root_.Go.ChangeSpec) : _root_.Go.OpenSpec := { _root_.Go.OpenSpec.ofChange s with cond := some uptoSmall }

/-- 'slackwaterlaw17.NodeHomes', WHERE WHAT IT READS IS OF BULK AT MOST 1048576: true; the input reads as it did. -/
def nodeHomesUptoRow : OpenClaim := { program := "ytmmilgcbjpbelaa", sum := "761ad77515b3be2bdf63c2df119bb455659cb14d67f3ffb4d42c2f1f5d90619e", func := "slackwater/slackwaterlaw17.NodeHomes", spec := "nodeHomes", inPlace := ["internal/abi.NoEscape", "internal/bytealg.MakeNoZero"], apart := false, narrowed := true }
def NodeHomesUptoSaid : Prop := nodeHomesUptoRow.holds Try.pinned (OpenSpec.upto nodeHomesSpec)

/-- 'slackwaterlaw23.IndexFinds', WHERE WHAT IT READS IS OF BULK AT MOST 1048576: true; the input reads as it did. -/
def indexFindsUptoRow : OpenClaim := { program := "ytmmilgcbjpbelaa", sum := "761ad77515b3be2bdf63c2df119bb455659cb14d67f3ffb4d42c2f1f5d90619e", func := "slackwater/slackwaterlaw23.IndexFinds", spec := "indexFinds", inPlace := ["internal/abi.NoEscape", "internal/bytealg.MakeNoZero", "internal/bytealg.IndexByteString", "internal/bytealg.IndexString"], named := ["internal/bytealg.MaxLen"], apart := false, narrowed := true }
def IndexFindsUptoSaid : Prop := indexFindsUptoRow.holds Try.pinned (OpenSpec.upto indexFindsSpec)

/-- 'slackwaterlaw23.IndexSplits', WHERE WHAT IT READS IS OF BULK AT MOST 1048576: true; the input reads as it did. -/
def indexSplitsUptoRow : OpenClaim := { program := "ytmmilgcbjpbelaa", sum := "761ad77515b3be2bdf63c2df119bb455659cb14d67f3ffb4d42c2f1f5d90619e", func := "slackwater/slackwaterlaw23.IndexSplits", spec := "indexSplits", inPlace := ["internal/abi.NoEscape", "internal/bytealg.MakeNoZero", "internal/bytealg.IndexByteString", "internal/bytealg.IndexString"], named := ["internal/bytealg.MaxLen"], apart := false, narrowed := true }
def IndexSplitsUptoSaid : Prop := indexSplitsUptoRow.holds Try.pinned (OpenSpec.upto indexSplitsSpec)

/-- 'slackwaterlaw23.IndexPlays', WHERE WHAT IT READS IS OF BULK AT MOST 1048576: true; the input reads as it did. -/
def indexPlaysUptoRow : OpenClaim := { program := "ytmmilgcbjpbelaa", sum := "761ad77515b3be2bdf63c2df119bb455659cb14d67f3ffb4d42c2f1f5d90619e", func := "slackwater/slackwaterlaw23.IndexPlays", spec := "indexPlays", inPlace := ["internal/abi.NoEscape", "internal/bytealg.MakeNoZero", "internal/bytealg.IndexByteString", "internal/bytealg.IndexString"], named := ["internal/bytealg.MaxLen"], apart := false, narrowed := true }
def IndexPlaysUptoSaid : Prop := indexPlaysUptoRow.holds Try.pinned (OpenSpec.upto indexPlaysSpec)

/-- 'slackwaterlaw23.IndexValues', WHERE WHAT IT READS IS OF BULK AT MOST 1048576: true; the input reads as it did. -/
def indexValuesUptoRow : OpenClaim := { program := "ytmmilgcbjpbelaa", sum := "761ad77515b3be2bdf63c2df119bb455659cb14d67f3ffb4d42c2f1f5d90619e", func := "slackwater/slackwaterlaw23.IndexValues", spec := "indexValues", inPlace := ["internal/abi.NoEscape", "internal/bytealg.MakeNoZero", "internal/bytealg.IndexByteString", "internal/bytealg.IndexString"], recurses := true, named := ["internal/bytealg.MaxLen"], apart := false, narrowed := true }
def IndexValuesUptoSaid : Prop := indexValuesUptoRow.holds Try.pinned (OpenSpec.upto indexValuesSpec)

/-- 'slackwaterlaw23.IndexNil', WHERE WHAT IT READS IS OF BULK AT MOST 1048576: true; the input reads as it did. -/
def indexNilUptoRow : OpenClaim := { program := "ytmmilgcbjpbelaa", sum := "761ad77515b3be2bdf63c2df119bb455659cb14d67f3ffb4d42c2f1f5d90619e", func := "slackwater/slackwaterlaw23.IndexNil", spec := "indexNil", inPlace := ["internal/abi.NoEscape", "internal/bytealg.MakeNoZero", "internal/bytealg.IndexByteString", "internal/bytealg.IndexString"], recurses := true, named := ["internal/bytealg.MaxLen"], apart := false, narrowed := true }
def IndexNilUptoSaid : Prop := indexNilUptoRow.holds Try.pinned (OpenSpec.upto indexNilSpec)

end Rows
end Go.Proofs.Ytmmilgcbjpbelaa
