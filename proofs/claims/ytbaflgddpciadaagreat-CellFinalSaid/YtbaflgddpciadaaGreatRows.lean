/-
  No cell of these rows narrows 'for every input' (looked for: loops, veiled, ifaces, maps, wideKeys, modest, calm, conditions, laid).
  DERIVED. THE GIVEN ROWS OF THIS SEAT. 11 by the template 'for every input the law returns true; each argument reads behind the call as it read before'; 0 by the template 'total and deterministic' (their statements: YtbaflgddpciadaaGreatTotals.lean).
  GIVEN WITH THE SEED: the statements are not yours to turn. If you find one false, say at which input.
  Laid BY PROGRAM, IN A SANDBOX (cutbox-rows.mjs): the forced cells as the released guide's own fill.sh prints them over the translation 40da58ef5087dc00… (all of the seat's roots in one cut). By AI agents, Wed Nov 11 2026. No macro, syntax, notation, axiom, sorry.
-/
import Derived.Test.YtbaflgddpciadaaGreatChecked
import GoSem.Claim
import GoSem.ClaimJoined
import GoSem.ClaimMapViews
import Derived.JoinedTies
import Derived.KernelRfl
namespace Go.Proofs.YtbaflgddpciadaaGreat
/- THE CELL 'sum', in the pinned program and in every row, IS THE sha256 OF THE DUMP (.gsa) THAT YtbaflgddpciadaaGreatProg.lean LOADS. Nothing in Lean hashes anything: it is a label: what it is worth is what the hold of that sum in a sandbox is worth. -/
noncomputable def Tryz.pinned : Pinned := { name := "ytbaflgddpciadaagreat", sum := "40da58ef5087dc009ebc73369f275f65ea6d7768517cd33a15851cb0f89b11ce", checked := Tryz.checked }
namespace Rows
def none {H : Type} : Left H := { results := [], args := [] }

/-- 'slackwaterlaw14.CellReads': WHATEVER THE INPUT: true; the input reads as it did. -/
def cellReadsSpec : ChangeSpec := { name := "cellReads", fn := fun _ => fun
  | [d1, d2, d3, d4, d5] => { results := [.lit (.bool true)], args := [d1, d2, d3, d4, d5] }
  | _ => none }
def cellReadsRow : OpenClaim := { program := "ytbaflgddpciadaagreat", sum := "40da58ef5087dc009ebc73369f275f65ea6d7768517cd33a15851cb0f89b11ce", func := "slackwater/slackwaterlaw14.CellReads", spec := "cellReads", inPlace := ["internal/bytealg.abigen_runtime_cmpstring", "internal/abi.NoEscape", "internal/bytealg.MakeNoZero", "slices.overlaps[slackwater/chain.Version]", "internal/bytealg.IndexByteString", "internal/bytealg.IndexString"], unfollowed := true, recurses := true, named := ["internal/bytealg.MaxLen"], apart := false }
def CellReadsSaid : Prop := cellReadsRow.holds Tryz.pinned (OpenSpec.ofChange cellReadsSpec)

/-- ITS FALSE NEIGHBOUR: 'it returns false'. Refute it at one input. -/
def cellReadsWrong : ChangeSpec := { name := "cellReads", fn := fun _ => fun
  | [d1, d2, d3, d4, d5] => { results := [.lit (.bool false)], args := [d1, d2, d3, d4, d5] }
  | _ => none }
def CellReadsWrongFalsely : Prop := cellReadsRow.holds Tryz.pinned (OpenSpec.ofChange cellReadsWrong)

/-- 'slackwaterlaw14.CellFinal': WHATEVER THE INPUT: true; the input reads as it did. -/
def cellFinalSpec : ChangeSpec := { name := "cellFinal", fn := fun _ => fun
  | [d1, d2] => { results := [.lit (.bool true)], args := [d1, d2] }
  | _ => none }
def cellFinalRow : OpenClaim := { program := "ytbaflgddpciadaagreat", sum := "40da58ef5087dc009ebc73369f275f65ea6d7768517cd33a15851cb0f89b11ce", func := "slackwater/slackwaterlaw14.CellFinal", spec := "cellFinal", inPlace := ["internal/bytealg.abigen_runtime_cmpstring", "internal/abi.NoEscape", "internal/bytealg.MakeNoZero", "slices.overlaps[slackwater/chain.Version]", "internal/bytealg.IndexByteString", "internal/bytealg.IndexString"], unfollowed := true, recurses := true, named := ["internal/bytealg.MaxLen"], apart := false }
def CellFinalSaid : Prop := cellFinalRow.holds Tryz.pinned (OpenSpec.ofChange cellFinalSpec)

/-- ITS FALSE NEIGHBOUR: 'it returns false'. Refute it at one input. -/
def cellFinalWrong : ChangeSpec := { name := "cellFinal", fn := fun _ => fun
  | [d1, d2] => { results := [.lit (.bool false)], args := [d1, d2] }
  | _ => none }
def CellFinalWrongFalsely : Prop := cellFinalRow.holds Tryz.pinned (OpenSpec.ofChange cellFinalWrong)

/-- 'slackwaterlaw14.CellOnce': WHATEVER THE INPUT: true; the input reads as it did. -/
def cellOnceSpec : ChangeSpec := { name := "cellOnce", fn := fun _ => fun
  | [d] => { results := [.lit (.bool true)], args := [d] }
  | _ => none }
def cellOnceRow : OpenClaim := { program := "ytbaflgddpciadaagreat", sum := "40da58ef5087dc009ebc73369f275f65ea6d7768517cd33a15851cb0f89b11ce", func := "slackwater/slackwaterlaw14.CellOnce", spec := "cellOnce", inPlace := ["internal/bytealg.abigen_runtime_cmpstring", "internal/abi.NoEscape", "internal/bytealg.MakeNoZero", "slices.overlaps[slackwater/chain.Version]", "internal/bytealg.IndexByteString", "internal/bytealg.IndexString"], unfollowed := true, recurses := true, named := ["internal/bytealg.MaxLen"], apart := false }
def CellOnceSaid : Prop := cellOnceRow.holds Tryz.pinned (OpenSpec.ofChange cellOnceSpec)

/-- ITS FALSE NEIGHBOUR: 'it returns false'. Refute it at one input. -/
def cellOnceWrong : ChangeSpec := { name := "cellOnce", fn := fun _ => fun
  | [d] => { results := [.lit (.bool false)], args := [d] }
  | _ => none }
def CellOnceWrongFalsely : Prop := cellOnceRow.holds Tryz.pinned (OpenSpec.ofChange cellOnceWrong)

/-- 'slackwaterlaw14.CellBatches': WHATEVER THE INPUT: true; the input reads as it did. -/
def cellBatchesSpec : ChangeSpec := { name := "cellBatches", fn := fun _ => fun
  | [d1, d2] => { results := [.lit (.bool true)], args := [d1, d2] }
  | _ => none }
def cellBatchesRow : OpenClaim := { program := "ytbaflgddpciadaagreat", sum := "40da58ef5087dc009ebc73369f275f65ea6d7768517cd33a15851cb0f89b11ce", func := "slackwater/slackwaterlaw14.CellBatches", spec := "cellBatches", inPlace := ["internal/bytealg.abigen_runtime_cmpstring", "internal/abi.NoEscape", "internal/bytealg.MakeNoZero", "slices.overlaps[slackwater/chain.Version]", "internal/bytealg.IndexByteString", "internal/bytealg.IndexString"], unfollowed := true, recurses := true, named := ["internal/bytealg.MaxLen"], apart := false }
def CellBatchesSaid : Prop := cellBatchesRow.holds Tryz.pinned (OpenSpec.ofChange cellBatchesSpec)

/-- ITS FALSE NEIGHBOUR: 'it returns false'. Refute it at one input. -/
def cellBatchesWrong : ChangeSpec := { name := "cellBatches", fn := fun _ => fun
  | [d1, d2] => { results := [.lit (.bool false)], args := [d1, d2] }
  | _ => none }
def CellBatchesWrongFalsely : Prop := cellBatchesRow.holds Tryz.pinned (OpenSpec.ofChange cellBatchesWrong)

/-- 'slackwaterlaw14.CellFull': WHATEVER THE INPUT: true; the input reads as it did. -/
def cellFullSpec : ChangeSpec := { name := "cellFull", fn := fun _ => fun
  | [] => { results := [.lit (.bool true)], args := [] }
  | _ => none }
def cellFullRow : OpenClaim := { program := "ytbaflgddpciadaagreat", sum := "40da58ef5087dc009ebc73369f275f65ea6d7768517cd33a15851cb0f89b11ce", func := "slackwater/slackwaterlaw14.CellFull", spec := "cellFull", inPlace := ["internal/bytealg.abigen_runtime_cmpstring", "internal/abi.NoEscape", "internal/bytealg.MakeNoZero", "slices.overlaps[slackwater/chain.Version]", "internal/bytealg.IndexByteString", "internal/bytealg.IndexString"], unfollowed := true, recurses := true, named := ["internal/bytealg.MaxLen"], apart := false }
def CellFullSaid : Prop := cellFullRow.holds Tryz.pinned (OpenSpec.ofChange cellFullSpec)

/-- ITS FALSE NEIGHBOUR: 'it returns false'. Refute it at one input. -/
def cellFullWrong : ChangeSpec := { name := "cellFull", fn := fun _ => fun
  | [] => { results := [.lit (.bool false)], args := [] }
  | _ => none }
def CellFullWrongFalsely : Prop := cellFullRow.holds Tryz.pinned (OpenSpec.ofChange cellFullWrong)

/-- 'slackwaterlaw14.CellNumbers': WHATEVER THE INPUT: true; the input reads as it did. -/
def cellNumbersSpec : ChangeSpec := { name := "cellNumbers", fn := fun _ => fun
  | [d] => { results := [.lit (.bool true)], args := [d] }
  | _ => none }
def cellNumbersRow : OpenClaim := { program := "ytbaflgddpciadaagreat", sum := "40da58ef5087dc009ebc73369f275f65ea6d7768517cd33a15851cb0f89b11ce", func := "slackwater/slackwaterlaw14.CellNumbers", spec := "cellNumbers", inPlace := ["internal/bytealg.abigen_runtime_cmpstring", "internal/abi.NoEscape", "internal/bytealg.MakeNoZero", "slices.overlaps[slackwater/chain.Version]", "internal/bytealg.IndexByteString", "internal/bytealg.IndexString"], unfollowed := true, recurses := true, named := ["internal/bytealg.MaxLen"], apart := false }
def CellNumbersSaid : Prop := cellNumbersRow.holds Tryz.pinned (OpenSpec.ofChange cellNumbersSpec)

/-- ITS FALSE NEIGHBOUR: 'it returns false'. Refute it at one input. -/
def cellNumbersWrong : ChangeSpec := { name := "cellNumbers", fn := fun _ => fun
  | [d] => { results := [.lit (.bool false)], args := [d] }
  | _ => none }
def CellNumbersWrongFalsely : Prop := cellNumbersRow.holds Tryz.pinned (OpenSpec.ofChange cellNumbersWrong)

/-- 'slackwaterlaw14.CellBehind': WHATEVER THE INPUT: true; the input reads as it did. -/
def cellBehindSpec : ChangeSpec := { name := "cellBehind", fn := fun _ => fun
  | [d] => { results := [.lit (.bool true)], args := [d] }
  | _ => none }
def cellBehindRow : OpenClaim := { program := "ytbaflgddpciadaagreat", sum := "40da58ef5087dc009ebc73369f275f65ea6d7768517cd33a15851cb0f89b11ce", func := "slackwater/slackwaterlaw14.CellBehind", spec := "cellBehind", inPlace := ["internal/bytealg.abigen_runtime_cmpstring", "internal/abi.NoEscape", "internal/bytealg.MakeNoZero", "slices.overlaps[slackwater/chain.Version]", "internal/bytealg.IndexByteString", "internal/bytealg.IndexString"], unfollowed := true, recurses := true, named := ["internal/bytealg.MaxLen"], apart := false }
def CellBehindSaid : Prop := cellBehindRow.holds Tryz.pinned (OpenSpec.ofChange cellBehindSpec)

/-- ITS FALSE NEIGHBOUR: 'it returns false'. Refute it at one input. -/
def cellBehindWrong : ChangeSpec := { name := "cellBehind", fn := fun _ => fun
  | [d] => { results := [.lit (.bool false)], args := [d] }
  | _ => none }
def CellBehindWrongFalsely : Prop := cellBehindRow.holds Tryz.pinned (OpenSpec.ofChange cellBehindWrong)

/-- 'slackwaterlaw14.CellRises': WHATEVER THE INPUT: true; the input reads as it did. -/
def cellRisesSpec : ChangeSpec := { name := "cellRises", fn := fun _ => fun
  | [d] => { results := [.lit (.bool true)], args := [d] }
  | _ => none }
def cellRisesRow : OpenClaim := { program := "ytbaflgddpciadaagreat", sum := "40da58ef5087dc009ebc73369f275f65ea6d7768517cd33a15851cb0f89b11ce", func := "slackwater/slackwaterlaw14.CellRises", spec := "cellRises", inPlace := ["internal/bytealg.abigen_runtime_cmpstring", "internal/abi.NoEscape", "internal/bytealg.MakeNoZero", "slices.overlaps[slackwater/chain.Version]", "internal/bytealg.IndexByteString", "internal/bytealg.IndexString"], unfollowed := true, recurses := true, named := ["internal/bytealg.MaxLen"], apart := false }
def CellRisesSaid : Prop := cellRisesRow.holds Tryz.pinned (OpenSpec.ofChange cellRisesSpec)

/-- ITS FALSE NEIGHBOUR: 'it returns false'. Refute it at one input. -/
def cellRisesWrong : ChangeSpec := { name := "cellRises", fn := fun _ => fun
  | [d] => { results := [.lit (.bool false)], args := [d] }
  | _ => none }
def CellRisesWrongFalsely : Prop := cellRisesRow.holds Tryz.pinned (OpenSpec.ofChange cellRisesWrong)

/-- 'slackwaterlaw14.CellPlays': WHATEVER THE INPUT: true; the input reads as it did. -/
def cellPlaysSpec : ChangeSpec := { name := "cellPlays", fn := fun _ => fun
  | [d1, d2, d3, d4] => { results := [.lit (.bool true)], args := [d1, d2, d3, d4] }
  | _ => none }
def cellPlaysRow : OpenClaim := { program := "ytbaflgddpciadaagreat", sum := "40da58ef5087dc009ebc73369f275f65ea6d7768517cd33a15851cb0f89b11ce", func := "slackwater/slackwaterlaw14.CellPlays", spec := "cellPlays", inPlace := ["internal/bytealg.abigen_runtime_cmpstring", "internal/abi.NoEscape", "internal/bytealg.MakeNoZero", "slices.overlaps[slackwater/chain.Version]", "internal/bytealg.IndexByteString", "internal/bytealg.IndexString"], unfollowed := true, recurses := true, named := ["internal/bytealg.MaxLen"], apart := false }
def CellPlaysSaid : Prop := cellPlaysRow.holds Tryz.pinned (OpenSpec.ofChange cellPlaysSpec)

/-- ITS FALSE NEIGHBOUR: 'it returns false'. Refute it at one input. -/
def cellPlaysWrong : ChangeSpec := { name := "cellPlays", fn := fun _ => fun
  | [d1, d2, d3, d4] => { results := [.lit (.bool false)], args := [d1, d2, d3, d4] }
  | _ => none }
def CellPlaysWrongFalsely : Prop := cellPlaysRow.holds Tryz.pinned (OpenSpec.ofChange cellPlaysWrong)

/-- 'slackwaterlaw14.CellNil': WHATEVER THE INPUT: true; the input reads as it did. -/
def cellNilSpec : ChangeSpec := { name := "cellNil", fn := fun _ => fun
  | [d1, d2, d3] => { results := [.lit (.bool true)], args := [d1, d2, d3] }
  | _ => none }
def cellNilRow : OpenClaim := { program := "ytbaflgddpciadaagreat", sum := "40da58ef5087dc009ebc73369f275f65ea6d7768517cd33a15851cb0f89b11ce", func := "slackwater/slackwaterlaw14.CellNil", spec := "cellNil", inPlace := ["internal/bytealg.abigen_runtime_cmpstring", "internal/abi.NoEscape", "internal/bytealg.MakeNoZero", "slices.overlaps[slackwater/chain.Version]", "internal/bytealg.IndexByteString", "internal/bytealg.IndexString"], unfollowed := true, recurses := true, named := ["internal/bytealg.MaxLen"], apart := false }
def CellNilSaid : Prop := cellNilRow.holds Tryz.pinned (OpenSpec.ofChange cellNilSpec)

/-- ITS FALSE NEIGHBOUR: 'it returns false'. Refute it at one input. -/
def cellNilWrong : ChangeSpec := { name := "cellNil", fn := fun _ => fun
  | [d1, d2, d3] => { results := [.lit (.bool false)], args := [d1, d2, d3] }
  | _ => none }
def CellNilWrongFalsely : Prop := cellNilRow.holds Tryz.pinned (OpenSpec.ofChange cellNilWrong)

/-- 'slackwaterlaw14.CellBytes': WHATEVER THE INPUT: true; the input reads as it did. -/
def cellBytesSpec : ChangeSpec := { name := "cellBytes", fn := fun _ => fun
  | [d1, d2] => { results := [.lit (.bool true)], args := [d1, d2] }
  | _ => none }
def cellBytesRow : OpenClaim := { program := "ytbaflgddpciadaagreat", sum := "40da58ef5087dc009ebc73369f275f65ea6d7768517cd33a15851cb0f89b11ce", func := "slackwater/slackwaterlaw14.CellBytes", spec := "cellBytes", inPlace := ["internal/bytealg.abigen_runtime_cmpstring", "internal/abi.NoEscape", "internal/bytealg.MakeNoZero", "slices.overlaps[slackwater/chain.Version]", "internal/bytealg.IndexByteString", "internal/bytealg.IndexString"], unfollowed := true, recurses := true, named := ["internal/bytealg.MaxLen"], apart := false }
def CellBytesSaid : Prop := cellBytesRow.holds Tryz.pinned (OpenSpec.ofChange cellBytesSpec)

/-- ITS FALSE NEIGHBOUR: 'it returns false'. Refute it at one input. -/
def cellBytesWrong : ChangeSpec := { name := "cellBytes", fn := fun _ => fun
  | [d1, d2] => { results := [.lit (.bool false)], args := [d1, d2] }
  | _ => none }
def CellBytesWrongFalsely : Prop := cellBytesRow.holds Tryz.pinned (OpenSpec.ofChange cellBytesWrong)

/- THE SECOND FORM. 'bulk': how many values and letters a reading holds, each counted each time it is reached (what is shared counts as often as it is met; a slice's spare places count too). A statement '..UptoSaid' is the law's where the arguments, and the package variables that the reading takes, are together of bulk at most 1048576: NARROWER than '..Said'. Prove '..Said' where nothing that the law and all that it calls make is longer than what came in: it says more and counts as full. Else prove '..UptoSaid'. A law counts once. -/
mutual
def uptoBulk {H : Type} : DataW H → Nat
  | .lit (.string bytes) => bytes.length + 1
  | .lit _ => 1
  | .nil => 1
  | .ptr d => uptoBulk d + 1
  | .slice elems spare => uptoBulkAll elems + uptoBulkAll spare + 1
  | .agg parts => uptoBulkAll parts + 1
  | .iface _ d => uptoBulk d + 1
  | .map entries => uptoBulkEntries entries + 1
  | .held _ => 1
def uptoBulkAll {H : Type} : List (DataW H) → Nat
  | [] => 0
  | d :: r => uptoBulk d + uptoBulkAll r
def uptoBulkEntries {H : Type} : List (Lit × DataW H) → Nat
  | [] => 0
  | x :: r => uptoBulkEntry x + uptoBulkEntries r
def uptoBulkEntry {H : Type} : Lit × DataW H → Nat
  | (.string bytes, d) => bytes.length + uptoBulk d + 1
  | (_, d) => uptoBulk d + 1
 end
def uptoSmall : (H : Type) → List (DataW H) → Bool := fun _ ds => decide (uptoBulkAll ds ≤ 1048576)
def OpenSpec.upto (s : _root_.Go.ChangeSpec) : _root_.Go.OpenSpec := { _root_.Go.OpenSpec.ofChange s with cond := some uptoSmall }

/-- 'slackwaterlaw14.CellReads', WHERE WHAT IT READS IS OF BULK AT MOST 1048576: true; the input reads as it did. -/
def cellReadsUptoRow : OpenClaim := { program := "ytbaflgddpciadaagreat", sum := "40da58ef5087dc009ebc73369f275f65ea6d7768517cd33a15851cb0f89b11ce", func := "slackwater/slackwaterlaw14.CellReads", spec := "cellReads", inPlace := ["internal/bytealg.abigen_runtime_cmpstring", "internal/abi.NoEscape", "internal/bytealg.MakeNoZero", "slices.overlaps[slackwater/chain.Version]", "internal/bytealg.IndexByteString", "internal/bytealg.IndexString"], unfollowed := true, recurses := true, named := ["internal/bytealg.MaxLen"], apart := false, narrowed := true }
def CellReadsUptoSaid : Prop := cellReadsUptoRow.holds Tryz.pinned (OpenSpec.upto cellReadsSpec)

/-- 'slackwaterlaw14.CellFinal', WHERE WHAT IT READS IS OF BULK AT MOST 1048576: true; the input reads as it did. -/
def cellFinalUptoRow : OpenClaim := { program := "ytbaflgddpciadaagreat", sum := "40da58ef5087dc009ebc73369f275f65ea6d7768517cd33a15851cb0f89b11ce", func := "slackwater/slackwaterlaw14.CellFinal", spec := "cellFinal", inPlace := ["internal/bytealg.abigen_runtime_cmpstring", "internal/abi.NoEscape", "internal/bytealg.MakeNoZero", "slices.overlaps[slackwater/chain.Version]", "internal/bytealg.IndexByteString", "internal/bytealg.IndexString"], unfollowed := true, recurses := true, named := ["internal/bytealg.MaxLen"], apart := false, narrowed := true }
def CellFinalUptoSaid : Prop := cellFinalUptoRow.holds Tryz.pinned (OpenSpec.upto cellFinalSpec)

/-- 'slackwaterlaw14.CellOnce', WHERE WHAT IT READS IS OF BULK AT MOST 1048576: true; the input reads as it did. -/
def cellOnceUptoRow : OpenClaim := { program := "ytbaflgddpciadaagreat", sum := "40da58ef5087dc009ebc73369f275f65ea6d7768517cd33a15851cb0f89b11ce", func := "slackwater/slackwaterlaw14.CellOnce", spec := "cellOnce", inPlace := ["internal/bytealg.abigen_runtime_cmpstring", "internal/abi.NoEscape", "internal/bytealg.MakeNoZero", "slices.overlaps[slackwater/chain.Version]", "internal/bytealg.IndexByteString", "internal/bytealg.IndexString"], unfollowed := true, recurses := true, named := ["internal/bytealg.MaxLen"], apart := false, narrowed := true }
def CellOnceUptoSaid : Prop := cellOnceUptoRow.holds Tryz.pinned (OpenSpec.upto cellOnceSpec)

/-- 'slackwaterlaw14.CellBatches', WHERE WHAT IT READS IS OF BULK AT MOST 1048576: true; the input reads as it did. -/
def cellBatchesUptoRow : OpenClaim := { program := "ytbaflgddpciadaagreat", sum := "40da58ef5087dc009ebc73369f275f65ea6d7768517cd33a15851cb0f89b11ce", func := "slackwater/slackwaterlaw14.CellBatches", spec := "cellBatches", inPlace := ["internal/bytealg.abigen_runtime_cmpstring", "internal/abi.NoEscape", "internal/bytealg.MakeNoZero", "slices.overlaps[slackwater/chain.Version]", "internal/bytealg.IndexByteString", "internal/bytealg.IndexString"], unfollowed := true, recurses := true, named := ["internal/bytealg.MaxLen"], apart := false, narrowed := true }
def CellBatchesUptoSaid : Prop := cellBatchesUptoRow.holds Tryz.pinned (OpenSpec.upto cellBatchesSpec)

/-- 'slackwaterlaw14.CellFull', WHERE WHAT IT READS IS OF BULK AT MOST 1048576: true; the input reads as it did. -/
def cellFullUptoRow : OpenClaim := { program := "ytbaflgddpciadaagreat", sum := "40da58ef5087dc009ebc73369f275f65ea6d7768517cd33a15851cb0f89b11ce", func := "slackwater/slackwaterlaw14.CellFull", spec := "cellFull", inPlace := ["internal/bytealg.abigen_runtime_cmpstring", "internal/abi.NoEscape", "internal/bytealg.MakeNoZero", "slices.overlaps[slackwater/chain.Version]", "internal/bytealg.IndexByteString", "internal/bytealg.IndexString"], unfollowed := true, recurses := true, named := ["internal/bytealg.MaxLen"], apart := false, narrowed := true }
def CellFullUptoSaid : Prop := cellFullUptoRow.holds Tryz.pinned (OpenSpec.upto cellFullSpec)

/-- 'slackwaterlaw14.CellNumbers', WHERE WHAT IT READS IS OF BULK AT MOST 1048576: true; the input reads as it did. -/
def cellNumbersUptoRow : OpenClaim := { program := "ytbaflgddpciadaagreat", sum := "40da58ef5087dc009ebc73369f275f65ea6d7768517cd33a15851cb0f89b11ce", func := "slackwater/slackwaterlaw14.CellNumbers", spec := "cellNumbers", inPlace := ["internal/bytealg.abigen_runtime_cmpstring", "internal/abi.NoEscape", "internal/bytealg.MakeNoZero", "slices.overlaps[slackwater/chain.Version]", "internal/bytealg.IndexByteString", "internal/bytealg.IndexString"], unfollowed := true, recurses := true, named := ["internal/bytealg.MaxLen"], apart := false, narrowed := true }
def CellNumbersUptoSaid : Prop := cellNumbersUptoRow.holds Tryz.pinned (OpenSpec.upto cellNumbersSpec)

/-- 'slackwaterlaw14.CellBehind', WHERE WHAT IT READS IS OF BULK AT MOST 1048576: true; the input reads as it did. -/
def cellBehindUptoRow : OpenClaim := { program := "ytbaflgddpciadaagreat", sum := "40da58ef5087dc009ebc73369f275f65ea6d7768517cd33a15851cb0f89b11ce", func := "slackwater/slackwaterlaw14.CellBehind", spec := "cellBehind", inPlace := ["internal/bytealg.abigen_runtime_cmpstring", "internal/abi.NoEscape", "internal/bytealg.MakeNoZero", "slices.overlaps[slackwater/chain.Version]", "internal/bytealg.IndexByteString", "internal/bytealg.IndexString"], unfollowed := true, recurses := true, named := ["internal/bytealg.MaxLen"], apart := false, narrowed := true }
def CellBehindUptoSaid : Prop := cellBehindUptoRow.holds Tryz.pinned (OpenSpec.upto cellBehindSpec)

/-- 'slackwaterlaw14.CellRises', WHERE WHAT IT READS IS OF BULK AT MOST 1048576: true; the input reads as it did. -/
def cellRisesUptoRow : OpenClaim := { program := "ytbaflgddpciadaagreat", sum := "40da58ef5087dc009ebc73369f275f65ea6d7768517cd33a15851cb0f89b11ce", func := "slackwater/slackwaterlaw14.CellRises", spec := "cellRises", inPlace := ["internal/bytealg.abigen_runtime_cmpstring", "internal/abi.NoEscape", "internal/bytealg.MakeNoZero", "slices.overlaps[slackwater/chain.Version]", "internal/bytealg.IndexByteString", "internal/bytealg.IndexString"], unfollowed := true, recurses := true, named := ["internal/bytealg.MaxLen"], apart := false, narrowed := true }
def CellRisesUptoSaid : Prop := cellRisesUptoRow.holds Tryz.pinned (OpenSpec.upto cellRisesSpec)

/-- 'slackwaterlaw14.CellPlays', WHERE WHAT IT READS IS OF BULK AT MOST 1048576: true; the input reads as it did. -/
def cellPlaysUptoRow : OpenClaim := { program := "ytbaflgddpciadaagreat", sum := "40da58ef5087dc009ebc73369f275f65ea6d7768517cd33a15851cb0f89b11ce", func := "slackwater/slackwaterlaw14.CellPlays", spec := "cellPlays", inPlace := ["internal/bytealg.abigen_runtime_cmpstring", "internal/abi.NoEscape", "internal/bytealg.MakeNoZero", "slices.overlaps[slackwater/chain.Version]", "internal/bytealg.IndexByteString", "internal/bytealg.IndexString"], unfollowed := true, recurses := true, named := ["internal/bytealg.MaxLen"], apart := false, narrowed := true }
def CellPlaysUptoSaid : Prop := cellPlaysUptoRow.holds Tryz.pinned (OpenSpec.upto cellPlaysSpec)

/-- 'slackwaterlaw14.CellNil', WHERE WHAT IT READS IS OF BULK AT MOST 1048576: true; the input reads as it did. -/
def cellNilUptoRow : OpenClaim := { program := "ytbaflgddpciadaagreat", sum := "40da58ef5087dc009ebc73369f275f65ea6d7768517cd33a15851cb0f89b11ce", func := "slackwater/slackwaterlaw14.CellNil", spec := "cellNil", inPlace := ["internal/bytealg.abigen_runtime_cmpstring", "internal/abi.NoEscape", "internal/bytealg.MakeNoZero", "slices.overlaps[slackwater/chain.Version]", "internal/bytealg.IndexByteString", "internal/bytealg.IndexString"], unfollowed := true, recurses := true, named := ["internal/bytealg.MaxLen"], apart := false, narrowed := true }
def CellNilUptoSaid : Prop := cellNilUptoRow.holds Tryz.pinned (OpenSpec.upto cellNilSpec)

/-- 'slackwaterlaw14.CellBytes', WHERE WHAT IT READS IS OF BULK AT MOST 1048576: true; the input reads as it did. -/
def cellBytesUptoRow : OpenClaim := { program := "ytbaflgddpciadaagreat", sum := "40da58ef5087dc009ebc73369f275f65ea6d7768517cd33a15851cb0f89b11ce", func := "slackwater/slackwaterlaw14.CellBytes", spec := "cellBytes", inPlace := ["internal/bytealg.abigen_runtime_cmpstring", "internal/abi.NoEscape", "internal/bytealg.MakeNoZero", "slices.overlaps[slackwater/chain.Version]", "internal/bytealg.IndexByteString", "internal/bytealg.IndexString"], unfollowed := true, recurses := true, named := ["internal/bytealg.MaxLen"], apart := false, narrowed := true }
def CellBytesUptoSaid : Prop := cellBytesUptoRow.holds Tryz.pinned (OpenSpec.upto cellBytesSpec)

end Rows
end Go.Proofs.YtbaflgddpciadaaGreat
