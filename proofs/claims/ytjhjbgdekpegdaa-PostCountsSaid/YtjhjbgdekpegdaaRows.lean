/-
  No cell of these rows narrows 'for every input' (looked for: loops, veiled, ifaces, maps, wideKeys, modest, calm, conditions, laid).
  DERIVED. THE GIVEN ROWS OF THIS SEAT. 4 by the template 'for every input the law returns true; each argument reads behind the call as it read before'; 0 by the template 'total and deterministic' (their statements: YtjhjbgdekpegdaaTotals.lean).
  GIVEN WITH THE SEED: the statements are not yours to turn. If you find one false, say at which input.
  Laid BY PROGRAM, IN A SANDBOX (cutbox-rows.mjs): the forced cells as the released guide's own fill.sh prints them over the translation 872bd14aac9095bc… (all of the seat's roots in one cut). By AI agents, Wed Nov 11 2026. No macro, syntax, notation, axiom, sorry.
-/
import Derived.Test.YtjhjbgdekpegdaaChecked
import GoSem.Claim
import GoSem.ClaimJoined
import GoSem.ClaimMapViews
import Derived.JoinedTies
import Derived.KernelRfl
namespace Go.Proofs.Ytjhjbgdekpegdaa
/- THE CELL 'sum', in the pinned program and in every row, IS THE sha256 OF THE DUMP (.gsa) THAT YtjhjbgdekpegdaaProg.lean LOADS. Nothing in Lean hashes anything: it is a label: what it is worth is what the hold of that sum in a sandbox is worth. -/
noncomputable def Try.pinned : Pinned := { name := "ytjhjbgdekpegdaa", sum := "872bd14aac9095bc3e2dcefc729cf920443641cdbd3e906342cc33cfcee723ca", checked := Try.checked }
namespace Rows
def none {H : Type} : Left H := { results := [], args := [] }

/-- 'slackwaterlaw08.PostOrders': WHATEVER THE INPUT: true; the input reads as it did. -/
def postOrdersSpec : ChangeSpec := { name := "postOrders", fn := fun _ => fun
  | [d] => { results := [.lit (.bool true)], args := [d] }
  | _ => none }
def postOrdersRow : OpenClaim := { program := "ytjhjbgdekpegdaa", sum := "872bd14aac9095bc3e2dcefc729cf920443641cdbd3e906342cc33cfcee723ca", func := "slackwater/slackwaterlaw08.PostOrders", spec := "postOrders", apart := false }
def PostOrdersSaid : Prop := postOrdersRow.holds Try.pinned (OpenSpec.ofChange postOrdersSpec)

/-- ITS FALSE NEIGHBOUR: 'it returns false'. Refute it at one input. -/
def postOrdersWrong : ChangeSpec := { name := "postOrders", fn := fun _ => fun
  | [d] => { results := [.lit (.bool false)], args := [d] }
  | _ => none }
def PostOrdersWrongFalsely : Prop := postOrdersRow.holds Try.pinned (OpenSpec.ofChange postOrdersWrong)

/-- 'slackwaterlaw08.PostPlays': WHATEVER THE INPUT: true; the input reads as it did. -/
def postPlaysSpec : ChangeSpec := { name := "postPlays", fn := fun _ => fun
  | [d1, d2] => { results := [.lit (.bool true)], args := [d1, d2] }
  | _ => none }
def postPlaysRow : OpenClaim := { program := "ytjhjbgdekpegdaa", sum := "872bd14aac9095bc3e2dcefc729cf920443641cdbd3e906342cc33cfcee723ca", func := "slackwater/slackwaterlaw08.PostPlays", spec := "postPlays", apart := false }
def PostPlaysSaid : Prop := postPlaysRow.holds Try.pinned (OpenSpec.ofChange postPlaysSpec)

/-- ITS FALSE NEIGHBOUR: 'it returns false'. Refute it at one input. -/
def postPlaysWrong : ChangeSpec := { name := "postPlays", fn := fun _ => fun
  | [d1, d2] => { results := [.lit (.bool false)], args := [d1, d2] }
  | _ => none }
def PostPlaysWrongFalsely : Prop := postPlaysRow.holds Try.pinned (OpenSpec.ofChange postPlaysWrong)

/-- 'slackwaterlaw08.PostCounts': WHATEVER THE INPUT: true; the input reads as it did. -/
def postCountsSpec : ChangeSpec := { name := "postCounts", fn := fun _ => fun
  | [d1, d2] => { results := [.lit (.bool true)], args := [d1, d2] }
  | _ => none }
def postCountsRow : OpenClaim := { program := "ytjhjbgdekpegdaa", sum := "872bd14aac9095bc3e2dcefc729cf920443641cdbd3e906342cc33cfcee723ca", func := "slackwater/slackwaterlaw08.PostCounts", spec := "postCounts", apart := false }
def PostCountsSaid : Prop := postCountsRow.holds Try.pinned (OpenSpec.ofChange postCountsSpec)

/-- ITS FALSE NEIGHBOUR: 'it returns false'. Refute it at one input. -/
def postCountsWrong : ChangeSpec := { name := "postCounts", fn := fun _ => fun
  | [d1, d2] => { results := [.lit (.bool false)], args := [d1, d2] }
  | _ => none }
def PostCountsWrongFalsely : Prop := postCountsRow.holds Try.pinned (OpenSpec.ofChange postCountsWrong)

/-- 'slackwaterlaw08.PostNil': WHATEVER THE INPUT: true; the input reads as it did. -/
def postNilSpec : ChangeSpec := { name := "postNil", fn := fun _ => fun
  | [d] => { results := [.lit (.bool true)], args := [d] }
  | _ => none }
def postNilRow : OpenClaim := { program := "ytjhjbgdekpegdaa", sum := "872bd14aac9095bc3e2dcefc729cf920443641cdbd3e906342cc33cfcee723ca", func := "slackwater/slackwaterlaw08.PostNil", spec := "postNil", apart := false }
def PostNilSaid : Prop := postNilRow.holds Try.pinned (OpenSpec.ofChange postNilSpec)

/-- ITS FALSE NEIGHBOUR: 'it returns false'. Refute it at one input. -/
def postNilWrong : ChangeSpec := { name := "postNil", fn := fun _ => fun
  | [d] => { results := [.lit (.bool false)], args := [d] }
  | _ => none }
def PostNilWrongFalsely : Prop := postNilRow.holds Try.pinned (OpenSpec.ofChange postNilWrong)

/- THE SECOND FORM. 'bulk': how many values and letters a reading holds, each counted each time it is reached (what is shared counts as often as it is met; a slice's spare places count too). A statement '..UptoSaid' is the law's where the arguments, and the package variables that the reading takes, are together of bulk at most 1048576: NARROWER than '..Said'. Prove '..Said' where nothing that the law and all that it calls make is longer than what came in: it says more and counts as full. Else prove '..UptoSaid'. A law counts once. -/
mutual
def uptoBulk {H : Type} : DataW H → Nat
  | .lit (.string bytes) => bytes.length + 1
  | .lit _ => 1
  | .nil => 1
  | .ptr d => uptoBulk d + 1
  | .slice elems spare => uptoBulkAll elems + uptoBulkAll spare + 1
  | .agg parts => uptoBulkAll parts + 1
  | .iface _ d => uptoBulk d + 1
  | .map entries => uptoBulkEntries entries + 1
  | .held _ => 1
def uptoBulkAll {H : Type} : List (DataW H) → Nat
  | [] => 0
  | d :: r => uptoBulk d + uptoBulkAll r
def uptoBulkEntries {H : Type} : List (Lit × DataW H) → Nat
  | [] => 0
  | x :: r => uptoBulkEntry x + uptoBulkEntries r
def uptoBulkEntry {H : Type} : Lit × DataW H → Nat
  | (.string bytes, d) => bytes.length + uptoBulk d + 1
  | (_, d) => uptoBulk d + 1
 end
def uptoSmall : (H : Type) → List (DataW H) → Bool := fun _ ds => decide (uptoBulkAll ds ≤ 1048576)
def OpenSpec.upto (s : _root_.Go.ChangeSpec) : _root_.Go.OpenSpec := { _root_.Go.OpenSpec.ofChange s with cond := some uptoSmall }

/-- 'slackwaterlaw08.PostOrders', WHERE WHAT IT READS IS OF BULK AT MOST 1048576: true; the input reads as it did. -/
def postOrdersUptoRow : OpenClaim := { program := "ytjhjbgdekpegdaa", sum := "872bd14aac9095bc3e2dcefc729cf920443641cdbd3e906342cc33cfcee723ca", func := "slackwater/slackwaterlaw08.PostOrders", spec := "postOrders", apart := false, narrowed := true }
def PostOrdersUptoSaid : Prop := postOrdersUptoRow.holds Try.pinned (OpenSpec.upto postOrdersSpec)

/-- 'slackwaterlaw08.PostPlays', WHERE WHAT IT READS IS OF BULK AT MOST 1048576: true; the input reads as it did. -/
def postPlaysUptoRow : OpenClaim := { program := "ytjhjbgdekpegdaa", sum := "872bd14aac9095bc3e2dcefc729cf920443641cdbd3e906342cc33cfcee723ca", func := "slackwater/slackwaterlaw08.PostPlays", spec := "postPlays", apart := false, narrowed := true }
def PostPlaysUptoSaid : Prop := postPlaysUptoRow.holds Try.pinned (OpenSpec.upto postPlaysSpec)

/-- 'slackwaterlaw08.PostCounts', WHERE WHAT IT READS IS OF BULK AT MOST 1048576: true; the input reads as it did. -/
def postCountsUptoRow : OpenClaim := { program := "ytjhjbgdekpegdaa", sum := "872bd14aac9095bc3e2dcefc729cf920443641cdbd3e906342cc33cfcee723ca", func := "slackwater/slackwaterlaw08.PostCounts", spec := "postCounts", apart := false, narrowed := true }
def PostCountsUptoSaid : Prop := postCountsUptoRow.holds Try.pinned (OpenSpec.upto postCountsSpec)

/-- 'slackwaterlaw08.PostNil', WHERE WHAT IT READS IS OF BULK AT MOST 1048576: true; the input reads as it did. -/
def postNilUptoRow : OpenClaim := { program := "ytjhjbgdekpegdaa", sum := "872bd14aac9095bc3e2dcefc729cf920443641cdbd3e906342cc33cfcee723ca", func := "slackwater/slackwaterlaw08.PostNil", spec := "postNil", apart := false, narrowed := true }
def PostNilUptoSaid : Prop := postNilUptoRow.holds Try.pinned (OpenSpec.upto postNilSpec)

end Rows
end Go.Proofs.Ytjhjbgdekpegdaa
