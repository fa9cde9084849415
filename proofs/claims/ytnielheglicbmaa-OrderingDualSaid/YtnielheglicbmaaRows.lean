/-
  No cell of these rows narrows 'for every input' (looked for: loops, veiled, ifaces, maps, wideKeys, modest, calm, conditions, laid).
  DERIVED. THE GIVEN ROWS OF THIS SEAT. 8 by the template 'for every input the law returns true; each argument reads behind the call as it read before'; 0 by the template 'total and deterministic' (their statements: YtnielheglicbmaaTotals.lean).
  GIVEN WITH THE SEED: the statements are not yours to turn. If you find one false, say at which input.
  Laid BY PROGRAM, IN A SANDBOX (cutbox-rows.mjs): the forced cells as the released guide's own fill.sh prints them over the translation 3cbecb7f8003a07a… (all of the seat's roots in one cut). By AI agents, Wed Nov 11 2026. No macro, syntax, notation, axiom, sorry.
-/
import Derived.Test.YtnielheglicbmaaChecked
import GoSem.Claim
import GoSem.ClaimJoined
import GoSem.ClaimMapViews
import Derived.JoinedTies
import Derived.KernelRfl
namespace Go.Proofs.Ytnielheglicbmaa
/- THE CELL 'sum', in the pinned program and in every row, IS THE sha256 OF THE DUMP (.gsa) THAT YtnielheglicbmaaProg.lean LOADS. Nothing in Lean hashes anything: it is a label: what it is worth is what the hold of that sum in a sandbox is worth. -/
noncomputable def Try.pinned : Pinned := { name := "ytnielheglicbmaa", sum := "3cbecb7f8003a07ad91498e7ebb4637c88fbeaaec9f808625fbbfc93a0491120", checked := Try.checked }
namespace Rows
def none {H : Type} : Left H := { results := [], args := [] }

/-- 'codewrightlaw48.OrderingDimensions': WHATEVER THE INPUT: true; the input reads as it did. -/
def orderingDimensionsSpec : ChangeSpec := { name := "orderingDimensions", fn := fun _ => fun
  | [d1, d2] => { results := [.lit (.bool true)], args := [d1, d2] }
  | _ => none }
def orderingDimensionsRow : OpenClaim := { program := "ytnielheglicbmaa", sum := "3cbecb7f8003a07ad91498e7ebb4637c88fbeaaec9f808625fbbfc93a0491120", func := "codewright/codewrightlaw48.OrderingDimensions", spec := "orderingDimensions", unfollowed := true, recurses := true, apart := false }
def OrderingDimensionsSaid : Prop := orderingDimensionsRow.holds Try.pinned (OpenSpec.ofChange orderingDimensionsSpec)

/-- ITS FALSE NEIGHBOUR: 'it returns false'. Refute it at one input. -/
def orderingDimensionsWrong : ChangeSpec := { name := "orderingDimensions", fn := fun _ => fun
  | [d1, d2] => { results := [.lit (.bool false)], args := [d1, d2] }
  | _ => none }
def OrderingDimensionsWrongFalsely : Prop := orderingDimensionsRow.holds Try.pinned (OpenSpec.ofChange orderingDimensionsWrong)

/-- 'codewrightlaw48.OrderingModular': WHATEVER THE INPUT: true; the input reads as it did. -/
def orderingModularSpec : ChangeSpec := { name := "orderingModular", fn := fun _ => fun
  | [d1, d2, d3] => { results := [.lit (.bool true)], args := [d1, d2, d3] }
  | _ => none }
def orderingModularRow : OpenClaim := { program := "ytnielheglicbmaa", sum := "3cbecb7f8003a07ad91498e7ebb4637c88fbeaaec9f808625fbbfc93a0491120", func := "codewright/codewrightlaw48.OrderingModular", spec := "orderingModular", unfollowed := true, recurses := true, apart := false }
def OrderingModularSaid : Prop := orderingModularRow.holds Try.pinned (OpenSpec.ofChange orderingModularSpec)

/-- ITS FALSE NEIGHBOUR: 'it returns false'. Refute it at one input. -/
def orderingModularWrong : ChangeSpec := { name := "orderingModular", fn := fun _ => fun
  | [d1, d2, d3] => { results := [.lit (.bool false)], args := [d1, d2, d3] }
  | _ => none }
def OrderingModularWrongFalsely : Prop := orderingModularRow.holds Try.pinned (OpenSpec.ofChange orderingModularWrong)

/-- 'codewrightlaw48.OrderingSteps': WHATEVER THE INPUT: true; the input reads as it did. -/
def orderingStepsSpec : ChangeSpec := { name := "orderingSteps", fn := fun _ => fun
  | [d1, d2, d3] => { results := [.lit (.bool true)], args := [d1, d2, d3] }
  | _ => none }
def orderingStepsRow : OpenClaim := { program := "ytnielheglicbmaa", sum := "3cbecb7f8003a07ad91498e7ebb4637c88fbeaaec9f808625fbbfc93a0491120", func := "codewright/codewrightlaw48.OrderingSteps", spec := "orderingSteps", unfollowed := true, recurses := true, apart := false }
def OrderingStepsSaid : Prop := orderingStepsRow.holds Try.pinned (OpenSpec.ofChange orderingStepsSpec)

/-- ITS FALSE NEIGHBOUR: 'it returns false'. Refute it at one input. -/
def orderingStepsWrong : ChangeSpec := { name := "orderingSteps", fn := fun _ => fun
  | [d1, d2, d3] => { results := [.lit (.bool false)], args := [d1, d2, d3] }
  | _ => none }
def OrderingStepsWrongFalsely : Prop := orderingStepsRow.holds Try.pinned (OpenSpec.ofChange orderingStepsWrong)

/-- 'codewrightlaw48.OrderingGreedy': WHATEVER THE INPUT: true; the input reads as it did. -/
def orderingGreedySpec : ChangeSpec := { name := "orderingGreedy", fn := fun _ => fun
  | [d] => { results := [.lit (.bool true)], args := [d] }
  | _ => none }
def orderingGreedyRow : OpenClaim := { program := "ytnielheglicbmaa", sum := "3cbecb7f8003a07ad91498e7ebb4637c88fbeaaec9f808625fbbfc93a0491120", func := "codewright/codewrightlaw48.OrderingGreedy", spec := "orderingGreedy", unfollowed := true, recurses := true, apart := false }
def OrderingGreedySaid : Prop := orderingGreedyRow.holds Try.pinned (OpenSpec.ofChange orderingGreedySpec)

/-- ITS FALSE NEIGHBOUR: 'it returns false'. Refute it at one input. -/
def orderingGreedyWrong : ChangeSpec := { name := "orderingGreedy", fn := fun _ => fun
  | [d] => { results := [.lit (.bool false)], args := [d] }
  | _ => none }
def OrderingGreedyWrongFalsely : Prop := orderingGreedyRow.holds Try.pinned (OpenSpec.ofChange orderingGreedyWrong)

/-- 'codewrightlaw48.OrderingAccepts': WHATEVER THE INPUT: true; the input reads as it did. -/
def orderingAcceptsSpec : ChangeSpec := { name := "orderingAccepts", fn := fun _ => fun
  | [d] => { results := [.lit (.bool true)], args := [d] }
  | _ => none }
def orderingAcceptsRow : OpenClaim := { program := "ytnielheglicbmaa", sum := "3cbecb7f8003a07ad91498e7ebb4637c88fbeaaec9f808625fbbfc93a0491120", func := "codewright/codewrightlaw48.OrderingAccepts", spec := "orderingAccepts", unfollowed := true, recurses := true, apart := false }
def OrderingAcceptsSaid : Prop := orderingAcceptsRow.holds Try.pinned (OpenSpec.ofChange orderingAcceptsSpec)

/-- ITS FALSE NEIGHBOUR: 'it returns false'. Refute it at one input. -/
def orderingAcceptsWrong : ChangeSpec := { name := "orderingAccepts", fn := fun _ => fun
  | [d] => { results := [.lit (.bool false)], args := [d] }
  | _ => none }
def OrderingAcceptsWrongFalsely : Prop := orderingAcceptsRow.holds Try.pinned (OpenSpec.ofChange orderingAcceptsWrong)

/-- 'codewrightlaw48.OrderingSound': WHATEVER THE INPUT: true; the input reads as it did. -/
def orderingSoundSpec : ChangeSpec := { name := "orderingSound", fn := fun _ => fun
  | [d] => { results := [.lit (.bool true)], args := [d] }
  | _ => none }
def orderingSoundRow : OpenClaim := { program := "ytnielheglicbmaa", sum := "3cbecb7f8003a07ad91498e7ebb4637c88fbeaaec9f808625fbbfc93a0491120", func := "codewright/codewrightlaw48.OrderingSound", spec := "orderingSound", unfollowed := true, recurses := true, apart := false }
def OrderingSoundSaid : Prop := orderingSoundRow.holds Try.pinned (OpenSpec.ofChange orderingSoundSpec)

/-- ITS FALSE NEIGHBOUR: 'it returns false'. Refute it at one input. -/
def orderingSoundWrong : ChangeSpec := { name := "orderingSound", fn := fun _ => fun
  | [d] => { results := [.lit (.bool false)], args := [d] }
  | _ => none }
def OrderingSoundWrongFalsely : Prop := orderingSoundRow.holds Try.pinned (OpenSpec.ofChange orderingSoundWrong)

/-- 'codewrightlaw48.OrderingDual': WHATEVER THE INPUT: true; the input reads as it did. -/
def orderingDualSpec : ChangeSpec := { name := "orderingDual", fn := fun _ => fun
  | [d1, d2] => { results := [.lit (.bool true)], args := [d1, d2] }
  | _ => none }
def orderingDualRow : OpenClaim := { program := "ytnielheglicbmaa", sum := "3cbecb7f8003a07ad91498e7ebb4637c88fbeaaec9f808625fbbfc93a0491120", func := "codewright/codewrightlaw48.OrderingDual", spec := "orderingDual", unfollowed := true, recurses := true, apart := false }
def OrderingDualSaid : Prop := orderingDualRow.holds Try.pinned (OpenSpec.ofChange orderingDualSpec)

/-- ITS FALSE NEIGHBOUR: 'it returns false'. Refute it at one input. -/
def orderingDualWrong : ChangeSpec := { name := "orderingDual", fn := fun _ => fun
  | [d1, d2] => { results := [.lit (.bool false)], args := [d1, d2] }
  | _ => none }
def OrderingDualWrongFalsely : Prop := orderingDualRow.holds Try.pinned (OpenSpec.ofChange orderingDualWrong)

/-- 'codewrightlaw48.OrderingBest': WHATEVER THE INPUT: true; the input reads as it did. -/
def orderingBestSpec : ChangeSpec := { name := "orderingBest", fn := fun _ => fun
  | [d] => { results := [.lit (.bool true)], args := [d] }
  | _ => none }
def orderingBestRow : OpenClaim := { program := "ytnielheglicbmaa", sum := "3cbecb7f8003a07ad91498e7ebb4637c88fbeaaec9f808625fbbfc93a0491120", func := "codewright/codewrightlaw48.OrderingBest", spec := "orderingBest", unfollowed := true, recurses := true, apart := false }
def OrderingBestSaid : Prop := orderingBestRow.holds Try.pinned (OpenSpec.ofChange orderingBestSpec)

/-- ITS FALSE NEIGHBOUR: 'it returns false'. Refute it at one input. -/
def orderingBestWrong : ChangeSpec := { name := "orderingBest", fn := fun _ => fun
  | [d] => { results := [.lit (.bool false)], args := [d] }
  | _ => none }
def OrderingBestWrongFalsely : Prop := orderingBestRow.holds Try.pinned (OpenSpec.ofChange orderingBestWrong)

/- THE SECOND FORM. 'bulk': how many values and letters a reading holds, each counted each time it is reached (what is shared counts as often as it is met; a slice's spare places count too). A statement '..UptoSaid' is the law's where the arguments, and the package variables that the reading takes, are together of bulk at most 1048576: NARROWER than '..Said'. Prove '..Said' where nothing that the law and all that it calls make is longer than what came in: it says more and counts as full. Else prove '..UptoSaid'. A law counts once. -/
mutual
def uptoBulk {H : Type} : DataW H → Nat
  | .lit (.string bytes) => bytes.length + 1
  | .lit _ => 1
  | .nil => 1
  | .ptr d => uptoBulk d + 1
  | .slice elems spare => uptoBulkAll elems + uptoBulkAll spare + 1
  | .agg parts => uptoBulkAll parts + 1
  | .iface _ d => uptoBulk d + 1
  | .map entries => uptoBulkEntries entries + 1
  | .held _ => 1
def uptoBulkAll {H : Type} : List (DataW H) → Nat
  | [] => 0
  | d :: r => uptoBulk d + uptoBulkAll r
def uptoBulkEntries {H : Type} : List (Lit × DataW H) → Nat
  | [] => 0
  | x :: r => uptoBulkEntry x + uptoBulkEntries r
def uptoBulkEntry {H : Type} : Lit × DataW H → Nat
  | (.string bytes, d) => bytes.length + uptoBulk d + 1
  | (_, d) => uptoBulk d + 1
 end
def uptoSmall : (H : Type) → List (DataW H) → Bool := fun _ ds => decide (uptoBulkAll ds ≤ 1048576)
def OpenSpec.upto (s : _root_.Go.ChangeSpec) : _root_.Go.OpenSpec := { _root_.Go.OpenSpec.ofChange s with cond := some uptoSmall }

/-- 'codewrightlaw48.OrderingDimensions', WHERE WHAT IT READS IS OF BULK AT MOST 1048576: true; the input reads as it did. -/
def orderingDimensionsUptoRow : OpenClaim := { program := "ytnielheglicbmaa", sum := "3cbecb7f8003a07ad91498e7ebb4637c88fbeaaec9f808625fbbfc93a0491120", func := "codewright/codewrightlaw48.OrderingDimensions", spec := "orderingDimensions", unfollowed := true, recurses := true, apart := false, narrowed := true }
def OrderingDimensionsUptoSaid : Prop := orderingDimensionsUptoRow.holds Try.pinned (OpenSpec.upto orderingDimensionsSpec)

/-- 'codewrightlaw48.OrderingModular', WHERE WHAT IT READS IS OF BULK AT MOST 1048576: true; the input reads as it did. -/
def orderingModularUptoRow : OpenClaim := { program := "ytnielheglicbmaa", sum := "3cbecb7f8003a07ad91498e7ebb4637c88fbeaaec9f808625fbbfc93a0491120", func := "codewright/codewrightlaw48.OrderingModular", spec := "orderingModular", unfollowed := true, recurses := true, apart := false, narrowed := true }
def OrderingModularUptoSaid : Prop := orderingModularUptoRow.holds Try.pinned (OpenSpec.upto orderingModularSpec)

/-- 'codewrightlaw48.OrderingSteps', WHERE WHAT IT READS IS OF BULK AT MOST 1048576: true; the input reads as it did. -/
def orderingStepsUptoRow : OpenClaim := { program := "ytnielheglicbmaa", sum := "3cbecb7f8003a07ad91498e7ebb4637c88fbeaaec9f808625fbbfc93a0491120", func := "codewright/codewrightlaw48.OrderingSteps", spec := "orderingSteps", unfollowed := true, recurses := true, apart := false, narrowed := true }
def OrderingStepsUptoSaid : Prop := orderingStepsUptoRow.holds Try.pinned (OpenSpec.upto orderingStepsSpec)

/-- 'codewrightlaw48.OrderingGreedy', WHERE WHAT IT READS IS OF BULK AT MOST 1048576: true; the input reads as it did. -/
def orderingGreedyUptoRow : OpenClaim := { program := "ytnielheglicbmaa", sum := "3cbecb7f8003a07ad91498e7ebb4637c88fbeaaec9f808625fbbfc93a0491120", func := "codewright/codewrightlaw48.OrderingGreedy", spec := "orderingGreedy", unfollowed := true, recurses := true, apart := false, narrowed := true }
def OrderingGreedyUptoSaid : Prop := orderingGreedyUptoRow.holds Try.pinned (OpenSpec.upto orderingGreedySpec)

/-- 'codewrightlaw48.OrderingAccepts', WHERE WHAT IT READS IS OF BULK AT MOST 1048576: true; the input reads as it did. -/
def orderingAcceptsUptoRow : OpenClaim := { program := "ytnielheglicbmaa", sum := "3cbecb7f8003a07ad91498e7ebb4637c88fbeaaec9f808625fbbfc93a0491120", func := "codewright/codewrightlaw48.OrderingAccepts", spec := "orderingAccepts", unfollowed := true, recurses := true, apart := false, narrowed := true }
def OrderingAcceptsUptoSaid : Prop := orderingAcceptsUptoRow.holds Try.pinned (OpenSpec.upto orderingAcceptsSpec)

/-- 'codewrightlaw48.OrderingSound', WHERE WHAT IT READS IS OF BULK AT MOST 1048576: true; the input reads as it did. -/
def orderingSoundUptoRow : OpenClaim := { program := "ytnielheglicbmaa", sum := "3cbecb7f8003a07ad91498e7ebb4637c88fbeaaec9f808625fbbfc93a0491120", func := "codewright/codewrightlaw48.OrderingSound", spec := "orderingSound", unfollowed := true, recurses := true, apart := false, narrowed := true }
def OrderingSoundUptoSaid : Prop := orderingSoundUptoRow.holds Try.pinned (OpenSpec.upto orderingSoundSpec)

/-- 'codewrightlaw48.OrderingDual', WHERE WHAT IT READS IS OF BULK AT MOST 1048576: true; the input reads as it did. -/
def orderingDualUptoRow : OpenClaim := { program := "ytnielheglicbmaa", sum := "3cbecb7f8003a07ad91498e7ebb4637c88fbeaaec9f808625fbbfc93a0491120", func := "codewright/codewrightlaw48.OrderingDual", spec := "orderingDual", unfollowed := true, recurses := true, apart := false, narrowed := true }
def OrderingDualUptoSaid : Prop := orderingDualUptoRow.holds Try.pinned (OpenSpec.upto orderingDualSpec)

/-- 'codewrightlaw48.OrderingBest', WHERE WHAT IT READS IS OF BULK AT MOST 1048576: true; the input reads as it did. -/
def orderingBestUptoRow : OpenClaim := { program := "ytnielheglicbmaa", sum := "3cbecb7f8003a07ad91498e7ebb4637c88fbeaaec9f808625fbbfc93a0491120", func := "codewright/codewrightlaw48.OrderingBest", spec := "orderingBest", unfollowed := true, recurses := true, apart := false, narrowed := true }
def OrderingBestUptoSaid : Prop := orderingBestUptoRow.holds Try.pinned (OpenSpec.upto orderingBestSpec)

end Rows
end Go.Proofs.Ytnielheglicbmaa
