/-
  No cell of these rows narrows 'for every input' (looked for: loops, veiled, ifaces, maps, wideKeys, modest, calm, conditions, laid).
  DERIVED. THE GIVEN ROWS OF THIS SEAT. 11 by the template 'for every input the law returns true; each argument reads behind the call as it read before'; 0 by the template 'total and deterministic' (their statements: YtcflcogbpnmjeaaGreatTotals.lean).
  GIVEN WITH THE SEED: the statements are not yours to turn. If you find one false, say at which input.
  Laid BY PROGRAM, IN A SANDBOX (cutbox-rows.mjs): the forced cells as the released guide's own fill.sh prints them over the translation 724448261a2f4643… (all of the seat's roots in one cut). By AI agents, Wed Nov 11 2026. No macro, syntax, notation, axiom, sorry.
-/
import Derived.Test.YtcflcogbpnmjeaaGreatChecked
import GoSem.Claim
import GoSem.ClaimJoined
import GoSem.ClaimMapViews
import Derived.JoinedTies
import Derived.KernelRfl
namespace Go.Proofs.YtcflcogbpnmjeaaGreat
/- THE CELL 'sum', in the pinned program and in every row, IS THE sha256 OF THE DUMP (.gsa) THAT YtcflcogbpnmjeaaGreatProg.lean LOADS. Nothing in Lean hashes anything: it is a label: what it is worth is what the hold of that sum in a sandbox is worth. -/
noncomputable def Tryz.pinned : Pinned := { name := "ytcflcogbpnmjeaagreat", sum := "724448261a2f4643cd211210659e5216d69d090a439b26fed41e3f0f416de4b6", checked := Tryz.checked }
namespace Rows
def none {H : Type} : Left H := { results := [], args := [] }

/-- 'codewrightlaw26.ExclusionComplete': WHATEVER THE INPUT: true; the input reads as it did. -/
def exclusionCompleteSpec : ChangeSpec := { name := "exclusionComplete", fn := fun _ => fun
  | [d1, d2] => { results := [.lit (.bool true)], args := [d1, d2] }
  | _ => none }
def exclusionCompleteRow : OpenClaim := { program := "ytcflcogbpnmjeaagreat", sum := "724448261a2f4643cd211210659e5216d69d090a439b26fed41e3f0f416de4b6", func := "codewright/codewrightlaw26.ExclusionComplete", spec := "exclusionComplete", unfollowed := true, recurses := true, apart := false }
def ExclusionCompleteSaid : Prop := exclusionCompleteRow.holds Tryz.pinned (OpenSpec.ofChange exclusionCompleteSpec)

/-- ITS FALSE NEIGHBOUR: 'it returns false'. Refute it at one input. -/
def exclusionCompleteWrong : ChangeSpec := { name := "exclusionComplete", fn := fun _ => fun
  | [d1, d2] => { results := [.lit (.bool false)], args := [d1, d2] }
  | _ => none }
def ExclusionCompleteWrongFalsely : Prop := exclusionCompleteRow.holds Tryz.pinned (OpenSpec.ofChange exclusionCompleteWrong)

/-- 'codewrightlaw26.ExclusionCompleteCoset': WHATEVER THE INPUT: true; the input reads as it did. -/
def exclusionCompleteCosetSpec : ChangeSpec := { name := "exclusionCompleteCoset", fn := fun _ => fun
  | [d1, d2, d3] => { results := [.lit (.bool true)], args := [d1, d2, d3] }
  | _ => none }
def exclusionCompleteCosetRow : OpenClaim := { program := "ytcflcogbpnmjeaagreat", sum := "724448261a2f4643cd211210659e5216d69d090a439b26fed41e3f0f416de4b6", func := "codewright/codewrightlaw26.ExclusionCompleteCoset", spec := "exclusionCompleteCoset", unfollowed := true, recurses := true, apart := false }
def ExclusionCompleteCosetSaid : Prop := exclusionCompleteCosetRow.holds Tryz.pinned (OpenSpec.ofChange exclusionCompleteCosetSpec)

/-- ITS FALSE NEIGHBOUR: 'it returns false'. Refute it at one input. -/
def exclusionCompleteCosetWrong : ChangeSpec := { name := "exclusionCompleteCoset", fn := fun _ => fun
  | [d1, d2, d3] => { results := [.lit (.bool false)], args := [d1, d2, d3] }
  | _ => none }
def ExclusionCompleteCosetWrongFalsely : Prop := exclusionCompleteCosetRow.holds Tryz.pinned (OpenSpec.ofChange exclusionCompleteCosetWrong)

/-- 'codewrightlaw29.HierarchyWeights': WHATEVER THE INPUT: true; the input reads as it did. -/
def hierarchyWeightsSpec : ChangeSpec := { name := "hierarchyWeights", fn := fun _ => fun
  | [d] => { results := [.lit (.bool true)], args := [d] }
  | _ => none }
def hierarchyWeightsRow : OpenClaim := { program := "ytcflcogbpnmjeaagreat", sum := "724448261a2f4643cd211210659e5216d69d090a439b26fed41e3f0f416de4b6", func := "codewright/codewrightlaw29.HierarchyWeights", spec := "hierarchyWeights", unfollowed := true, recurses := true, apart := false }
def HierarchyWeightsSaid : Prop := hierarchyWeightsRow.holds Tryz.pinned (OpenSpec.ofChange hierarchyWeightsSpec)

/-- ITS FALSE NEIGHBOUR: 'it returns false'. Refute it at one input. -/
def hierarchyWeightsWrong : ChangeSpec := { name := "hierarchyWeights", fn := fun _ => fun
  | [d] => { results := [.lit (.bool false)], args := [d] }
  | _ => none }
def HierarchyWeightsWrongFalsely : Prop := hierarchyWeightsRow.holds Tryz.pinned (OpenSpec.ofChange hierarchyWeightsWrong)

/-- 'codewrightlaw29.HierarchyWitness': WHATEVER THE INPUT: true; the input reads as it did. -/
def hierarchyWitnessSpec : ChangeSpec := { name := "hierarchyWitness", fn := fun _ => fun
  | [d1, d2, d3] => { results := [.lit (.bool true)], args := [d1, d2, d3] }
  | _ => none }
def hierarchyWitnessRow : OpenClaim := { program := "ytcflcogbpnmjeaagreat", sum := "724448261a2f4643cd211210659e5216d69d090a439b26fed41e3f0f416de4b6", func := "codewright/codewrightlaw29.HierarchyWitness", spec := "hierarchyWitness", unfollowed := true, recurses := true, apart := false }
def HierarchyWitnessSaid : Prop := hierarchyWitnessRow.holds Tryz.pinned (OpenSpec.ofChange hierarchyWitnessSpec)

/-- ITS FALSE NEIGHBOUR: 'it returns false'. Refute it at one input. -/
def hierarchyWitnessWrong : ChangeSpec := { name := "hierarchyWitness", fn := fun _ => fun
  | [d1, d2, d3] => { results := [.lit (.bool false)], args := [d1, d2, d3] }
  | _ => none }
def HierarchyWitnessWrongFalsely : Prop := hierarchyWitnessRow.holds Tryz.pinned (OpenSpec.ofChange hierarchyWitnessWrong)

/-- 'codewrightlaw29.HierarchyLists': WHATEVER THE INPUT: true; the input reads as it did. -/
def hierarchyListsSpec : ChangeSpec := { name := "hierarchyLists", fn := fun _ => fun
  | [d1, d2] => { results := [.lit (.bool true)], args := [d1, d2] }
  | _ => none }
def hierarchyListsRow : OpenClaim := { program := "ytcflcogbpnmjeaagreat", sum := "724448261a2f4643cd211210659e5216d69d090a439b26fed41e3f0f416de4b6", func := "codewright/codewrightlaw29.HierarchyLists", spec := "hierarchyLists", unfollowed := true, recurses := true, apart := false }
def HierarchyListsSaid : Prop := hierarchyListsRow.holds Tryz.pinned (OpenSpec.ofChange hierarchyListsSpec)

/-- ITS FALSE NEIGHBOUR: 'it returns false'. Refute it at one input. -/
def hierarchyListsWrong : ChangeSpec := { name := "hierarchyLists", fn := fun _ => fun
  | [d1, d2] => { results := [.lit (.bool false)], args := [d1, d2] }
  | _ => none }
def HierarchyListsWrongFalsely : Prop := hierarchyListsRow.holds Tryz.pinned (OpenSpec.ofChange hierarchyListsWrong)

/-- 'codewrightlaw29.HierarchyCertify': WHATEVER THE INPUT: true; the input reads as it did. -/
def hierarchyCertifySpec : ChangeSpec := { name := "hierarchyCertify", fn := fun _ => fun
  | [d] => { results := [.lit (.bool true)], args := [d] }
  | _ => none }
def hierarchyCertifyRow : OpenClaim := { program := "ytcflcogbpnmjeaagreat", sum := "724448261a2f4643cd211210659e5216d69d090a439b26fed41e3f0f416de4b6", func := "codewright/codewrightlaw29.HierarchyCertify", spec := "hierarchyCertify", unfollowed := true, recurses := true, apart := false }
def HierarchyCertifySaid : Prop := hierarchyCertifyRow.holds Tryz.pinned (OpenSpec.ofChange hierarchyCertifySpec)

/-- ITS FALSE NEIGHBOUR: 'it returns false'. Refute it at one input. -/
def hierarchyCertifyWrong : ChangeSpec := { name := "hierarchyCertify", fn := fun _ => fun
  | [d] => { results := [.lit (.bool false)], args := [d] }
  | _ => none }
def HierarchyCertifyWrongFalsely : Prop := hierarchyCertifyRow.holds Tryz.pinned (OpenSpec.ofChange hierarchyCertifyWrong)

/-- 'codewrightlaw29.HierarchyChecks': WHATEVER THE INPUT: true; the input reads as it did. -/
def hierarchyChecksSpec : ChangeSpec := { name := "hierarchyChecks", fn := fun _ => fun
  | [d1, d2] => { results := [.lit (.bool true)], args := [d1, d2] }
  | _ => none }
def hierarchyChecksRow : OpenClaim := { program := "ytcflcogbpnmjeaagreat", sum := "724448261a2f4643cd211210659e5216d69d090a439b26fed41e3f0f416de4b6", func := "codewright/codewrightlaw29.HierarchyChecks", spec := "hierarchyChecks", unfollowed := true, recurses := true, apart := false }
def HierarchyChecksSaid : Prop := hierarchyChecksRow.holds Tryz.pinned (OpenSpec.ofChange hierarchyChecksSpec)

/-- ITS FALSE NEIGHBOUR: 'it returns false'. Refute it at one input. -/
def hierarchyChecksWrong : ChangeSpec := { name := "hierarchyChecks", fn := fun _ => fun
  | [d1, d2] => { results := [.lit (.bool false)], args := [d1, d2] }
  | _ => none }
def HierarchyChecksWrongFalsely : Prop := hierarchyChecksRow.holds Tryz.pinned (OpenSpec.ofChange hierarchyChecksWrong)

/-- 'codewrightlaw29.HierarchySound': WHATEVER THE INPUT: true; the input reads as it did. -/
def hierarchySoundSpec : ChangeSpec := { name := "hierarchySound", fn := fun _ => fun
  | [d1, d2, d3] => { results := [.lit (.bool true)], args := [d1, d2, d3] }
  | _ => none }
def hierarchySoundRow : OpenClaim := { program := "ytcflcogbpnmjeaagreat", sum := "724448261a2f4643cd211210659e5216d69d090a439b26fed41e3f0f416de4b6", func := "codewright/codewrightlaw29.HierarchySound", spec := "hierarchySound", unfollowed := true, recurses := true, apart := false }
def HierarchySoundSaid : Prop := hierarchySoundRow.holds Tryz.pinned (OpenSpec.ofChange hierarchySoundSpec)

/-- ITS FALSE NEIGHBOUR: 'it returns false'. Refute it at one input. -/
def hierarchySoundWrong : ChangeSpec := { name := "hierarchySound", fn := fun _ => fun
  | [d1, d2, d3] => { results := [.lit (.bool false)], args := [d1, d2, d3] }
  | _ => none }
def HierarchySoundWrongFalsely : Prop := hierarchySoundRow.holds Tryz.pinned (OpenSpec.ofChange hierarchySoundWrong)

/-- 'codewrightlaw29.HierarchyDuality': WHATEVER THE INPUT: true; the input reads as it did. -/
def hierarchyDualitySpec : ChangeSpec := { name := "hierarchyDuality", fn := fun _ => fun
  | [d] => { results := [.lit (.bool true)], args := [d] }
  | _ => none }
def hierarchyDualityRow : OpenClaim := { program := "ytcflcogbpnmjeaagreat", sum := "724448261a2f4643cd211210659e5216d69d090a439b26fed41e3f0f416de4b6", func := "codewright/codewrightlaw29.HierarchyDuality", spec := "hierarchyDuality", unfollowed := true, recurses := true, apart := false }
def HierarchyDualitySaid : Prop := hierarchyDualityRow.holds Tryz.pinned (OpenSpec.ofChange hierarchyDualitySpec)

/-- ITS FALSE NEIGHBOUR: 'it returns false'. Refute it at one input. -/
def hierarchyDualityWrong : ChangeSpec := { name := "hierarchyDuality", fn := fun _ => fun
  | [d] => { results := [.lit (.bool false)], args := [d] }
  | _ => none }
def HierarchyDualityWrongFalsely : Prop := hierarchyDualityRow.holds Tryz.pinned (OpenSpec.ofChange hierarchyDualityWrong)

/-- 'codewrightlaw29.HierarchySubcodes': WHATEVER THE INPUT: true; the input reads as it did. -/
def hierarchySubcodesSpec : ChangeSpec := { name := "hierarchySubcodes", fn := fun _ => fun
  | [d1, d2] => { results := [.lit (.bool true)], args := [d1, d2] }
  | _ => none }
def hierarchySubcodesRow : OpenClaim := { program := "ytcflcogbpnmjeaagreat", sum := "724448261a2f4643cd211210659e5216d69d090a439b26fed41e3f0f416de4b6", func := "codewright/codewrightlaw29.HierarchySubcodes", spec := "hierarchySubcodes", unfollowed := true, recurses := true, apart := false }
def HierarchySubcodesSaid : Prop := hierarchySubcodesRow.holds Tryz.pinned (OpenSpec.ofChange hierarchySubcodesSpec)

/-- ITS FALSE NEIGHBOUR: 'it returns false'. Refute it at one input. -/
def hierarchySubcodesWrong : ChangeSpec := { name := "hierarchySubcodes", fn := fun _ => fun
  | [d1, d2] => { results := [.lit (.bool false)], args := [d1, d2] }
  | _ => none }
def HierarchySubcodesWrongFalsely : Prop := hierarchySubcodesRow.holds Tryz.pinned (OpenSpec.ofChange hierarchySubcodesWrong)

/-- 'codewrightlaw29.HierarchyBounds': WHATEVER THE INPUT: true; the input reads as it did. -/
def hierarchyBoundsSpec : ChangeSpec := { name := "hierarchyBounds", fn := fun _ => fun
  | [d] => { results := [.lit (.bool true)], args := [d] }
  | _ => none }
def hierarchyBoundsRow : OpenClaim := { program := "ytcflcogbpnmjeaagreat", sum := "724448261a2f4643cd211210659e5216d69d090a439b26fed41e3f0f416de4b6", func := "codewright/codewrightlaw29.HierarchyBounds", spec := "hierarchyBounds", unfollowed := true, recurses := true, named := ["math/bits.divideError", "math/bits.overflowError"], apart := false }
def HierarchyBoundsSaid : Prop := hierarchyBoundsRow.holds Tryz.pinned (OpenSpec.ofChange hierarchyBoundsSpec)

/-- ITS FALSE NEIGHBOUR: 'it returns false'. Refute it at one input. -/
def hierarchyBoundsWrong : ChangeSpec := { name := "hierarchyBounds", fn := fun _ => fun
  | [d] => { results := [.lit (.bool false)], args := [d] }
  | _ => none }
def HierarchyBoundsWrongFalsely : Prop := hierarchyBoundsRow.holds Tryz.pinned (OpenSpec.ofChange hierarchyBoundsWrong)

/- THE SECOND FORM. 'bulk': how many values and letters a reading holds, each counted each time it is reached (what is shared counts as often as it is met; a slice's spare places count too). A statement '..UptoSaid' is the law's where the arguments, and the package variables that the reading takes, are together of bulk at most 1048576: NARROWER than '..Said'. Prove '..Said' where nothing that the law and all that it calls make is longer than what came in: it says more and counts as full. Else prove '..UptoSaid'. A law counts once. -/
mutual
def uptoBulk {H : Type} : DataW H → Nat
  | .lit (.string bytes) => bytes.length + 1
  | .lit _ => 1
  | .nil => 1
  | .ptr d => uptoBulk d + 1
  | .slice elems spare => uptoBulkAll elems + uptoBulkAll spare + 1
  | .agg parts => uptoBulkAll parts + 1
  | .iface _ d => uptoBulk d + 1
  | .map entries => uptoBulkEntries entries + 1
  | .held _ => 1
def uptoBulkAll {H : Type} : List (DataW H) → Nat
  | [] => 0
  | d :: r => uptoBulk d + uptoBulkAll r
def uptoBulkEntries {H : Type} : List (Lit × DataW H) → Nat
  | [] => 0
  | x :: r => uptoBulkEntry x + uptoBulkEntries r
def uptoBulkEntry {H : Type} : Lit × DataW H → Nat
  | (.string bytes, d) => bytes.length + uptoBulk d + 1
  | (_, d) => uptoBulk d + 1
 end
def uptoSmall : (H : Type) → List (DataW H) → Bool := fun _ ds => decide (uptoBulkAll ds ≤ 1048576)
def OpenSpec.upto (s : _root_.Go.ChangeSpec) : _root_.Go.OpenSpec := { _root_.Go.OpenSpec.ofChange s with cond := some uptoSmall }

/-- 'codewrightlaw26.ExclusionComplete', WHERE WHAT IT READS IS OF BULK AT MOST 1048576: true; the input reads as it did. -/
def exclusionCompleteUptoRow : OpenClaim := { program := "ytcflcogbpnmjeaagreat", sum := "724448261a2f4643cd211210659e5216d69d090a439b26fed41e3f0f416de4b6", func := "codewright/codewrightlaw26.ExclusionComplete", spec := "exclusionComplete", unfollowed := true, recurses := true, apart := false, narrowed := true }
def ExclusionCompleteUptoSaid : Prop := exclusionCompleteUptoRow.holds Tryz.pinned (OpenSpec.upto exclusionCompleteSpec)

/-- 'codewrightlaw26.ExclusionCompleteCoset', WHERE WHAT IT READS IS OF BULK AT MOST 1048576: true; the input reads as it did. -/
def exclusionCompleteCosetUptoRow : OpenClaim := { program := "ytcflcogbpnmjeaagreat", sum := "724448261a2f4643cd211210659e5216d69d090a439b26fed41e3f0f416de4b6", func := "codewright/codewrightlaw26.ExclusionCompleteCoset", spec := "exclusionCompleteCoset", unfollowed := true, recurses := true, apart := false, narrowed := true }
def ExclusionCompleteCosetUptoSaid : Prop := exclusionCompleteCosetUptoRow.holds Tryz.pinned (OpenSpec.upto exclusionCompleteCosetSpec)

/-- 'codewrightlaw29.HierarchyWeights', WHERE WHAT IT READS IS OF BULK AT MOST 1048576: true; the input reads as it did. -/
def hierarchyWeightsUptoRow : OpenClaim := { program := "ytcflcogbpnmjeaagreat", sum := "724448261a2f4643cd211210659e5216d69d090a439b26fed41e3f0f416de4b6", func := "codewright/codewrightlaw29.HierarchyWeights", spec := "hierarchyWeights", unfollowed := true, recurses := true, apart := false, narrowed := true }
def HierarchyWeightsUptoSaid : Prop := hierarchyWeightsUptoRow.holds Tryz.pinned (OpenSpec.upto hierarchyWeightsSpec)

/-- 'codewrightlaw29.HierarchyWitness', WHERE WHAT IT READS IS OF BULK AT MOST 1048576: true; the input reads as it did. -/
def hierarchyWitnessUptoRow : OpenClaim := { program := "ytcflcogbpnmjeaagreat", sum := "724448261a2f4643cd211210659e5216d69d090a439b26fed41e3f0f416de4b6", func := "codewright/codewrightlaw29.HierarchyWitness", spec := "hierarchyWitness", unfollowed := true, recurses := true, apart := false, narrowed := true }
def HierarchyWitnessUptoSaid : Prop := hierarchyWitnessUptoRow.holds Tryz.pinned (OpenSpec.upto hierarchyWitnessSpec)

/-- 'codewrightlaw29.HierarchyLists', WHERE WHAT IT READS IS OF BULK AT MOST 1048576: true; the input reads as it did. -/
def hierarchyListsUptoRow : OpenClaim := { program := "ytcflcogbpnmjeaagreat", sum := "724448261a2f4643cd211210659e5216d69d090a439b26fed41e3f0f416de4b6", func := "codewright/codewrightlaw29.HierarchyLists", spec := "hierarchyLists", unfollowed := true, recurses := true, apart := false, narrowed := true }
def HierarchyListsUptoSaid : Prop := hierarchyListsUptoRow.holds Tryz.pinned (OpenSpec.upto hierarchyListsSpec)

/-- 'codewrightlaw29.HierarchyCertify', WHERE WHAT IT READS IS OF BULK AT MOST 1048576: true; the input reads as it did. -/
def hierarchyCertifyUptoRow : OpenClaim := { program := "ytcflcogbpnmjeaagreat", sum := "724448261a2f4643cd211210659e5216d69d090a439b26fed41e3f0f416de4b6", func := "codewright/codewrightlaw29.HierarchyCertify", spec := "hierarchyCertify", unfollowed := true, recurses := true, apart := false, narrowed := true }
def HierarchyCertifyUptoSaid : Prop := hierarchyCertifyUptoRow.holds Tryz.pinned (OpenSpec.upto hierarchyCertifySpec)

/-- 'codewrightlaw29.HierarchyChecks', WHERE WHAT IT READS IS OF BULK AT MOST 1048576: true; the input reads as it did. -/
def hierarchyChecksUptoRow : OpenClaim := { program := "ytcflcogbpnmjeaagreat", sum := "724448261a2f4643cd211210659e5216d69d090a439b26fed41e3f0f416de4b6", func := "codewright/codewrightlaw29.HierarchyChecks", spec := "hierarchyChecks", unfollowed := true, recurses := true, apart := false, narrowed := true }
def HierarchyChecksUptoSaid : Prop := hierarchyChecksUptoRow.holds Tryz.pinned (OpenSpec.upto hierarchyChecksSpec)

/-- 'codewrightlaw29.HierarchySound', WHERE WHAT IT READS IS OF BULK AT MOST 1048576: true; the input reads as it did. -/
def hierarchySoundUptoRow : OpenClaim := { program := "ytcflcogbpnmjeaagreat", sum := "724448261a2f4643cd211210659e5216d69d090a439b26fed41e3f0f416de4b6", func := "codewright/codewrightlaw29.HierarchySound", spec := "hierarchySound", unfollowed := true, recurses := true, apart := false, narrowed := true }
def HierarchySoundUptoSaid : Prop := hierarchySoundUptoRow.holds Tryz.pinned (OpenSpec.upto hierarchySoundSpec)

/-- 'codewrightlaw29.HierarchyDuality', WHERE WHAT IT READS IS OF BULK AT MOST 1048576: true; the input reads as it did. -/
def hierarchyDualityUptoRow : OpenClaim := { program := "ytcflcogbpnmjeaagreat", sum := "724448261a2f4643cd211210659e5216d69d090a439b26fed41e3f0f416de4b6", func := "codewright/codewrightlaw29.HierarchyDuality", spec := "hierarchyDuality", unfollowed := true, recurses := true, apart := false, narrowed := true }
def HierarchyDualityUptoSaid : Prop := hierarchyDualityUptoRow.holds Tryz.pinned (OpenSpec.upto hierarchyDualitySpec)

/-- 'codewrightlaw29.HierarchySubcodes', WHERE WHAT IT READS IS OF BULK AT MOST 1048576: true; the input reads as it did. -/
def hierarchySubcodesUptoRow : OpenClaim := { program := "ytcflcogbpnmjeaagreat", sum := "724448261a2f4643cd211210659e5216d69d090a439b26fed41e3f0f416de4b6", func := "codewright/codewrightlaw29.HierarchySubcodes", spec := "hierarchySubcodes", unfollowed := true, recurses := true, apart := false, narrowed := true }
def HierarchySubcodesUptoSaid : Prop := hierarchySubcodesUptoRow.holds Tryz.pinned (OpenSpec.upto hierarchySubcodesSpec)

/-- 'codewrightlaw29.HierarchyBounds', WHERE WHAT IT READS IS OF BULK AT MOST 1048576: true; the input reads as it did. -/
def hierarchyBoundsUptoRow : OpenClaim := { program := "ytcflcogbpnmjeaagreat", sum := "724448261a2f4643cd211210659e5216d69d090a439b26fed41e3f0f416de4b6", func := "codewright/codewrightlaw29.HierarchyBounds", spec := "hierarchyBounds", unfollowed := true, recurses := true, named := ["math/bits.divideError", "math/bits.overflowError"], apart := false, narrowed := true }
def HierarchyBoundsUptoSaid : Prop := hierarchyBoundsUptoRow.holds Tryz.pinned (OpenSpec.upto hierarchyBoundsSpec)

end Rows
end Go.Proofs.YtcflcogbpnmjeaaGreat
