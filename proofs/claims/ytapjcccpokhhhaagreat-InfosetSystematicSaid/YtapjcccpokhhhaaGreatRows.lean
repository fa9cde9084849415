/-
  No cell of these rows narrows 'for every input' (looked for: loops, veiled, ifaces, maps, wideKeys, modest, calm, conditions, laid).
  DERIVED. THE GIVEN ROWS OF THIS SEAT. 11 by the template 'for every input the law returns true; each argument reads behind the call as it read before'; 0 by the template 'total and deterministic' (their statements: YtapjcccpokhhhaaGreatTotals.lean).
  GIVEN WITH THE SEED: the statements are not yours to turn. If you find one false, say at which input.
  Laid BY PROGRAM, IN A SANDBOX (cutbox-rows.mjs): the forced cells as the released guide's own fill.sh prints them over the translation edadaca85e447c0f… (all of the seat's roots in one cut). By AI agents, Wed Nov 11 2026. No macro, syntax, notation, axiom, sorry.
-/
import Derived.Test.YtapjcccpokhhhaaGreatChecked
import GoSem.Claim
import GoSem.ClaimJoined
import GoSem.ClaimMapViews
import Derived.JoinedTies
import Derived.KernelRfl
namespace Go.Proofs.YtapjcccpokhhhaaGreat
/- THE CELL 'sum', in the pinned program and in every row, IS THE sha256 OF THE DUMP (.gsa) THAT YtapjcccpokhhhaaGreatProg.lean LOADS. Nothing in Lean hashes anything: it is a label: what it is worth is what the hold of that sum in a sandbox is worth. -/
noncomputable def Tryz.pinned : Pinned := { name := "ytapjcccpokhhhaagreat", sum := "edadaca85e447c0f8f541b06d033ace33453dceb86dbb27ed706a3ef3513e2f0", checked := Tryz.checked }
namespace Rows
def none {H : Type} : Left H := { results := [], args := [] }

/-- 'codewrightlaw26.ExclusionRank': WHATEVER THE INPUT: true; the input reads as it did. -/
def exclusionRankSpec : ChangeSpec := { name := "exclusionRank", fn := fun _ => fun
  | [d1, d2, d3] => { results := [.lit (.bool true)], args := [d1, d2, d3] }
  | _ => none }
def exclusionRankRow : OpenClaim := { program := "ytapjcccpokhhhaagreat", sum := "edadaca85e447c0f8f541b06d033ace33453dceb86dbb27ed706a3ef3513e2f0", func := "codewright/codewrightlaw26.ExclusionRank", spec := "exclusionRank", unfollowed := true, recurses := true, apart := false }
def ExclusionRankSaid : Prop := exclusionRankRow.holds Tryz.pinned (OpenSpec.ofChange exclusionRankSpec)

/-- ITS FALSE NEIGHBOUR: 'it returns false'. Refute it at one input. -/
def exclusionRankWrong : ChangeSpec := { name := "exclusionRank", fn := fun _ => fun
  | [d1, d2, d3] => { results := [.lit (.bool false)], args := [d1, d2, d3] }
  | _ => none }
def ExclusionRankWrongFalsely : Prop := exclusionRankRow.holds Tryz.pinned (OpenSpec.ofChange exclusionRankWrong)

/-- 'codewrightlaw26.ExclusionBuilds': WHATEVER THE INPUT: true; the input reads as it did. -/
def exclusionBuildsSpec : ChangeSpec := { name := "exclusionBuilds", fn := fun _ => fun
  | [d1, d2, d3] => { results := [.lit (.bool true)], args := [d1, d2, d3] }
  | _ => none }
def exclusionBuildsRow : OpenClaim := { program := "ytapjcccpokhhhaagreat", sum := "edadaca85e447c0f8f541b06d033ace33453dceb86dbb27ed706a3ef3513e2f0", func := "codewright/codewrightlaw26.ExclusionBuilds", spec := "exclusionBuilds", unfollowed := true, recurses := true, apart := false }
def ExclusionBuildsSaid : Prop := exclusionBuildsRow.holds Tryz.pinned (OpenSpec.ofChange exclusionBuildsSpec)

/-- ITS FALSE NEIGHBOUR: 'it returns false'. Refute it at one input. -/
def exclusionBuildsWrong : ChangeSpec := { name := "exclusionBuilds", fn := fun _ => fun
  | [d1, d2, d3] => { results := [.lit (.bool false)], args := [d1, d2, d3] }
  | _ => none }
def ExclusionBuildsWrongFalsely : Prop := exclusionBuildsRow.holds Tryz.pinned (OpenSpec.ofChange exclusionBuildsWrong)

/-- 'codewrightlaw26.ExclusionDistance': WHATEVER THE INPUT: true; the input reads as it did. -/
def exclusionDistanceSpec : ChangeSpec := { name := "exclusionDistance", fn := fun _ => fun
  | [d1, d2, d3] => { results := [.lit (.bool true)], args := [d1, d2, d3] }
  | _ => none }
def exclusionDistanceRow : OpenClaim := { program := "ytapjcccpokhhhaagreat", sum := "edadaca85e447c0f8f541b06d033ace33453dceb86dbb27ed706a3ef3513e2f0", func := "codewright/codewrightlaw26.ExclusionDistance", spec := "exclusionDistance", unfollowed := true, recurses := true, apart := false }
def ExclusionDistanceSaid : Prop := exclusionDistanceRow.holds Tryz.pinned (OpenSpec.ofChange exclusionDistanceSpec)

/-- ITS FALSE NEIGHBOUR: 'it returns false'. Refute it at one input. -/
def exclusionDistanceWrong : ChangeSpec := { name := "exclusionDistance", fn := fun _ => fun
  | [d1, d2, d3] => { results := [.lit (.bool false)], args := [d1, d2, d3] }
  | _ => none }
def ExclusionDistanceWrongFalsely : Prop := exclusionDistanceRow.holds Tryz.pinned (OpenSpec.ofChange exclusionDistanceWrong)

/-- 'codewrightlaw26.ExclusionCoset': WHATEVER THE INPUT: true; the input reads as it did. -/
def exclusionCosetSpec : ChangeSpec := { name := "exclusionCoset", fn := fun _ => fun
  | [d1, d2, d3] => { results := [.lit (.bool true)], args := [d1, d2, d3] }
  | _ => none }
def exclusionCosetRow : OpenClaim := { program := "ytapjcccpokhhhaagreat", sum := "edadaca85e447c0f8f541b06d033ace33453dceb86dbb27ed706a3ef3513e2f0", func := "codewright/codewrightlaw26.ExclusionCoset", spec := "exclusionCoset", unfollowed := true, recurses := true, apart := false }
def ExclusionCosetSaid : Prop := exclusionCosetRow.holds Tryz.pinned (OpenSpec.ofChange exclusionCosetSpec)

/-- ITS FALSE NEIGHBOUR: 'it returns false'. Refute it at one input. -/
def exclusionCosetWrong : ChangeSpec := { name := "exclusionCoset", fn := fun _ => fun
  | [d1, d2, d3] => { results := [.lit (.bool false)], args := [d1, d2, d3] }
  | _ => none }
def ExclusionCosetWrongFalsely : Prop := exclusionCosetRow.holds Tryz.pinned (OpenSpec.ofChange exclusionCosetWrong)

/-- 'codewrightlaw26.ExclusionCosets': WHATEVER THE INPUT: true; the input reads as it did. -/
def exclusionCosetsSpec : ChangeSpec := { name := "exclusionCosets", fn := fun _ => fun
  | [d1, d2, d3] => { results := [.lit (.bool true)], args := [d1, d2, d3] }
  | _ => none }
def exclusionCosetsRow : OpenClaim := { program := "ytapjcccpokhhhaagreat", sum := "edadaca85e447c0f8f541b06d033ace33453dceb86dbb27ed706a3ef3513e2f0", func := "codewright/codewrightlaw26.ExclusionCosets", spec := "exclusionCosets", unfollowed := true, recurses := true, apart := false }
def ExclusionCosetsSaid : Prop := exclusionCosetsRow.holds Tryz.pinned (OpenSpec.ofChange exclusionCosetsSpec)

/-- ITS FALSE NEIGHBOUR: 'it returns false'. Refute it at one input. -/
def exclusionCosetsWrong : ChangeSpec := { name := "exclusionCosets", fn := fun _ => fun
  | [d1, d2, d3] => { results := [.lit (.bool false)], args := [d1, d2, d3] }
  | _ => none }
def ExclusionCosetsWrongFalsely : Prop := exclusionCosetsRow.holds Tryz.pinned (OpenSpec.ofChange exclusionCosetsWrong)

/-- 'codewrightlaw25.InfosetSystematic': WHATEVER THE INPUT: true; the input reads as it did. -/
def infosetSystematicSpec : ChangeSpec := { name := "infosetSystematic", fn := fun _ => fun
  | [d1, d2] => { results := [.lit (.bool true)], args := [d1, d2] }
  | _ => none }
def infosetSystematicRow : OpenClaim := { program := "ytapjcccpokhhhaagreat", sum := "edadaca85e447c0f8f541b06d033ace33453dceb86dbb27ed706a3ef3513e2f0", func := "codewright/codewrightlaw25.InfosetSystematic", spec := "infosetSystematic", unfollowed := true, recurses := true, apart := false }
def InfosetSystematicSaid : Prop := infosetSystematicRow.holds Tryz.pinned (OpenSpec.ofChange infosetSystematicSpec)

/-- ITS FALSE NEIGHBOUR: 'it returns false'. Refute it at one input. -/
def infosetSystematicWrong : ChangeSpec := { name := "infosetSystematic", fn := fun _ => fun
  | [d1, d2] => { results := [.lit (.bool false)], args := [d1, d2] }
  | _ => none }
def InfosetSystematicWrongFalsely : Prop := infosetSystematicRow.holds Tryz.pinned (OpenSpec.ofChange infosetSystematicWrong)

/-- 'codewrightlaw26.ExclusionSound': WHATEVER THE INPUT: true; the input reads as it did. -/
def exclusionSoundSpec : ChangeSpec := { name := "exclusionSound", fn := fun _ => fun
  | [d1, d2, d3] => { results := [.lit (.bool true)], args := [d1, d2, d3] }
  | _ => none }
def exclusionSoundRow : OpenClaim := { program := "ytapjcccpokhhhaagreat", sum := "edadaca85e447c0f8f541b06d033ace33453dceb86dbb27ed706a3ef3513e2f0", func := "codewright/codewrightlaw26.ExclusionSound", spec := "exclusionSound", unfollowed := true, recurses := true, apart := false }
def ExclusionSoundSaid : Prop := exclusionSoundRow.holds Tryz.pinned (OpenSpec.ofChange exclusionSoundSpec)

/-- ITS FALSE NEIGHBOUR: 'it returns false'. Refute it at one input. -/
def exclusionSoundWrong : ChangeSpec := { name := "exclusionSound", fn := fun _ => fun
  | [d1, d2, d3] => { results := [.lit (.bool false)], args := [d1, d2, d3] }
  | _ => none }
def ExclusionSoundWrongFalsely : Prop := exclusionSoundRow.holds Tryz.pinned (OpenSpec.ofChange exclusionSoundWrong)

/-- 'codewrightlaw26.ExclusionSoundCoset': WHATEVER THE INPUT: true; the input reads as it did. -/
def exclusionSoundCosetSpec : ChangeSpec := { name := "exclusionSoundCoset", fn := fun _ => fun
  | [d1, d2, d3] => { results := [.lit (.bool true)], args := [d1, d2, d3] }
  | _ => none }
def exclusionSoundCosetRow : OpenClaim := { program := "ytapjcccpokhhhaagreat", sum := "edadaca85e447c0f8f541b06d033ace33453dceb86dbb27ed706a3ef3513e2f0", func := "codewright/codewrightlaw26.ExclusionSoundCoset", spec := "exclusionSoundCoset", unfollowed := true, recurses := true, apart := false }
def ExclusionSoundCosetSaid : Prop := exclusionSoundCosetRow.holds Tryz.pinned (OpenSpec.ofChange exclusionSoundCosetSpec)

/-- ITS FALSE NEIGHBOUR: 'it returns false'. Refute it at one input. -/
def exclusionSoundCosetWrong : ChangeSpec := { name := "exclusionSoundCoset", fn := fun _ => fun
  | [d1, d2, d3] => { results := [.lit (.bool false)], args := [d1, d2, d3] }
  | _ => none }
def ExclusionSoundCosetWrongFalsely : Prop := exclusionSoundCosetRow.holds Tryz.pinned (OpenSpec.ofChange exclusionSoundCosetWrong)

/-- 'codewrightlaw26.ExclusionSoundRank': WHATEVER THE INPUT: true; the input reads as it did. -/
def exclusionSoundRankSpec : ChangeSpec := { name := "exclusionSoundRank", fn := fun _ => fun
  | [d1, d2, d3] => { results := [.lit (.bool true)], args := [d1, d2, d3] }
  | _ => none }
def exclusionSoundRankRow : OpenClaim := { program := "ytapjcccpokhhhaagreat", sum := "edadaca85e447c0f8f541b06d033ace33453dceb86dbb27ed706a3ef3513e2f0", func := "codewright/codewrightlaw26.ExclusionSoundRank", spec := "exclusionSoundRank", unfollowed := true, recurses := true, apart := false }
def ExclusionSoundRankSaid : Prop := exclusionSoundRankRow.holds Tryz.pinned (OpenSpec.ofChange exclusionSoundRankSpec)

/-- ITS FALSE NEIGHBOUR: 'it returns false'. Refute it at one input. -/
def exclusionSoundRankWrong : ChangeSpec := { name := "exclusionSoundRank", fn := fun _ => fun
  | [d1, d2, d3] => { results := [.lit (.bool false)], args := [d1, d2, d3] }
  | _ => none }
def ExclusionSoundRankWrongFalsely : Prop := exclusionSoundRankRow.holds Tryz.pinned (OpenSpec.ofChange exclusionSoundRankWrong)

/-- 'codewrightlaw26.ExclusionComplete': WHATEVER THE INPUT: true; the input reads as it did. -/
def exclusionCompleteSpec : ChangeSpec := { name := "exclusionComplete", fn := fun _ => fun
  | [d1, d2] => { results := [.lit (.bool true)], args := [d1, d2] }
  | _ => none }
def exclusionCompleteRow : OpenClaim := { program := "ytapjcccpokhhhaagreat", sum := "edadaca85e447c0f8f541b06d033ace33453dceb86dbb27ed706a3ef3513e2f0", func := "codewright/codewrightlaw26.ExclusionComplete", spec := "exclusionComplete", unfollowed := true, recurses := true, apart := false }
def ExclusionCompleteSaid : Prop := exclusionCompleteRow.holds Tryz.pinned (OpenSpec.ofChange exclusionCompleteSpec)

/-- ITS FALSE NEIGHBOUR: 'it returns false'. Refute it at one input. -/
def exclusionCompleteWrong : ChangeSpec := { name := "exclusionComplete", fn := fun _ => fun
  | [d1, d2] => { results := [.lit (.bool false)], args := [d1, d2] }
  | _ => none }
def ExclusionCompleteWrongFalsely : Prop := exclusionCompleteRow.holds Tryz.pinned (OpenSpec.ofChange exclusionCompleteWrong)

/-- 'codewrightlaw26.ExclusionCompleteCoset': WHATEVER THE INPUT: true; the input reads as it did. -/
def exclusionCompleteCosetSpec : ChangeSpec := { name := "exclusionCompleteCoset", fn := fun _ => fun
  | [d1, d2, d3] => { results := [.lit (.bool true)], args := [d1, d2, d3] }
  | _ => none }
def exclusionCompleteCosetRow : OpenClaim := { program := "ytapjcccpokhhhaagreat", sum := "edadaca85e447c0f8f541b06d033ace33453dceb86dbb27ed706a3ef3513e2f0", func := "codewright/codewrightlaw26.ExclusionCompleteCoset", spec := "exclusionCompleteCoset", unfollowed := true, recurses := true, apart := false }
def ExclusionCompleteCosetSaid : Prop := exclusionCompleteCosetRow.holds Tryz.pinned (OpenSpec.ofChange exclusionCompleteCosetSpec)

/-- ITS FALSE NEIGHBOUR: 'it returns false'. Refute it at one input. -/
def exclusionCompleteCosetWrong : ChangeSpec := { name := "exclusionCompleteCoset", fn := fun _ => fun
  | [d1, d2, d3] => { results := [.lit (.bool false)], args := [d1, d2, d3] }
  | _ => none }
def ExclusionCompleteCosetWrongFalsely : Prop := exclusionCompleteCosetRow.holds Tryz.pinned (OpenSpec.ofChange exclusionCompleteCosetWrong)

/- THE SECOND FORM. 'bulk': how many values and letters a reading holds, each counted each time it is reached (what is shared counts as often as it is met; a slice's spare places count too). A statement '..UptoSaid' is the law's where the arguments, and the package variables that the reading takes, are together of bulk at most 1048576: NARROWER than '..Said'. Prove '..Said' where nothing that the law and all that it calls make is longer than what came in: it says more and counts as full. Else prove '..UptoSaid'. A law counts once. -/
mutual
def uptoBulk {H : Type} : DataW H → Nat
  | .lit (.string bytes) => bytes.length + 1
  | .lit _ => 1
  | .nil => 1
  | .ptr d => uptoBulk d + 1
  | .slice elems spare => uptoBulkAll elems + uptoBulkAll spare + 1
  | .agg parts => uptoBulkAll parts + 1
  | .iface _ d => uptoBulk d + 1
  | .map entries => uptoBulkEntries entries + 1
  | .held _ => 1
def uptoBulkAll {H : Type} : List (DataW H) → Nat
  | [] => 0
  | d :: r => uptoBulk d + uptoBulkAll r
def uptoBulkEntries {H : Type} : List (Lit × DataW H) → Nat
  | [] => 0
  | x :: r => uptoBulkEntry x + uptoBulkEntries r
def uptoBulkEntry {H : Type} : Lit × DataW H → Nat
  | (.string bytes, d) => bytes.length + uptoBulk d + 1
  | (_, d) => uptoBulk d + 1
 end
def uptoSmall : (H : Type) → List (DataW H) → Bool := fun _ ds => decide (uptoBulkAll ds ≤ 1048576)
def OpenSpec.upto (s : _root_.Go.ChangeSpec) : _root_.Go.OpenSpec := { _root_.Go.OpenSpec.ofChange s with cond := some uptoSmall }

/-- 'codewrightlaw26.ExclusionRank', WHERE WHAT IT READS IS OF BULK AT MOST 1048576: true; the input reads as it did. -/
def exclusionRankUptoRow : OpenClaim := { program := "ytapjcccpokhhhaagreat", sum := "edadaca85e447c0f8f541b06d033ace33453dceb86dbb27ed706a3ef3513e2f0", func := "codewright/codewrightlaw26.ExclusionRank", spec := "exclusionRank", unfollowed := true, recurses := true, apart := false, narrowed := true }
def ExclusionRankUptoSaid : Prop := exclusionRankUptoRow.holds Tryz.pinned (OpenSpec.upto exclusionRankSpec)

/-- 'codewrightlaw26.ExclusionBuilds', WHERE WHAT IT READS IS OF BULK AT MOST 1048576: true; the input reads as it did. -/
def exclusionBuildsUptoRow : OpenClaim := { program := "ytapjcccpokhhhaagreat", sum := "edadaca85e447c0f8f541b06d033ace33453dceb86dbb27ed706a3ef3513e2f0", func := "codewright/codewrightlaw26.ExclusionBuilds", spec := "exclusionBuilds", unfollowed := true, recurses := true, apart := false, narrowed := true }
def ExclusionBuildsUptoSaid : Prop := exclusionBuildsUptoRow.holds Tryz.pinned (OpenSpec.upto exclusionBuildsSpec)

/-- 'codewrightlaw26.ExclusionDistance', WHERE WHAT IT READS IS OF BULK AT MOST 1048576: true; the input reads as it did. -/
def exclusionDistanceUptoRow : OpenClaim := { program := "ytapjcccpokhhhaagreat", sum := "edadaca85e447c0f8f541b06d033ace33453dceb86dbb27ed706a3ef3513e2f0", func := "codewright/codewrightlaw26.ExclusionDistance", spec := "exclusionDistance", unfollowed := true, recurses := true, apart := false, narrowed := true }
def ExclusionDistanceUptoSaid : Prop := exclusionDistanceUptoRow.holds Tryz.pinned (OpenSpec.upto exclusionDistanceSpec)

/-- 'codewrightlaw26.ExclusionCoset', WHERE WHAT IT READS IS OF BULK AT MOST 1048576: true; the input reads as it did. -/
def exclusionCosetUptoRow : OpenClaim := { program := "ytapjcccpokhhhaagreat", sum := "edadaca85e447c0f8f541b06d033ace33453dceb86dbb27ed706a3ef3513e2f0", func := "codewright/codewrightlaw26.ExclusionCoset", spec := "exclusionCoset", unfollowed := true, recurses := true, apart := false, narrowed := true }
def ExclusionCosetUptoSaid : Prop := exclusionCosetUptoRow.holds Tryz.pinned (OpenSpec.upto exclusionCosetSpec)

/-- 'codewrightlaw26.ExclusionCosets', WHERE WHAT IT READS IS OF BULK AT MOST 1048576: true; the input reads as it did. -/
def exclusionCosetsUptoRow : OpenClaim := { program := "ytapjcccpokhhhaagreat", sum := "edadaca85e447c0f8f541b06d033ace33453dceb86dbb27ed706a3ef3513e2f0", func := "codewright/codewrightlaw26.ExclusionCosets", spec := "exclusionCosets", unfollowed := true, recurses := true, apart := false, narrowed := true }
def ExclusionCosetsUptoSaid : Prop := exclusionCosetsUptoRow.holds Tryz.pinned (OpenSpec.upto exclusionCosetsSpec)

/-- 'codewrightlaw25.InfosetSystematic', WHERE WHAT IT READS IS OF BULK AT MOST 1048576: true; the input reads as it did. -/
def infosetSystematicUptoRow : OpenClaim := { program := "ytapjcccpokhhhaagreat", sum := "edadaca85e447c0f8f541b06d033ace33453dceb86dbb27ed706a3ef3513e2f0", func := "codewright/codewrightlaw25.InfosetSystematic", spec := "infosetSystematic", unfollowed := true, recurses := true, apart := false, narrowed := true }
def InfosetSystematicUptoSaid : Prop := infosetSystematicUptoRow.holds Tryz.pinned (OpenSpec.upto infosetSystematicSpec)

/-- 'codewrightlaw26.ExclusionSound', WHERE WHAT IT READS IS OF BULK AT MOST 1048576: true; the input reads as it did. -/
def exclusionSoundUptoRow : OpenClaim := { program := "ytapjcccpokhhhaagreat", sum := "edadaca85e447c0f8f541b06d033ace33453dceb86dbb27ed706a3ef3513e2f0", func := "codewright/codewrightlaw26.ExclusionSound", spec := "exclusionSound", unfollowed := true, recurses := true, apart := false, narrowed := true }
def ExclusionSoundUptoSaid : Prop := exclusionSoundUptoRow.holds Tryz.pinned (OpenSpec.upto exclusionSoundSpec)

/-- 'codewrightlaw26.ExclusionSoundCoset', WHERE WHAT IT READS IS OF BULK AT MOST 1048576: true; the input reads as it did. -/
def exclusionSoundCosetUptoRow : OpenClaim := { program := "ytapjcccpokhhhaagreat", sum := "edadaca85e447c0f8f541b06d033ace33453dceb86dbb27ed706a3ef3513e2f0", func := "codewright/codewrightlaw26.ExclusionSoundCoset", spec := "exclusionSoundCoset", unfollowed := true, recurses := true, apart := false, narrowed := true }
def ExclusionSoundCosetUptoSaid : Prop := exclusionSoundCosetUptoRow.holds Tryz.pinned (OpenSpec.upto exclusionSoundCosetSpec)

/-- 'codewrightlaw26.ExclusionSoundRank', WHERE WHAT IT READS IS OF BULK AT MOST 1048576: true; the input reads as it did. -/
def exclusionSoundRankUptoRow : OpenClaim := { program := "ytapjcccpokhhhaagreat", sum := "edadaca85e447c0f8f541b06d033ace33453dceb86dbb27ed706a3ef3513e2f0", func := "codewright/codewrightlaw26.ExclusionSoundRank", spec := "exclusionSoundRank", unfollowed := true, recurses := true, apart := false, narrowed := true }
def ExclusionSoundRankUptoSaid : Prop := exclusionSoundRankUptoRow.holds Tryz.pinned (OpenSpec.upto exclusionSoundRankSpec)

/-- 'codewrightlaw26.ExclusionComplete', WHERE WHAT IT READS IS OF BULK AT MOST 1048576: true; the input reads as it did. -/
def exclusionCompleteUptoRow : OpenClaim := { program := "ytapjcccpokhhhaagreat", sum := "edadaca85e447c0f8f541b06d033ace33453dceb86dbb27ed706a3ef3513e2f0", func := "codewright/codewrightlaw26.ExclusionComplete", spec := "exclusionComplete", unfollowed := true, recurses := true, apart := false, narrowed := true }
def ExclusionCompleteUptoSaid : Prop := exclusionCompleteUptoRow.holds Tryz.pinned (OpenSpec.upto exclusionCompleteSpec)

/-- 'codewrightlaw26.ExclusionCompleteCoset', WHERE WHAT IT READS IS OF BULK AT MOST 1048576: true; the input reads as it did. -/
def exclusionCompleteCosetUptoRow : OpenClaim := { program := "ytapjcccpokhhhaagreat", sum := "edadaca85e447c0f8f541b06d033ace33453dceb86dbb27ed706a3ef3513e2f0", func := "codewright/codewrightlaw26.ExclusionCompleteCoset", spec := "exclusionCompleteCoset", unfollowed := true, recurses := true, apart := false, narrowed := true }
def ExclusionCompleteCosetUptoSaid : Prop := exclusionCompleteCosetUptoRow.holds Tryz.pinned (OpenSpec.upto exclusionCompleteCosetSpec)

end Rows
end Go.Proofs.YtapjcccpokhhhaaGreat
