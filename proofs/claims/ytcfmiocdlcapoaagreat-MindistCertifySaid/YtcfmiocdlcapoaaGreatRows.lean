/-
  No cell of these rows narrows 'for every input' (looked for: loops, veiled, ifaces, maps, wideKeys, modest, calm, conditions, laid).
  DERIVED. THE GIVEN ROWS OF THIS SEAT. 9 by the template 'for every input the law returns true; each argument reads behind the call as it read before'; 0 by the template 'total and deterministic' (their statements: YtcfmiocdlcapoaaGreatTotals.lean).
  GIVEN WITH THE SEED: the statements are not yours to turn. If you find one false, say at which input.
  Laid BY PROGRAM, IN A SANDBOX (cutbox-rows.mjs): the forced cells as the released guide's own fill.sh prints them over the translation 1c7e8fa0e2829ec8… (all of the seat's roots in one cut). By AI agents, Wed Nov 11 2026. No macro, syntax, notation, axiom, sorry.
-/
import Derived.Test.YtcfmiocdlcapoaaGreatChecked
import GoSem.Claim
import GoSem.ClaimJoined
import GoSem.ClaimMapViews
import Derived.JoinedTies
import Derived.KernelRfl
namespace Go.Proofs.YtcfmiocdlcapoaaGreat
/- THE CELL 'sum', in the pinned program and in every row, IS THE sha256 OF THE DUMP (.gsa) THAT YtcfmiocdlcapoaaGreatProg.lean LOADS. Nothing in Lean hashes anything: it is a label: what it is worth is what the hold of that sum in a sandbox is worth. -/
noncomputable def Tryz.pinned : Pinned := { name := "ytcfmiocdlcapoaagreat", sum := "1c7e8fa0e2829ec802cc873ed584c6dc613055454c0ecb88e06fed1bd3bb7933", checked := Tryz.checked }
namespace Rows
def none {H : Type} : Left H := { results := [], args := [] }

/-- 'codewrightlaw27.MindistRounds': WHATEVER THE INPUT: true; the input reads as it did. -/
def mindistRoundsSpec : ChangeSpec := { name := "mindistRounds", fn := fun _ => fun
  | [d] => { results := [.lit (.bool true)], args := [d] }
  | _ => none }
def mindistRoundsRow : OpenClaim := { program := "ytcfmiocdlcapoaagreat", sum := "1c7e8fa0e2829ec802cc873ed584c6dc613055454c0ecb88e06fed1bd3bb7933", func := "codewright/codewrightlaw27.MindistRounds", spec := "mindistRounds", unfollowed := true, recurses := true, named := ["math/bits.divideError", "math/bits.overflowError"], apart := false }
def MindistRoundsSaid : Prop := mindistRoundsRow.holds Tryz.pinned (OpenSpec.ofChange mindistRoundsSpec)

/-- ITS FALSE NEIGHBOUR: 'it returns false'. Refute it at one input. -/
def mindistRoundsWrong : ChangeSpec := { name := "mindistRounds", fn := fun _ => fun
  | [d] => { results := [.lit (.bool false)], args := [d] }
  | _ => none }
def MindistRoundsWrongFalsely : Prop := mindistRoundsRow.holds Tryz.pinned (OpenSpec.ofChange mindistRoundsWrong)

/-- 'codewrightlaw27.MindistCertify': WHATEVER THE INPUT: true; the input reads as it did. -/
def mindistCertifySpec : ChangeSpec := { name := "mindistCertify", fn := fun _ => fun
  | [d] => { results := [.lit (.bool true)], args := [d] }
  | _ => none }
def mindistCertifyRow : OpenClaim := { program := "ytcfmiocdlcapoaagreat", sum := "1c7e8fa0e2829ec802cc873ed584c6dc613055454c0ecb88e06fed1bd3bb7933", func := "codewright/codewrightlaw27.MindistCertify", spec := "mindistCertify", unfollowed := true, recurses := true, named := ["math/bits.divideError", "math/bits.overflowError"], apart := false }
def MindistCertifySaid : Prop := mindistCertifyRow.holds Tryz.pinned (OpenSpec.ofChange mindistCertifySpec)

/-- ITS FALSE NEIGHBOUR: 'it returns false'. Refute it at one input. -/
def mindistCertifyWrong : ChangeSpec := { name := "mindistCertify", fn := fun _ => fun
  | [d] => { results := [.lit (.bool false)], args := [d] }
  | _ => none }
def MindistCertifyWrongFalsely : Prop := mindistCertifyRow.holds Tryz.pinned (OpenSpec.ofChange mindistCertifyWrong)

/-- 'codewrightlaw27.MindistChecks': WHATEVER THE INPUT: true; the input reads as it did. -/
def mindistChecksSpec : ChangeSpec := { name := "mindistChecks", fn := fun _ => fun
  | [d1, d2] => { results := [.lit (.bool true)], args := [d1, d2] }
  | _ => none }
def mindistChecksRow : OpenClaim := { program := "ytcfmiocdlcapoaagreat", sum := "1c7e8fa0e2829ec802cc873ed584c6dc613055454c0ecb88e06fed1bd3bb7933", func := "codewright/codewrightlaw27.MindistChecks", spec := "mindistChecks", unfollowed := true, recurses := true, named := ["math/bits.divideError", "math/bits.overflowError"], apart := false }
def MindistChecksSaid : Prop := mindistChecksRow.holds Tryz.pinned (OpenSpec.ofChange mindistChecksSpec)

/-- ITS FALSE NEIGHBOUR: 'it returns false'. Refute it at one input. -/
def mindistChecksWrong : ChangeSpec := { name := "mindistChecks", fn := fun _ => fun
  | [d1, d2] => { results := [.lit (.bool false)], args := [d1, d2] }
  | _ => none }
def MindistChecksWrongFalsely : Prop := mindistChecksRow.holds Tryz.pinned (OpenSpec.ofChange mindistChecksWrong)

/-- 'codewrightlaw27.MindistExamined': WHATEVER THE INPUT: true; the input reads as it did. -/
def mindistExaminedSpec : ChangeSpec := { name := "mindistExamined", fn := fun _ => fun
  | [d1, d2] => { results := [.lit (.bool true)], args := [d1, d2] }
  | _ => none }
def mindistExaminedRow : OpenClaim := { program := "ytcfmiocdlcapoaagreat", sum := "1c7e8fa0e2829ec802cc873ed584c6dc613055454c0ecb88e06fed1bd3bb7933", func := "codewright/codewrightlaw27.MindistExamined", spec := "mindistExamined", unfollowed := true, recurses := true, named := ["math/bits.divideError", "math/bits.overflowError"], apart := false }
def MindistExaminedSaid : Prop := mindistExaminedRow.holds Tryz.pinned (OpenSpec.ofChange mindistExaminedSpec)

/-- ITS FALSE NEIGHBOUR: 'it returns false'. Refute it at one input. -/
def mindistExaminedWrong : ChangeSpec := { name := "mindistExamined", fn := fun _ => fun
  | [d1, d2] => { results := [.lit (.bool false)], args := [d1, d2] }
  | _ => none }
def MindistExaminedWrongFalsely : Prop := mindistExaminedRow.holds Tryz.pinned (OpenSpec.ofChange mindistExaminedWrong)

/-- 'codewrightlaw27.MindistSound': WHATEVER THE INPUT: true; the input reads as it did. -/
def mindistSoundSpec : ChangeSpec := { name := "mindistSound", fn := fun _ => fun
  | [d1, d2, d3] => { results := [.lit (.bool true)], args := [d1, d2, d3] }
  | _ => none }
def mindistSoundRow : OpenClaim := { program := "ytcfmiocdlcapoaagreat", sum := "1c7e8fa0e2829ec802cc873ed584c6dc613055454c0ecb88e06fed1bd3bb7933", func := "codewright/codewrightlaw27.MindistSound", spec := "mindistSound", unfollowed := true, recurses := true, named := ["math/bits.divideError", "math/bits.overflowError"], apart := false }
def MindistSoundSaid : Prop := mindistSoundRow.holds Tryz.pinned (OpenSpec.ofChange mindistSoundSpec)

/-- ITS FALSE NEIGHBOUR: 'it returns false'. Refute it at one input. -/
def mindistSoundWrong : ChangeSpec := { name := "mindistSound", fn := fun _ => fun
  | [d1, d2, d3] => { results := [.lit (.bool false)], args := [d1, d2, d3] }
  | _ => none }
def MindistSoundWrongFalsely : Prop := mindistSoundRow.holds Tryz.pinned (OpenSpec.ofChange mindistSoundWrong)

/-- 'codewrightlaw27.MindistSingleton': WHATEVER THE INPUT: true; the input reads as it did. -/
def mindistSingletonSpec : ChangeSpec := { name := "mindistSingleton", fn := fun _ => fun
  | [d] => { results := [.lit (.bool true)], args := [d] }
  | _ => none }
def mindistSingletonRow : OpenClaim := { program := "ytcfmiocdlcapoaagreat", sum := "1c7e8fa0e2829ec802cc873ed584c6dc613055454c0ecb88e06fed1bd3bb7933", func := "codewright/codewrightlaw27.MindistSingleton", spec := "mindistSingleton", unfollowed := true, recurses := true, named := ["math/bits.divideError", "math/bits.overflowError"], apart := false }
def MindistSingletonSaid : Prop := mindistSingletonRow.holds Tryz.pinned (OpenSpec.ofChange mindistSingletonSpec)

/-- ITS FALSE NEIGHBOUR: 'it returns false'. Refute it at one input. -/
def mindistSingletonWrong : ChangeSpec := { name := "mindistSingleton", fn := fun _ => fun
  | [d] => { results := [.lit (.bool false)], args := [d] }
  | _ => none }
def MindistSingletonWrongFalsely : Prop := mindistSingletonRow.holds Tryz.pinned (OpenSpec.ofChange mindistSingletonWrong)

/-- 'codewrightlaw27.MindistEnumerates': WHATEVER THE INPUT: true; the input reads as it did. -/
def mindistEnumeratesSpec : ChangeSpec := { name := "mindistEnumerates", fn := fun _ => fun
  | [d] => { results := [.lit (.bool true)], args := [d] }
  | _ => none }
def mindistEnumeratesRow : OpenClaim := { program := "ytcfmiocdlcapoaagreat", sum := "1c7e8fa0e2829ec802cc873ed584c6dc613055454c0ecb88e06fed1bd3bb7933", func := "codewright/codewrightlaw27.MindistEnumerates", spec := "mindistEnumerates", unfollowed := true, recurses := true, named := ["math/bits.divideError", "math/bits.overflowError"], apart := false }
def MindistEnumeratesSaid : Prop := mindistEnumeratesRow.holds Tryz.pinned (OpenSpec.ofChange mindistEnumeratesSpec)

/-- ITS FALSE NEIGHBOUR: 'it returns false'. Refute it at one input. -/
def mindistEnumeratesWrong : ChangeSpec := { name := "mindistEnumerates", fn := fun _ => fun
  | [d] => { results := [.lit (.bool false)], args := [d] }
  | _ => none }
def MindistEnumeratesWrongFalsely : Prop := mindistEnumeratesRow.holds Tryz.pinned (OpenSpec.ofChange mindistEnumeratesWrong)

/-- 'codewrightlaw27.MindistModified': WHATEVER THE INPUT: true; the input reads as it did. -/
def mindistModifiedSpec : ChangeSpec := { name := "mindistModified", fn := fun _ => fun
  | [d1, d2] => { results := [.lit (.bool true)], args := [d1, d2] }
  | _ => none }
def mindistModifiedRow : OpenClaim := { program := "ytcfmiocdlcapoaagreat", sum := "1c7e8fa0e2829ec802cc873ed584c6dc613055454c0ecb88e06fed1bd3bb7933", func := "codewright/codewrightlaw27.MindistModified", spec := "mindistModified", unfollowed := true, recurses := true, named := ["math/bits.divideError", "math/bits.overflowError"], apart := false }
def MindistModifiedSaid : Prop := mindistModifiedRow.holds Tryz.pinned (OpenSpec.ofChange mindistModifiedSpec)

/-- ITS FALSE NEIGHBOUR: 'it returns false'. Refute it at one input. -/
def mindistModifiedWrong : ChangeSpec := { name := "mindistModified", fn := fun _ => fun
  | [d1, d2] => { results := [.lit (.bool false)], args := [d1, d2] }
  | _ => none }
def MindistModifiedWrongFalsely : Prop := mindistModifiedRow.holds Tryz.pinned (OpenSpec.ofChange mindistModifiedWrong)

/-- 'codewrightlaw29.HierarchyBounds': WHATEVER THE INPUT: true; the input reads as it did. -/
def hierarchyBoundsSpec : ChangeSpec := { name := "hierarchyBounds", fn := fun _ => fun
  | [d] => { results := [.lit (.bool true)], args := [d] }
  | _ => none }
def hierarchyBoundsRow : OpenClaim := { program := "ytcfmiocdlcapoaagreat", sum := "1c7e8fa0e2829ec802cc873ed584c6dc613055454c0ecb88e06fed1bd3bb7933", func := "codewright/codewrightlaw29.HierarchyBounds", spec := "hierarchyBounds", unfollowed := true, recurses := true, named := ["math/bits.divideError", "math/bits.overflowError"], apart := false }
def HierarchyBoundsSaid : Prop := hierarchyBoundsRow.holds Tryz.pinned (OpenSpec.ofChange hierarchyBoundsSpec)

/-- ITS FALSE NEIGHBOUR: 'it returns false'. Refute it at one input. -/
def hierarchyBoundsWrong : ChangeSpec := { name := "hierarchyBounds", fn := fun _ => fun
  | [d] => { results := [.lit (.bool false)], args := [d] }
  | _ => none }
def HierarchyBoundsWrongFalsely : Prop := hierarchyBoundsRow.holds Tryz.pinned (OpenSpec.ofChange hierarchyBoundsWrong)

/- THE SECOND FORM. 'bulk': how many values and letters a reading holds, each counted each time it is reached (what is shared counts as often as it is met; a slice's spare places count too). A statement '..UptoSaid' is the law's where the arguments, and the package variables that the reading takes, are together of bulk at most 1048576: NARROWER than '..Said'. Prove '..Said' where nothing that the law and all that it calls make is longer than what came in: it says more and counts as full. Else prove '..UptoSaid'. A law counts once. -/
mutual
def uptoBulk {H : Type} : DataW H → Nat
  | .lit (.string bytes) => bytes.length + 1
  | .lit _ => 1
  | .nil => 1
  | .ptr d => uptoBulk d + 1
  | .slice elems spare => uptoBulkAll elems + uptoBulkAll spare + 1
  | .agg parts => uptoBulkAll parts + 1
  | .iface _ d => uptoBulk d + 1
  | .map entries => uptoBulkEntries entries + 1
  | .held _ => 1
def uptoBulkAll {H : Type} : List (DataW H) → Nat
  | [] => 0
  | d :: r => uptoBulk d + uptoBulkAll r
def uptoBulkEntries {H : Type} : List (Lit × DataW H) → Nat
  | [] => 0
  | x :: r => uptoBulkEntry x + uptoBulkEntries r
def uptoBulkEntry {H : Type} : Lit × DataW H → Nat
  | (.string bytes, d) => bytes.length + uptoBulk d + 1
  | (_, d) => uptoBulk d + 1
 end
def uptoSmall : (H : Type) → List (DataW H) → Bool := fun _ ds => decide (uptoBulkAll ds ≤ 1048576)
def OpenSpec.upto (s : _root_.Go.ChangeSpec) : _root_.Go.OpenSpec := { _root_.Go.OpenSpec.ofChange s with cond := some uptoSmall }

/-- 'codewrightlaw27.MindistRounds', WHERE WHAT IT READS IS OF BULK AT MOST 1048576: true; the input reads as it did. -/
def mindistRoundsUptoRow : OpenClaim := { program := "ytcfmiocdlcapoaagreat", sum := "1c7e8fa0e2829ec802cc873ed584c6dc613055454c0ecb88e06fed1bd3bb7933", func := "codewright/codewrightlaw27.MindistRounds", spec := "mindistRounds", unfollowed := true, recurses := true, named := ["math/bits.divideError", "math/bits.overflowError"], apart := false, narrowed := true }
def MindistRoundsUptoSaid : Prop := mindistRoundsUptoRow.holds Tryz.pinned (OpenSpec.upto mindistRoundsSpec)

/-- 'codewrightlaw27.MindistCertify', WHERE WHAT IT READS IS OF BULK AT MOST 1048576: true; the input reads as it did. -/
def mindistCertifyUptoRow : OpenClaim := { program := "ytcfmiocdlcapoaagreat", sum := "1c7e8fa0e2829ec802cc873ed584c6dc613055454c0ecb88e06fed1bd3bb7933", func := "codewright/codewrightlaw27.MindistCertify", spec := "mindistCertify", unfollowed := true, recurses := true, named := ["math/bits.divideError", "math/bits.overflowError"], apart := false, narrowed := true }
def MindistCertifyUptoSaid : Prop := mindistCertifyUptoRow.holds Tryz.pinned (OpenSpec.upto mindistCertifySpec)

/-- 'codewrightlaw27.MindistChecks', WHERE WHAT IT READS IS OF BULK AT MOST 1048576: true; the input reads as it did. -/
def mindistChecksUptoRow : OpenClaim := { program := "ytcfmiocdlcapoaagreat", sum := "1c7e8fa0e2829ec802cc873ed584c6dc613055454c0ecb88e06fed1bd3bb7933", func := "codewright/codewrightlaw27.MindistChecks", spec := "mindistChecks", unfollowed := true, recurses := true, named := ["math/bits.divideError", "math/bits.overflowError"], apart := false, narrowed := true }
def MindistChecksUptoSaid : Prop := mindistChecksUptoRow.holds Tryz.pinned (OpenSpec.upto mindistChecksSpec)

/-- 'codewrightlaw27.MindistExamined', WHERE WHAT IT READS IS OF BULK AT MOST 1048576: true; the input reads as it did. -/
def mindistExaminedUptoRow : OpenClaim := { program := "ytcfmiocdlcapoaagreat", sum := "1c7e8fa0e2829ec802cc873ed584c6dc613055454c0ecb88e06fed1bd3bb7933", func := "codewright/codewrightlaw27.MindistExamined", spec := "mindistExamined", unfollowed := true, recurses := true, named := ["math/bits.divideError", "math/bits.overflowError"], apart := false, narrowed := true }
def MindistExaminedUptoSaid : Prop := mindistExaminedUptoRow.holds Tryz.pinned (OpenSpec.upto mindistExaminedSpec)

/-- 'codewrightlaw27.MindistSound', WHERE WHAT IT READS IS OF BULK AT MOST 1048576: true; the input reads as it did. -/
def mindistSoundUptoRow : OpenClaim := { program := "ytcfmiocdlcapoaagreat", sum := "1c7e8fa0e2829ec802cc873ed584c6dc613055454c0ecb88e06fed1bd3bb7933", func := "codewright/codewrightlaw27.MindistSound", spec := "mindistSound", unfollowed := true, recurses := true, named := ["math/bits.divideError", "math/bits.overflowError"], apart := false, narrowed := true }
def MindistSoundUptoSaid : Prop := mindistSoundUptoRow.holds Tryz.pinned (OpenSpec.upto mindistSoundSpec)

/-- 'codewrightlaw27.MindistSingleton', WHERE WHAT IT READS IS OF BULK AT MOST 1048576: true; the input reads as it did. -/
def mindistSingletonUptoRow : OpenClaim := { program := "ytcfmiocdlcapoaagreat", sum := "1c7e8fa0e2829ec802cc873ed584c6dc613055454c0ecb88e06fed1bd3bb7933", func := "codewright/codewrightlaw27.MindistSingleton", spec := "mindistSingleton", unfollowed := true, recurses := true, named := ["math/bits.divideError", "math/bits.overflowError"], apart := false, narrowed := true }
def MindistSingletonUptoSaid : Prop := mindistSingletonUptoRow.holds Tryz.pinned (OpenSpec.upto mindistSingletonSpec)

/-- 'codewrightlaw27.MindistEnumerates', WHERE WHAT IT READS IS OF BULK AT MOST 1048576: true; the input reads as it did. -/
def mindistEnumeratesUptoRow : OpenClaim := { program := "ytcfmiocdlcapoaagreat", sum := "1c7e8fa0e2829ec802cc873ed584c6dc613055454c0ecb88e06fed1bd3bb7933", func := "codewright/codewrightlaw27.MindistEnumerates", spec := "mindistEnumerates", unfollowed := true, recurses := true, named := ["math/bits.divideError", "math/bits.overflowError"], apart := false, narrowed := true }
def MindistEnumeratesUptoSaid : Prop := mindistEnumeratesUptoRow.holds Tryz.pinned (OpenSpec.upto mindistEnumeratesSpec)

/-- 'codewrightlaw27.MindistModified', WHERE WHAT IT READS IS OF BULK AT MOST 1048576: true; the input reads as it did. -/
def mindistModifiedUptoRow : OpenClaim := { program := "ytcfmiocdlcapoaagreat", sum := "1c7e8fa0e2829ec802cc873ed584c6dc613055454c0ecb88e06fed1bd3bb7933", func := "codewright/codewrightlaw27.MindistModified", spec := "mindistModified", unfollowed := true, recurses := true, named := ["math/bits.divideError", "math/bits.overflowError"], apart := false, narrowed := true }
def MindistModifiedUptoSaid : Prop := mindistModifiedUptoRow.holds Tryz.pinned (OpenSpec.upto mindistModifiedSpec)

/-- 'codewrightlaw29.HierarchyBounds', WHERE WHAT IT READS IS OF BULK AT MOST 1048576: true; the input reads as it did. -/
def hierarchyBoundsUptoRow : OpenClaim := { program := "ytcfmiocdlcapoaagreat", sum := "1c7e8fa0e2829ec802cc873ed584c6dc613055454c0ecb88e06fed1bd3bb7933", func := "codewright/codewrightlaw29.HierarchyBounds", spec := "hierarchyBounds", unfollowed := true, recurses := true, named := ["math/bits.divideError", "math/bits.overflowError"], apart := false, narrowed := true }
def HierarchyBoundsUptoSaid : Prop := hierarchyBoundsUptoRow.holds Tryz.pinned (OpenSpec.upto hierarchyBoundsSpec)

end Rows
end Go.Proofs.YtcfmiocdlcapoaaGreat
