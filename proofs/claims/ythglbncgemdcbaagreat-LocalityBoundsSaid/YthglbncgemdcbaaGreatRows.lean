/-
  No cell of these rows narrows 'for every input' (looked for: loops, veiled, ifaces, maps, wideKeys, modest, calm, conditions, laid).
  DERIVED. THE GIVEN ROWS OF THIS SEAT. 10 by the template 'for every input the law returns true; each argument reads behind the call as it read before'; 0 by the template 'total and deterministic' (their statements: YthglbncgemdcbaaGreatTotals.lean).
  GIVEN WITH THE SEED: the statements are not yours to turn. If you find one false, say at which input.
  Laid BY PROGRAM, IN A SANDBOX (cutbox-rows.mjs): the forced cells as the released guide's own fill.sh prints them over the translation 57440fa7db77573a… (all of the seat's roots in one cut). By AI agents, Wed Nov 11 2026. No macro, syntax, notation, axiom, sorry.
-/
import Derived.Test.YthglbncgemdcbaaGreatChecked
import GoSem.Claim
import GoSem.ClaimJoined
import GoSem.ClaimMapViews
import Derived.JoinedTies
import Derived.KernelRfl
namespace Go.Proofs.YthglbncgemdcbaaGreat
/- THE CELL 'sum', in the pinned program and in every row, IS THE sha256 OF THE DUMP (.gsa) THAT YthglbncgemdcbaaGreatProg.lean LOADS. Nothing in Lean hashes anything: it is a label: what it is worth is what the hold of that sum in a sandbox is worth. -/
noncomputable def Tryz.pinned : Pinned := { name := "ythglbncgemdcbaagreat", sum := "57440fa7db77573a42edfa71bae1c2fc58b48349356c0f8ca15364f8e5d0ecd7", checked := Tryz.checked }
namespace Rows
def none {H : Type} : Left H := { results := [], args := [] }

/-- 'codewrightlaw50.LocalityHelpers': WHATEVER THE INPUT: true; the input reads as it did. -/
def localityHelpersSpec : ChangeSpec := { name := "localityHelpers", fn := fun _ => fun
  | [d1, d2, d3] => { results := [.lit (.bool true)], args := [d1, d2, d3] }
  | _ => none }
def localityHelpersRow : OpenClaim := { program := "ythglbncgemdcbaagreat", sum := "57440fa7db77573a42edfa71bae1c2fc58b48349356c0f8ca15364f8e5d0ecd7", func := "codewright/codewrightlaw50.LocalityHelpers", spec := "localityHelpers", unfollowed := true, recurses := true, apart := false }
def LocalityHelpersSaid : Prop := localityHelpersRow.holds Tryz.pinned (OpenSpec.ofChange localityHelpersSpec)

/-- ITS FALSE NEIGHBOUR: 'it returns false'. Refute it at one input. -/
def localityHelpersWrong : ChangeSpec := { name := "localityHelpers", fn := fun _ => fun
  | [d1, d2, d3] => { results := [.lit (.bool false)], args := [d1, d2, d3] }
  | _ => none }
def LocalityHelpersWrongFalsely : Prop := localityHelpersRow.holds Tryz.pinned (OpenSpec.ofChange localityHelpersWrong)

/-- 'codewrightlaw50.LocalityNumbers': WHATEVER THE INPUT: true; the input reads as it did. -/
def localityNumbersSpec : ChangeSpec := { name := "localityNumbers", fn := fun _ => fun
  | [d1, d2] => { results := [.lit (.bool true)], args := [d1, d2] }
  | _ => none }
def localityNumbersRow : OpenClaim := { program := "ythglbncgemdcbaagreat", sum := "57440fa7db77573a42edfa71bae1c2fc58b48349356c0f8ca15364f8e5d0ecd7", func := "codewright/codewrightlaw50.LocalityNumbers", spec := "localityNumbers", unfollowed := true, recurses := true, apart := false }
def LocalityNumbersSaid : Prop := localityNumbersRow.holds Tryz.pinned (OpenSpec.ofChange localityNumbersSpec)

/-- ITS FALSE NEIGHBOUR: 'it returns false'. Refute it at one input. -/
def localityNumbersWrong : ChangeSpec := { name := "localityNumbers", fn := fun _ => fun
  | [d1, d2] => { results := [.lit (.bool false)], args := [d1, d2] }
  | _ => none }
def LocalityNumbersWrongFalsely : Prop := localityNumbersRow.holds Tryz.pinned (OpenSpec.ofChange localityNumbersWrong)

/-- 'codewrightlaw50.LocalityTamoBarg': WHATEVER THE INPUT: true; the input reads as it did. -/
def localityTamoBargSpec : ChangeSpec := { name := "localityTamoBarg", fn := fun _ => fun
  | [d1, d2] => { results := [.lit (.bool true)], args := [d1, d2] }
  | _ => none }
def localityTamoBargRow : OpenClaim := { program := "ythglbncgemdcbaagreat", sum := "57440fa7db77573a42edfa71bae1c2fc58b48349356c0f8ca15364f8e5d0ecd7", func := "codewright/codewrightlaw50.LocalityTamoBarg", spec := "localityTamoBarg", unfollowed := true, recurses := true, apart := false }
def LocalityTamoBargSaid : Prop := localityTamoBargRow.holds Tryz.pinned (OpenSpec.ofChange localityTamoBargSpec)

/-- ITS FALSE NEIGHBOUR: 'it returns false'. Refute it at one input. -/
def localityTamoBargWrong : ChangeSpec := { name := "localityTamoBarg", fn := fun _ => fun
  | [d1, d2] => { results := [.lit (.bool false)], args := [d1, d2] }
  | _ => none }
def LocalityTamoBargWrongFalsely : Prop := localityTamoBargRow.holds Tryz.pinned (OpenSpec.ofChange localityTamoBargWrong)

/-- 'codewrightlaw50.LocalityCertify': WHATEVER THE INPUT: true; the input reads as it did. -/
def localityCertifySpec : ChangeSpec := { name := "localityCertify", fn := fun _ => fun
  | [d] => { results := [.lit (.bool true)], args := [d] }
  | _ => none }
def localityCertifyRow : OpenClaim := { program := "ythglbncgemdcbaagreat", sum := "57440fa7db77573a42edfa71bae1c2fc58b48349356c0f8ca15364f8e5d0ecd7", func := "codewright/codewrightlaw50.LocalityCertify", spec := "localityCertify", unfollowed := true, recurses := true, apart := false }
def LocalityCertifySaid : Prop := localityCertifyRow.holds Tryz.pinned (OpenSpec.ofChange localityCertifySpec)

/-- ITS FALSE NEIGHBOUR: 'it returns false'. Refute it at one input. -/
def localityCertifyWrong : ChangeSpec := { name := "localityCertify", fn := fun _ => fun
  | [d] => { results := [.lit (.bool false)], args := [d] }
  | _ => none }
def LocalityCertifyWrongFalsely : Prop := localityCertifyRow.holds Tryz.pinned (OpenSpec.ofChange localityCertifyWrong)

/-- 'codewrightlaw50.LocalityChecks': WHATEVER THE INPUT: true; the input reads as it did. -/
def localityChecksSpec : ChangeSpec := { name := "localityChecks", fn := fun _ => fun
  | [d1, d2] => { results := [.lit (.bool true)], args := [d1, d2] }
  | _ => none }
def localityChecksRow : OpenClaim := { program := "ythglbncgemdcbaagreat", sum := "57440fa7db77573a42edfa71bae1c2fc58b48349356c0f8ca15364f8e5d0ecd7", func := "codewright/codewrightlaw50.LocalityChecks", spec := "localityChecks", unfollowed := true, recurses := true, apart := false }
def LocalityChecksSaid : Prop := localityChecksRow.holds Tryz.pinned (OpenSpec.ofChange localityChecksSpec)

/-- ITS FALSE NEIGHBOUR: 'it returns false'. Refute it at one input. -/
def localityChecksWrong : ChangeSpec := { name := "localityChecks", fn := fun _ => fun
  | [d1, d2] => { results := [.lit (.bool false)], args := [d1, d2] }
  | _ => none }
def LocalityChecksWrongFalsely : Prop := localityChecksRow.holds Tryz.pinned (OpenSpec.ofChange localityChecksWrong)

/-- 'codewrightlaw50.LocalityRepairs': WHATEVER THE INPUT: true; the input reads as it did. -/
def localityRepairsSpec : ChangeSpec := { name := "localityRepairs", fn := fun _ => fun
  | [d1, d2, d3] => { results := [.lit (.bool true)], args := [d1, d2, d3] }
  | _ => none }
def localityRepairsRow : OpenClaim := { program := "ythglbncgemdcbaagreat", sum := "57440fa7db77573a42edfa71bae1c2fc58b48349356c0f8ca15364f8e5d0ecd7", func := "codewright/codewrightlaw50.LocalityRepairs", spec := "localityRepairs", unfollowed := true, recurses := true, apart := false }
def LocalityRepairsSaid : Prop := localityRepairsRow.holds Tryz.pinned (OpenSpec.ofChange localityRepairsSpec)

/-- ITS FALSE NEIGHBOUR: 'it returns false'. Refute it at one input. -/
def localityRepairsWrong : ChangeSpec := { name := "localityRepairs", fn := fun _ => fun
  | [d1, d2, d3] => { results := [.lit (.bool false)], args := [d1, d2, d3] }
  | _ => none }
def LocalityRepairsWrongFalsely : Prop := localityRepairsRow.holds Tryz.pinned (OpenSpec.ofChange localityRepairsWrong)

/-- 'codewrightlaw50.LocalityLeast': WHATEVER THE INPUT: true; the input reads as it did. -/
def localityLeastSpec : ChangeSpec := { name := "localityLeast", fn := fun _ => fun
  | [d1, d2, d3] => { results := [.lit (.bool true)], args := [d1, d2, d3] }
  | _ => none }
def localityLeastRow : OpenClaim := { program := "ythglbncgemdcbaagreat", sum := "57440fa7db77573a42edfa71bae1c2fc58b48349356c0f8ca15364f8e5d0ecd7", func := "codewright/codewrightlaw50.LocalityLeast", spec := "localityLeast", unfollowed := true, recurses := true, apart := false }
def LocalityLeastSaid : Prop := localityLeastRow.holds Tryz.pinned (OpenSpec.ofChange localityLeastSpec)

/-- ITS FALSE NEIGHBOUR: 'it returns false'. Refute it at one input. -/
def localityLeastWrong : ChangeSpec := { name := "localityLeast", fn := fun _ => fun
  | [d1, d2, d3] => { results := [.lit (.bool false)], args := [d1, d2, d3] }
  | _ => none }
def LocalityLeastWrongFalsely : Prop := localityLeastRow.holds Tryz.pinned (OpenSpec.ofChange localityLeastWrong)

/-- 'codewrightlaw50.LocalitySound': WHATEVER THE INPUT: true; the input reads as it did. -/
def localitySoundSpec : ChangeSpec := { name := "localitySound", fn := fun _ => fun
  | [d1, d2, d3] => { results := [.lit (.bool true)], args := [d1, d2, d3] }
  | _ => none }
def localitySoundRow : OpenClaim := { program := "ythglbncgemdcbaagreat", sum := "57440fa7db77573a42edfa71bae1c2fc58b48349356c0f8ca15364f8e5d0ecd7", func := "codewright/codewrightlaw50.LocalitySound", spec := "localitySound", unfollowed := true, recurses := true, apart := false }
def LocalitySoundSaid : Prop := localitySoundRow.holds Tryz.pinned (OpenSpec.ofChange localitySoundSpec)

/-- ITS FALSE NEIGHBOUR: 'it returns false'. Refute it at one input. -/
def localitySoundWrong : ChangeSpec := { name := "localitySound", fn := fun _ => fun
  | [d1, d2, d3] => { results := [.lit (.bool false)], args := [d1, d2, d3] }
  | _ => none }
def LocalitySoundWrongFalsely : Prop := localitySoundRow.holds Tryz.pinned (OpenSpec.ofChange localitySoundWrong)

/-- 'codewrightlaw50.LocalityOptimal': WHATEVER THE INPUT: true; the input reads as it did. -/
def localityOptimalSpec : ChangeSpec := { name := "localityOptimal", fn := fun _ => fun
  | [d1, d2, d3] => { results := [.lit (.bool true)], args := [d1, d2, d3] }
  | _ => none }
def localityOptimalRow : OpenClaim := { program := "ythglbncgemdcbaagreat", sum := "57440fa7db77573a42edfa71bae1c2fc58b48349356c0f8ca15364f8e5d0ecd7", func := "codewright/codewrightlaw50.LocalityOptimal", spec := "localityOptimal", unfollowed := true, recurses := true, apart := false }
def LocalityOptimalSaid : Prop := localityOptimalRow.holds Tryz.pinned (OpenSpec.ofChange localityOptimalSpec)

/-- ITS FALSE NEIGHBOUR: 'it returns false'. Refute it at one input. -/
def localityOptimalWrong : ChangeSpec := { name := "localityOptimal", fn := fun _ => fun
  | [d1, d2, d3] => { results := [.lit (.bool false)], args := [d1, d2, d3] }
  | _ => none }
def LocalityOptimalWrongFalsely : Prop := localityOptimalRow.holds Tryz.pinned (OpenSpec.ofChange localityOptimalWrong)

/-- 'codewrightlaw50.LocalityBounds': WHATEVER THE INPUT: true; the input reads as it did. -/
def localityBoundsSpec : ChangeSpec := { name := "localityBounds", fn := fun _ => fun
  | [d] => { results := [.lit (.bool true)], args := [d] }
  | _ => none }
def localityBoundsRow : OpenClaim := { program := "ythglbncgemdcbaagreat", sum := "57440fa7db77573a42edfa71bae1c2fc58b48349356c0f8ca15364f8e5d0ecd7", func := "codewright/codewrightlaw50.LocalityBounds", spec := "localityBounds", unfollowed := true, recurses := true, named := ["math/bits.divideError", "math/bits.overflowError"], apart := false }
def LocalityBoundsSaid : Prop := localityBoundsRow.holds Tryz.pinned (OpenSpec.ofChange localityBoundsSpec)

/-- ITS FALSE NEIGHBOUR: 'it returns false'. Refute it at one input. -/
def localityBoundsWrong : ChangeSpec := { name := "localityBounds", fn := fun _ => fun
  | [d] => { results := [.lit (.bool false)], args := [d] }
  | _ => none }
def LocalityBoundsWrongFalsely : Prop := localityBoundsRow.holds Tryz.pinned (OpenSpec.ofChange localityBoundsWrong)

/- THE SECOND FORM. 'bulk': how many values and letters a reading holds, each counted each time it is reached (what is shared counts as often as it is met; a slice's spare places count too). A statement '..UptoSaid' is the law's where the arguments, and the package variables that the reading takes, are together of bulk at most 1048576: NARROWER than '..Said'. Prove '..Said' where nothing that the law and all that it calls make is longer than what came in: it says more and counts as full. Else prove '..UptoSaid'. A law counts once. -/
mutual
def uptoBulk {H : Type} : DataW H → Nat
  | .lit (.string bytes) => bytes.length + 1
  | .lit _ => 1
  | .nil => 1
  | .ptr d => uptoBulk d + 1
  | .slice elems spare => uptoBulkAll elems + uptoBulkAll spare + 1
  | .agg parts => uptoBulkAll parts + 1
  | .iface _ d => uptoBulk d + 1
  | .map entries => uptoBulkEntries entries + 1
  | .held _ => 1
def uptoBulkAll {H : Type} : List (DataW H) → Nat
  | [] => 0
  | d :: r => uptoBulk d + uptoBulkAll r
def uptoBulkEntries {H : Type} : List (Lit × DataW H) → Nat
  | [] => 0
  | x :: r => uptoBulkEntry x + uptoBulkEntries r
def uptoBulkEntry {H : Type} : Lit × DataW H → Nat
  | (.string bytes, d) => bytes.length + uptoBulk d + 1
  | (_, d) => uptoBulk d + 1
 end
def uptoSmall : (H : Type) → List (DataW H) → Bool := fun _ ds => decide (uptoBulkAll ds ≤ 1048576)
def OpenSpec.upto (s : _root_.Go.ChangeSpec) : _root_.Go.OpenSpec := { _root_.Go.OpenSpec.ofChange s with cond := some uptoSmall }

/-- 'codewrightlaw50.LocalityHelpers', WHERE WHAT IT READS IS OF BULK AT MOST 1048576: true; the input reads as it did. -/
def localityHelpersUptoRow : OpenClaim := { program := "ythglbncgemdcbaagreat", sum := "57440fa7db77573a42edfa71bae1c2fc58b48349356c0f8ca15364f8e5d0ecd7", func := "codewright/codewrightlaw50.LocalityHelpers", spec := "localityHelpers", unfollowed := true, recurses := true, apart := false, narrowed := true }
def LocalityHelpersUptoSaid : Prop := localityHelpersUptoRow.holds Tryz.pinned (OpenSpec.upto localityHelpersSpec)

/-- 'codewrightlaw50.LocalityNumbers', WHERE WHAT IT READS IS OF BULK AT MOST 1048576: true; the input reads as it did. -/
def localityNumbersUptoRow : OpenClaim := { program := "ythglbncgemdcbaagreat", sum := "57440fa7db77573a42edfa71bae1c2fc58b48349356c0f8ca15364f8e5d0ecd7", func := "codewright/codewrightlaw50.LocalityNumbers", spec := "localityNumbers", unfollowed := true, recurses := true, apart := false, narrowed := true }
def LocalityNumbersUptoSaid : Prop := localityNumbersUptoRow.holds Tryz.pinned (OpenSpec.upto localityNumbersSpec)

/-- 'codewrightlaw50.LocalityTamoBarg', WHERE WHAT IT READS IS OF BULK AT MOST 1048576: true; the input reads as it did. -/
def localityTamoBargUptoRow : OpenClaim := { program := "ythglbncgemdcbaagreat", sum := "57440fa7db77573a42edfa71bae1c2fc58b48349356c0f8ca15364f8e5d0ecd7", func := "codewright/codewrightlaw50.LocalityTamoBarg", spec := "localityTamoBarg", unfollowed := true, recurses := true, apart := false, narrowed := true }
def LocalityTamoBargUptoSaid : Prop := localityTamoBargUptoRow.holds Tryz.pinned (OpenSpec.upto localityTamoBargSpec)

/-- 'codewrightlaw50.LocalityCertify', WHERE WHAT IT READS IS OF BULK AT MOST 1048576: true; the input reads as it did. -/
def localityCertifyUptoRow : OpenClaim := { program := "ythglbncgemdcbaagreat", sum := "57440fa7db77573a42edfa71bae1c2fc58b48349356c0f8ca15364f8e5d0ecd7", func := "codewright/codewrightlaw50.LocalityCertify", spec := "localityCertify", unfollowed := true, recurses := true, apart := false, narrowed := true }
def LocalityCertifyUptoSaid : Prop := localityCertifyUptoRow.holds Tryz.pinned (OpenSpec.upto localityCertifySpec)

/-- 'codewrightlaw50.LocalityChecks', WHERE WHAT IT READS IS OF BULK AT MOST 1048576: true; the input reads as it did. -/
def localityChecksUptoRow : OpenClaim := { program := "ythglbncgemdcbaagreat", sum := "57440fa7db77573a42edfa71bae1c2fc58b48349356c0f8ca15364f8e5d0ecd7", func := "codewright/codewrightlaw50.LocalityChecks", spec := "localityChecks", unfollowed := true, recurses := true, apart := false, narrowed := true }
def LocalityChecksUptoSaid : Prop := localityChecksUptoRow.holds Tryz.pinned (OpenSpec.upto localityChecksSpec)

/-- 'codewrightlaw50.LocalityRepairs', WHERE WHAT IT READS IS OF BULK AT MOST 1048576: true; the input reads as it did. -/
def localityRepairsUptoRow : OpenClaim := { program := "ythglbncgemdcbaagreat", sum := "57440fa7db77573a42edfa71bae1c2fc58b48349356c0f8ca15364f8e5d0ecd7", func := "codewright/codewrightlaw50.LocalityRepairs", spec := "localityRepairs", unfollowed := true, recurses := true, apart := false, narrowed := true }
def LocalityRepairsUptoSaid : Prop := localityRepairsUptoRow.holds Tryz.pinned (OpenSpec.upto localityRepairsSpec)

/-- 'codewrightlaw50.LocalityLeast', WHERE WHAT IT READS IS OF BULK AT MOST 1048576: true; the input reads as it did. -/
def localityLeastUptoRow : OpenClaim := { program := "ythglbncgemdcbaagreat", sum := "57440fa7db77573a42edfa71bae1c2fc58b48349356c0f8ca15364f8e5d0ecd7", func := "codewright/codewrightlaw50.LocalityLeast", spec := "localityLeast", unfollowed := true, recurses := true, apart := false, narrowed := true }
def LocalityLeastUptoSaid : Prop := localityLeastUptoRow.holds Tryz.pinned (OpenSpec.upto localityLeastSpec)

/-- 'codewrightlaw50.LocalitySound', WHERE WHAT IT READS IS OF BULK AT MOST 1048576: true; the input reads as it did. -/
def localitySoundUptoRow : OpenClaim := { program := "ythglbncgemdcbaagreat", sum := "57440fa7db77573a42edfa71bae1c2fc58b48349356c0f8ca15364f8e5d0ecd7", func := "codewright/codewrightlaw50.LocalitySound", spec := "localitySound", unfollowed := true, recurses := true, apart := false, narrowed := true }
def LocalitySoundUptoSaid : Prop := localitySoundUptoRow.holds Tryz.pinned (OpenSpec.upto localitySoundSpec)

/-- 'codewrightlaw50.LocalityOptimal', WHERE WHAT IT READS IS OF BULK AT MOST 1048576: true; the input reads as it did. -/
def localityOptimalUptoRow : OpenClaim := { program := "ythglbncgemdcbaagreat", sum := "57440fa7db77573a42edfa71bae1c2fc58b48349356c0f8ca15364f8e5d0ecd7", func := "codewright/codewrightlaw50.LocalityOptimal", spec := "localityOptimal", unfollowed := true, recurses := true, apart := false, narrowed := true }
def LocalityOptimalUptoSaid : Prop := localityOptimalUptoRow.holds Tryz.pinned (OpenSpec.upto localityOptimalSpec)

/-- 'codewrightlaw50.LocalityBounds', WHERE WHAT IT READS IS OF BULK AT MOST 1048576: true; the input reads as it did. -/
def localityBoundsUptoRow : OpenClaim := { program := "ythglbncgemdcbaagreat", sum := "57440fa7db77573a42edfa71bae1c2fc58b48349356c0f8ca15364f8e5d0ecd7", func := "codewright/codewrightlaw50.LocalityBounds", spec := "localityBounds", unfollowed := true, recurses := true, named := ["math/bits.divideError", "math/bits.overflowError"], apart := false, narrowed := true }
def LocalityBoundsUptoSaid : Prop := localityBoundsUptoRow.holds Tryz.pinned (OpenSpec.upto localityBoundsSpec)

end Rows
end Go.Proofs.YthglbncgemdcbaaGreat
