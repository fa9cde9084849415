/-
  No cell of these rows narrows 'for every input' (looked for: loops, veiled, ifaces, maps, wideKeys, modest, calm, conditions, laid).
  DERIVED. THE GIVEN ROWS OF THIS SEAT. 11 by the template 'for every input the law returns true; each argument reads behind the call as it read before'; 0 by the template 'total and deterministic' (their statements: YtakmnncmeefceaaGreatTotals.lean).
  GIVEN WITH THE SEED: the statements are not yours to turn. If you find one false, say at which input.
  Laid BY PROGRAM, IN A SANDBOX (cutbox-rows.mjs): the forced cells as the released guide's own fill.sh prints them over the translation f621158336985c7c… (all of the seat's roots in one cut). By AI agents, Wed Nov 11 2026. No macro, syntax, notation, axiom, sorry.
-/
import Derived.Test.YtakmnncmeefceaaGreatChecked
import GoSem.Claim
import GoSem.ClaimJoined
import GoSem.ClaimMapViews
import Derived.JoinedTies
import Derived.KernelRfl
namespace Go.Proofs.YtakmnncmeefceaaGreat
/- THE CELL 'sum', in the pinned program and in every row, IS THE sha256 OF THE DUMP (.gsa) THAT YtakmnncmeefceaaGreatProg.lean LOADS. Nothing in Lean hashes anything: it is a label: what it is worth is what the hold of that sum in a sandbox is worth. -/
noncomputable def Tryz.pinned : Pinned := { name := "ytakmnncmeefceaagreat", sum := "f621158336985c7c119107f1b5ab037a1e3551bc4876e2a57af7f363140f02ff", checked := Tryz.checked }
namespace Rows
def none {H : Type} : Left H := { results := [], args := [] }

/-- 'codewrightlaw48.OrderingWidths': WHATEVER THE INPUT: true; the input reads as it did. -/
def orderingWidthsSpec : ChangeSpec := { name := "orderingWidths", fn := fun _ => fun
  | [d1, d2] => { results := [.lit (.bool true)], args := [d1, d2] }
  | _ => none }
def orderingWidthsRow : OpenClaim := { program := "ytakmnncmeefceaagreat", sum := "f621158336985c7c119107f1b5ab037a1e3551bc4876e2a57af7f363140f02ff", func := "codewright/codewrightlaw48.OrderingWidths", spec := "orderingWidths", unfollowed := true, recurses := true, apart := false }
def OrderingWidthsSaid : Prop := orderingWidthsRow.holds Tryz.pinned (OpenSpec.ofChange orderingWidthsSpec)

/-- ITS FALSE NEIGHBOUR: 'it returns false'. Refute it at one input. -/
def orderingWidthsWrong : ChangeSpec := { name := "orderingWidths", fn := fun _ => fun
  | [d1, d2] => { results := [.lit (.bool false)], args := [d1, d2] }
  | _ => none }
def OrderingWidthsWrongFalsely : Prop := orderingWidthsRow.holds Tryz.pinned (OpenSpec.ofChange orderingWidthsWrong)

/-- 'codewrightlaw48.OrderingReorders': WHATEVER THE INPUT: true; the input reads as it did. -/
def orderingReordersSpec : ChangeSpec := { name := "orderingReorders", fn := fun _ => fun
  | [d1, d2, d3] => { results := [.lit (.bool true)], args := [d1, d2, d3] }
  | _ => none }
def orderingReordersRow : OpenClaim := { program := "ytakmnncmeefceaagreat", sum := "f621158336985c7c119107f1b5ab037a1e3551bc4876e2a57af7f363140f02ff", func := "codewright/codewrightlaw48.OrderingReorders", spec := "orderingReorders", unfollowed := true, recurses := true, apart := false }
def OrderingReordersSaid : Prop := orderingReordersRow.holds Tryz.pinned (OpenSpec.ofChange orderingReordersSpec)

/-- ITS FALSE NEIGHBOUR: 'it returns false'. Refute it at one input. -/
def orderingReordersWrong : ChangeSpec := { name := "orderingReorders", fn := fun _ => fun
  | [d1, d2, d3] => { results := [.lit (.bool false)], args := [d1, d2, d3] }
  | _ => none }
def OrderingReordersWrongFalsely : Prop := orderingReordersRow.holds Tryz.pinned (OpenSpec.ofChange orderingReordersWrong)

/-- 'codewrightlaw25.InfosetRanks': WHATEVER THE INPUT: true; the input reads as it did. -/
def infosetRanksSpec : ChangeSpec := { name := "infosetRanks", fn := fun _ => fun
  | [d1, d2] => { results := [.lit (.bool true)], args := [d1, d2] }
  | _ => none }
def infosetRanksRow : OpenClaim := { program := "ytakmnncmeefceaagreat", sum := "f621158336985c7c119107f1b5ab037a1e3551bc4876e2a57af7f363140f02ff", func := "codewright/codewrightlaw25.InfosetRanks", spec := "infosetRanks", unfollowed := true, recurses := true, apart := false }
def InfosetRanksSaid : Prop := infosetRanksRow.holds Tryz.pinned (OpenSpec.ofChange infosetRanksSpec)

/-- ITS FALSE NEIGHBOUR: 'it returns false'. Refute it at one input. -/
def infosetRanksWrong : ChangeSpec := { name := "infosetRanks", fn := fun _ => fun
  | [d1, d2] => { results := [.lit (.bool false)], args := [d1, d2] }
  | _ => none }
def InfosetRanksWrongFalsely : Prop := infosetRanksRow.holds Tryz.pinned (OpenSpec.ofChange infosetRanksWrong)

/-- 'codewrightlaw25.InfosetExchange': WHATEVER THE INPUT: true; the input reads as it did. -/
def infosetExchangeSpec : ChangeSpec := { name := "infosetExchange", fn := fun _ => fun
  | [d1, d2, d3] => { results := [.lit (.bool true)], args := [d1, d2, d3] }
  | _ => none }
def infosetExchangeRow : OpenClaim := { program := "ytakmnncmeefceaagreat", sum := "f621158336985c7c119107f1b5ab037a1e3551bc4876e2a57af7f363140f02ff", func := "codewright/codewrightlaw25.InfosetExchange", spec := "infosetExchange", unfollowed := true, recurses := true, apart := false }
def InfosetExchangeSaid : Prop := infosetExchangeRow.holds Tryz.pinned (OpenSpec.ofChange infosetExchangeSpec)

/-- ITS FALSE NEIGHBOUR: 'it returns false'. Refute it at one input. -/
def infosetExchangeWrong : ChangeSpec := { name := "infosetExchange", fn := fun _ => fun
  | [d1, d2, d3] => { results := [.lit (.bool false)], args := [d1, d2, d3] }
  | _ => none }
def InfosetExchangeWrongFalsely : Prop := infosetExchangeRow.holds Tryz.pinned (OpenSpec.ofChange infosetExchangeWrong)

/-- 'codewrightlaw25.InfosetMatroid': WHATEVER THE INPUT: true; the input reads as it did. -/
def infosetMatroidSpec : ChangeSpec := { name := "infosetMatroid", fn := fun _ => fun
  | [d1, d2, d3] => { results := [.lit (.bool true)], args := [d1, d2, d3] }
  | _ => none }
def infosetMatroidRow : OpenClaim := { program := "ytakmnncmeefceaagreat", sum := "f621158336985c7c119107f1b5ab037a1e3551bc4876e2a57af7f363140f02ff", func := "codewright/codewrightlaw25.InfosetMatroid", spec := "infosetMatroid", unfollowed := true, recurses := true, apart := false }
def InfosetMatroidSaid : Prop := infosetMatroidRow.holds Tryz.pinned (OpenSpec.ofChange infosetMatroidSpec)

/-- ITS FALSE NEIGHBOUR: 'it returns false'. Refute it at one input. -/
def infosetMatroidWrong : ChangeSpec := { name := "infosetMatroid", fn := fun _ => fun
  | [d1, d2, d3] => { results := [.lit (.bool false)], args := [d1, d2, d3] }
  | _ => none }
def InfosetMatroidWrongFalsely : Prop := infosetMatroidRow.holds Tryz.pinned (OpenSpec.ofChange infosetMatroidWrong)

/-- 'codewrightlaw25.InfosetFamily': WHATEVER THE INPUT: true; the input reads as it did. -/
def infosetFamilySpec : ChangeSpec := { name := "infosetFamily", fn := fun _ => fun
  | [d] => { results := [.lit (.bool true)], args := [d] }
  | _ => none }
def infosetFamilyRow : OpenClaim := { program := "ytakmnncmeefceaagreat", sum := "f621158336985c7c119107f1b5ab037a1e3551bc4876e2a57af7f363140f02ff", func := "codewright/codewrightlaw25.InfosetFamily", spec := "infosetFamily", unfollowed := true, recurses := true, apart := false }
def InfosetFamilySaid : Prop := infosetFamilyRow.holds Tryz.pinned (OpenSpec.ofChange infosetFamilySpec)

/-- ITS FALSE NEIGHBOUR: 'it returns false'. Refute it at one input. -/
def infosetFamilyWrong : ChangeSpec := { name := "infosetFamily", fn := fun _ => fun
  | [d] => { results := [.lit (.bool false)], args := [d] }
  | _ => none }
def InfosetFamilyWrongFalsely : Prop := infosetFamilyRow.holds Tryz.pinned (OpenSpec.ofChange infosetFamilyWrong)

/-- 'codewrightlaw25.InfosetDisjoint': WHATEVER THE INPUT: true; the input reads as it did. -/
def infosetDisjointSpec : ChangeSpec := { name := "infosetDisjoint", fn := fun _ => fun
  | [d] => { results := [.lit (.bool true)], args := [d] }
  | _ => none }
def infosetDisjointRow : OpenClaim := { program := "ytakmnncmeefceaagreat", sum := "f621158336985c7c119107f1b5ab037a1e3551bc4876e2a57af7f363140f02ff", func := "codewright/codewrightlaw25.InfosetDisjoint", spec := "infosetDisjoint", unfollowed := true, recurses := true, apart := false }
def InfosetDisjointSaid : Prop := infosetDisjointRow.holds Tryz.pinned (OpenSpec.ofChange infosetDisjointSpec)

/-- ITS FALSE NEIGHBOUR: 'it returns false'. Refute it at one input. -/
def infosetDisjointWrong : ChangeSpec := { name := "infosetDisjoint", fn := fun _ => fun
  | [d] => { results := [.lit (.bool false)], args := [d] }
  | _ => none }
def InfosetDisjointWrongFalsely : Prop := infosetDisjointRow.holds Tryz.pinned (OpenSpec.ofChange infosetDisjointWrong)

/-- 'codewrightlaw25.InfosetSystematic': WHATEVER THE INPUT: true; the input reads as it did. -/
def infosetSystematicSpec : ChangeSpec := { name := "infosetSystematic", fn := fun _ => fun
  | [d1, d2] => { results := [.lit (.bool true)], args := [d1, d2] }
  | _ => none }
def infosetSystematicRow : OpenClaim := { program := "ytakmnncmeefceaagreat", sum := "f621158336985c7c119107f1b5ab037a1e3551bc4876e2a57af7f363140f02ff", func := "codewright/codewrightlaw25.InfosetSystematic", spec := "infosetSystematic", unfollowed := true, recurses := true, apart := false }
def InfosetSystematicSaid : Prop := infosetSystematicRow.holds Tryz.pinned (OpenSpec.ofChange infosetSystematicSpec)

/-- ITS FALSE NEIGHBOUR: 'it returns false'. Refute it at one input. -/
def infosetSystematicWrong : ChangeSpec := { name := "infosetSystematic", fn := fun _ => fun
  | [d1, d2] => { results := [.lit (.bool false)], args := [d1, d2] }
  | _ => none }
def InfosetSystematicWrongFalsely : Prop := infosetSystematicRow.holds Tryz.pinned (OpenSpec.ofChange infosetSystematicWrong)

/-- 'codewrightlaw25.InfosetDual': WHATEVER THE INPUT: true; the input reads as it did. -/
def infosetDualSpec : ChangeSpec := { name := "infosetDual", fn := fun _ => fun
  | [d1, d2] => { results := [.lit (.bool true)], args := [d1, d2] }
  | _ => none }
def infosetDualRow : OpenClaim := { program := "ytakmnncmeefceaagreat", sum := "f621158336985c7c119107f1b5ab037a1e3551bc4876e2a57af7f363140f02ff", func := "codewright/codewrightlaw25.InfosetDual", spec := "infosetDual", unfollowed := true, recurses := true, apart := false }
def InfosetDualSaid : Prop := infosetDualRow.holds Tryz.pinned (OpenSpec.ofChange infosetDualSpec)

/-- ITS FALSE NEIGHBOUR: 'it returns false'. Refute it at one input. -/
def infosetDualWrong : ChangeSpec := { name := "infosetDual", fn := fun _ => fun
  | [d1, d2] => { results := [.lit (.bool false)], args := [d1, d2] }
  | _ => none }
def InfosetDualWrongFalsely : Prop := infosetDualRow.holds Tryz.pinned (OpenSpec.ofChange infosetDualWrong)

/-- 'codewrightlaw25.InfosetBound': WHATEVER THE INPUT: true; the input reads as it did. -/
def infosetBoundSpec : ChangeSpec := { name := "infosetBound", fn := fun _ => fun
  | [d1, d2, d3] => { results := [.lit (.bool true)], args := [d1, d2, d3] }
  | _ => none }
def infosetBoundRow : OpenClaim := { program := "ytakmnncmeefceaagreat", sum := "f621158336985c7c119107f1b5ab037a1e3551bc4876e2a57af7f363140f02ff", func := "codewright/codewrightlaw25.InfosetBound", spec := "infosetBound", unfollowed := true, recurses := true, apart := false }
def InfosetBoundSaid : Prop := infosetBoundRow.holds Tryz.pinned (OpenSpec.ofChange infosetBoundSpec)

/-- ITS FALSE NEIGHBOUR: 'it returns false'. Refute it at one input. -/
def infosetBoundWrong : ChangeSpec := { name := "infosetBound", fn := fun _ => fun
  | [d1, d2, d3] => { results := [.lit (.bool false)], args := [d1, d2, d3] }
  | _ => none }
def InfosetBoundWrongFalsely : Prop := infosetBoundRow.holds Tryz.pinned (OpenSpec.ofChange infosetBoundWrong)

/-- 'codewrightlaw25.InfosetWords': WHATEVER THE INPUT: true; the input reads as it did. -/
def infosetWordsSpec : ChangeSpec := { name := "infosetWords", fn := fun _ => fun
  | [d1, d2, d3] => { results := [.lit (.bool true)], args := [d1, d2, d3] }
  | _ => none }
def infosetWordsRow : OpenClaim := { program := "ytakmnncmeefceaagreat", sum := "f621158336985c7c119107f1b5ab037a1e3551bc4876e2a57af7f363140f02ff", func := "codewright/codewrightlaw25.InfosetWords", spec := "infosetWords", unfollowed := true, recurses := true, apart := false }
def InfosetWordsSaid : Prop := infosetWordsRow.holds Tryz.pinned (OpenSpec.ofChange infosetWordsSpec)

/-- ITS FALSE NEIGHBOUR: 'it returns false'. Refute it at one input. -/
def infosetWordsWrong : ChangeSpec := { name := "infosetWords", fn := fun _ => fun
  | [d1, d2, d3] => { results := [.lit (.bool false)], args := [d1, d2, d3] }
  | _ => none }
def InfosetWordsWrongFalsely : Prop := infosetWordsRow.holds Tryz.pinned (OpenSpec.ofChange infosetWordsWrong)

/- THE SECOND FORM. 'bulk': how many values and letters a reading holds, each counted each time it is reached (what is shared counts as often as it is met; a slice's spare places count too). A statement '..UptoSaid' is the law's where the arguments, and the package variables that the reading takes, are together of bulk at most 1048576: NARROWER than '..Said'. Prove '..Said' where nothing that the law and all that it calls make is longer than what came in: it says more and counts as full. Else prove '..UptoSaid'. A law counts once. -/
mutual
def uptoBulk {H : Type} : DataW H → Nat
  | .lit (.string bytes) => bytes.length + 1
  | .lit _ => 1
  | .nil => 1
  | .ptr d => uptoBulk d + 1
  | .slice elems spare => uptoBulkAll elems + uptoBulkAll spare + 1
  | .agg parts => uptoBulkAll parts + 1
  | .iface _ d => uptoBulk d + 1
  | .map entries => uptoBulkEntries entries + 1
  | .held _ => 1
def uptoBulkAll {H : Type} : List (DataW H) → Nat
  | [] => 0
  | d :: r => uptoBulk d + uptoBulkAll r
def uptoBulkEntries {H : Type} : List (Lit × DataW H) → Nat
  | [] => 0
  | x :: r => uptoBulkEntry x + uptoBulkEntries r
def uptoBulkEntry {H : Type} : Lit × DataW H → Nat
  | (.string bytes, d) => bytes.length + uptoBulk d + 1
  | (_, d) => uptoBulk d + 1
 end
def uptoSmall : (H : Type) → List (DataW H) → Bool := fun _ ds => decide (uptoBulkAll ds ≤ 1048576)
def OpenSpec.upto (s : _root_.Go.ChangeSpec) : _root_.Go.OpenSpec := { _root_.Go.OpenSpec.ofChange s with cond := some uptoSmall }

/-- 'codewrightlaw48.OrderingWidths', WHERE WHAT IT READS IS OF BULK AT MOST 1048576: true; the input reads as it did. -/
def orderingWidthsUptoRow : OpenClaim := { program := "ytakmnncmeefceaagreat", sum := "f621158336985c7c119107f1b5ab037a1e3551bc4876e2a57af7f363140f02ff", func := "codewright/codewrightlaw48.OrderingWidths", spec := "orderingWidths", unfollowed := true, recurses := true, apart := false, narrowed := true }
def OrderingWidthsUptoSaid : Prop := orderingWidthsUptoRow.holds Tryz.pinned (OpenSpec.upto orderingWidthsSpec)

/-- 'codewrightlaw48.OrderingReorders', WHERE WHAT IT READS IS OF BULK AT MOST 1048576: true; the input reads as it did. -/
def orderingReordersUptoRow : OpenClaim := { program := "ytakmnncmeefceaagreat", sum := "f621158336985c7c119107f1b5ab037a1e3551bc4876e2a57af7f363140f02ff", func := "codewright/codewrightlaw48.OrderingReorders", spec := "orderingReorders", unfollowed := true, recurses := true, apart := false, narrowed := true }
def OrderingReordersUptoSaid : Prop := orderingReordersUptoRow.holds Tryz.pinned (OpenSpec.upto orderingReordersSpec)

/-- 'codewrightlaw25.InfosetRanks', WHERE WHAT IT READS IS OF BULK AT MOST 1048576: true; the input reads as it did. -/
def infosetRanksUptoRow : OpenClaim := { program := "ytakmnncmeefceaagreat", sum := "f621158336985c7c119107f1b5ab037a1e3551bc4876e2a57af7f363140f02ff", func := "codewright/codewrightlaw25.InfosetRanks", spec := "infosetRanks", unfollowed := true, recurses := true, apart := false, narrowed := true }
def InfosetRanksUptoSaid : Prop := infosetRanksUptoRow.holds Tryz.pinned (OpenSpec.upto infosetRanksSpec)

/-- 'codewrightlaw25.InfosetExchange', WHERE WHAT IT READS IS OF BULK AT MOST 1048576: true; the input reads as it did. -/
def infosetExchangeUptoRow : OpenClaim := { program := "ytakmnncmeefceaagreat", sum := "f621158336985c7c119107f1b5ab037a1e3551bc4876e2a57af7f363140f02ff", func := "codewright/codewrightlaw25.InfosetExchange", spec := "infosetExchange", unfollowed := true, recurses := true, apart := false, narrowed := true }
def InfosetExchangeUptoSaid : Prop := infosetExchangeUptoRow.holds Tryz.pinned (OpenSpec.upto infosetExchangeSpec)

/-- 'codewrightlaw25.InfosetMatroid', WHERE WHAT IT READS IS OF BULK AT MOST 1048576: true; the input reads as it did. -/
def infosetMatroidUptoRow : OpenClaim := { program := "ytakmnncmeefceaagreat", sum := "f621158336985c7c119107f1b5ab037a1e3551bc4876e2a57af7f363140f02ff", func := "codewright/codewrightlaw25.InfosetMatroid", spec := "infosetMatroid", unfollowed := true, recurses := true, apart := false, narrowed := true }
def InfosetMatroidUptoSaid : Prop := infosetMatroidUptoRow.holds Tryz.pinned (OpenSpec.upto infosetMatroidSpec)

/-- 'codewrightlaw25.InfosetFamily', WHERE WHAT IT READS IS OF BULK AT MOST 1048576: true; the input reads as it did. -/
def infosetFamilyUptoRow : OpenClaim := { program := "ytakmnncmeefceaagreat", sum := "f621158336985c7c119107f1b5ab037a1e3551bc4876e2a57af7f363140f02ff", func := "codewright/codewrightlaw25.InfosetFamily", spec := "infosetFamily", unfollowed := true, recurses := true, apart := false, narrowed := true }
def InfosetFamilyUptoSaid : Prop := infosetFamilyUptoRow.holds Tryz.pinned (OpenSpec.upto infosetFamilySpec)

/-- 'codewrightlaw25.InfosetDisjoint', WHERE WHAT IT READS IS OF BULK AT MOST 1048576: true; the input reads as it did. -/
def infosetDisjointUptoRow : OpenClaim := { program := "ytakmnncmeefceaagreat", sum := "f621158336985c7c119107f1b5ab037a1e3551bc4876e2a57af7f363140f02ff", func := "codewright/codewrightlaw25.InfosetDisjoint", spec := "infosetDisjoint", unfollowed := true, recurses := true, apart := false, narrowed := true }
def InfosetDisjointUptoSaid : Prop := infosetDisjointUptoRow.holds Tryz.pinned (OpenSpec.upto infosetDisjointSpec)

/-- 'codewrightlaw25.InfosetSystematic', WHERE WHAT IT READS IS OF BULK AT MOST 1048576: true; the input reads as it did. -/
def infosetSystematicUptoRow : OpenClaim := { program := "ytakmnncmeefceaagreat", sum := "f621158336985c7c119107f1b5ab037a1e3551bc4876e2a57af7f363140f02ff", func := "codewright/codewrightlaw25.InfosetSystematic", spec := "infosetSystematic", unfollowed := true, recurses := true, apart := false, narrowed := true }
def InfosetSystematicUptoSaid : Prop := infosetSystematicUptoRow.holds Tryz.pinned (OpenSpec.upto infosetSystematicSpec)

/-- 'codewrightlaw25.InfosetDual', WHERE WHAT IT READS IS OF BULK AT MOST 1048576: true; the input reads as it did. -/
def infosetDualUptoRow : OpenClaim := { program := "ytakmnncmeefceaagreat", sum := "f621158336985c7c119107f1b5ab037a1e3551bc4876e2a57af7f363140f02ff", func := "codewright/codewrightlaw25.InfosetDual", spec := "infosetDual", unfollowed := true, recurses := true, apart := false, narrowed := true }
def InfosetDualUptoSaid : Prop := infosetDualUptoRow.holds Tryz.pinned (OpenSpec.upto infosetDualSpec)

/-- 'codewrightlaw25.InfosetBound', WHERE WHAT IT READS IS OF BULK AT MOST 1048576: true; the input reads as it did. -/
def infosetBoundUptoRow : OpenClaim := { program := "ytakmnncmeefceaagreat", sum := "f621158336985c7c119107f1b5ab037a1e3551bc4876e2a57af7f363140f02ff", func := "codewright/codewrightlaw25.InfosetBound", spec := "infosetBound", unfollowed := true, recurses := true, apart := false, narrowed := true }
def InfosetBoundUptoSaid : Prop := infosetBoundUptoRow.holds Tryz.pinned (OpenSpec.upto infosetBoundSpec)

/-- 'codewrightlaw25.InfosetWords', WHERE WHAT IT READS IS OF BULK AT MOST 1048576: true; the input reads as it did. -/
def infosetWordsUptoRow : OpenClaim := { program := "ytakmnncmeefceaagreat", sum := "f621158336985c7c119107f1b5ab037a1e3551bc4876e2a57af7f363140f02ff", func := "codewright/codewrightlaw25.InfosetWords", spec := "infosetWords", unfollowed := true, recurses := true, apart := false, narrowed := true }
def InfosetWordsUptoSaid : Prop := infosetWordsUptoRow.holds Tryz.pinned (OpenSpec.upto infosetWordsSpec)

end Rows
end Go.Proofs.YtakmnncmeefceaaGreat
