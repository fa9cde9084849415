/-  -/
import Derived.Test.YtcflcogbpnmjeaaGreatK21
import Derived.Test.YtcflcogbpnmjeaaGreatK25
import Derived.Test.YtcflcogbpnmjeaaGreatK17
import Derived.Test.YtcflcogbpnmjeaaGreatK6
namespace Go.Proofs.YtcflcogbpnmjeaaGreat
set_option linter.unusedVariables false
set_option linter.unusedSimpArgs false
set_option linter.unusedSectionVars false

section
open Go.RowKit
theorem Mat.tail {w : World} {b o nx : Nat} {t : List Int} {ts : List (List Int)} (h : Mat w (some ⟨b,o,none⟩) nx (t :: ts)) : Mat w (some ⟨b,o+1,none⟩) (nx - 1) ts:=by
 have hl:=h.len
 simp only [List.length_cons] at hl
 refine ⟨by omega,fun _=>rfl,by have:=h.max;omega,fun i hi=>?_⟩
 obtain ⟨b',m',c',h1,h2⟩:=h.cell (i+1) (by omega)
 refine ⟨b',m',c',?_,?_⟩
 ·simp only [ablk_some,aoff_some] at h1 ⊢
  rw [show o+1+i=o+(i+1) by omega];exact h1
 ·have e : nthR (t :: ts) (i+1)=nthR ts i:=by unfold nthR;simp
  rw [e] at h2;exact h2
theorem Mat.empty (w : World) (a : Option Addr) : Mat w a 0 []:=⟨rfl,fun h=>by omega,by unfold maxLen;omega,fun i hi=>by omega⟩
end

end Go.Proofs.YtcflcogbpnmjeaaGreat
