/-  -/
import Derived.Test.YtcfmiocdlcapoaaGreatK24
import Derived.Test.YtcfmiocdlcapoaaGreatK27
import Derived.Test.YtcfmiocdlcapoaaGreatK18
import Derived.Test.YtcfmiocdlcapoaaGreatK8
namespace Go.Proofs.YtcfmiocdlcapoaaGreat
set_option linter.unusedVariables false
set_option linter.unusedSimpArgs false
set_option linter.unusedSectionVars false

section
open Go.RowKit
theorem Mat.tail {w : World} {b o nx : Nat} {t : List Int} {ts : List (List Int)} (h : Mat w (some ⟨b,o,none⟩) nx (t :: ts)) : Mat w (some ⟨b,o+1,none⟩) (nx - 1) ts:=by
 have hl:=h.len
 simp only [List.length_cons] at hl
 refine ⟨by omega,λ_=>rfl,by have:=h.max;omega,λi hi=>?_⟩
 obtain ⟨b',m',c',h1,h2⟩:=h.cell (i+1) (by omega)
 refine ⟨b',m',c',?_,?_⟩
 ·simp only [ablk_some,aoff_some] at h1 ⊢
  rw [show o+1+i=o+(i+1) by omega];exact h1
 ·have e : nthR (t :: ts) (i+1)=nthR ts i:=by unfold nthR;simp
  rw [e] at h2;exact h2
theorem Mat.empty (w : World) (a : Option Addr) : Mat w a 0 []:=⟨rfl,λh=>by omega,by unfold maxLen;omega,λi hi=>by omega⟩
end

end Go.Proofs.YtcfmiocdlcapoaaGreat
