import Derived.Test.YthglbncgemdcbaaGreatS24
import Derived.Test.YthglbncgemdcbaaGreatS23
namespace Go.Proofs.YthglbncgemdcbaaGreat
set_option linter.all false
set_option maxRecDepth 100000
open Go.RowKit
theorem br.tail {w : World} {b o nx : Nat} {t : Lz} {ts : ZZ} (h : br w (some ⟨b,o,none⟩) nx (t :: ts)) : br w (some ⟨b,o+1,none⟩) (nx - 1) ts:=by
 have hl:=h.len;simp only [NP] at hl;refine ⟨by omega,λ_=>rfl,by have:=h.max;omega,λi hi=>?_⟩;obtain ⟨b',m',c',h1,h2⟩:=h.cell (i+1) (by omega);refine ⟨b',m',c',?_,?_⟩
 ·simp only [ablk_some,aoff_some] at h1 ⊢;rw [show o+1+i=o+(i+1) by omega];exact h1
 ·have e : ai (t :: ts) (i+1)=ai ts i:=by unfold ai;simp
  rw [e] at h2;exact h2
theorem br.empty (w : World) (a : OA) : br w a 0 []:=⟨rfl,λh=>by omega,by unfold maxLen;omega,λi hi=>by omega⟩
end Go.Proofs.YthglbncgemdcbaaGreat
