import Derived.Test.YtjfiflldinnhmaaGreatHSO26
namespace Go.Proofs.YtjfiflldinnhmaaGreat
set_option linter.all false
set_option maxRecDepth 100000
open Go.RowKit
theorem bY.tail {w : World} {b o nx : Nat} {t : LI} {ts : LL} (h : bY w (some ⟨b,o,none⟩) nx (t :: ts)) : bY w (some ⟨b,o+1,none⟩) (nx - 1) ts:=by
 have hl:=h.len;simp only [FF] at hl;refine ⟨by omega,λ_=>rfl,by have:=h.max;omega,λi hi=>?_⟩;obtain ⟨b',m',c',h1,h2⟩:=h.cell (i+1) (by omega);refine ⟨b',m',c',?_,?_⟩
 ·simp only [ablk_some,aoff_some] at h1 ⊢;rw [show o+1+i=o+(i+1) by omega];exact h1
 ·have e : af (t :: ts) (i+1)=af ts i:=by unfold af;simp
  rw [e] at h2;exact h2
theorem bY.empty (w : World) (a : OA) : bY w a 0 []:=⟨rfl,λh=>by omega,by unfold maxLen;omega,λi hi=>by omega⟩
end Go.Proofs.YtjfiflldinnhmaaGreat
