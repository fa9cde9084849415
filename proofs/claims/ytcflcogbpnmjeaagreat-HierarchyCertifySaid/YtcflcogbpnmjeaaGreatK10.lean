/-  -/
import Derived.Test.YtcflcogbpnmjeaaGreatK8
namespace Go.Proofs.YtcflcogbpnmjeaaGreat
set_option linter.unusedVariables false
set_option linter.unusedSimpArgs false
set_option linter.unusedSectionVars false

section
def fpw (mul : Int→Int→Int) : Nat→Int→Nat→Int
 | 0,_,_=>1
 | f+1,x,n=>if n=0 then 1 else if n % 2=1 then mul (fpw mul f (mul x x) (n / 2)) x else fpw mul f (mul x x) (n / 2)
def ordOk (mul : Int→Int→Int) (q : Nat) (x : Int) : Bool :=
 fpw mul 8 x (q - 1) == 1 && (List.range (q - 1)).all fun d=>d == 0 || (q - 1) % d != 0 || fpw mul 8 x d != 1
end

end Go.Proofs.YtcflcogbpnmjeaaGreat
