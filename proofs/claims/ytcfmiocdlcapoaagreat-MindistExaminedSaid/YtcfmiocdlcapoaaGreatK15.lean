/-  -/
import Derived.Test.YtcfmiocdlcapoaaGreatK13
namespace Go.Proofs.YtcfmiocdlcapoaaGreat
set_option linter.unusedVariables false
set_option linter.unusedSimpArgs false
set_option linter.unusedSectionVars false

section
theorem tab3_2_0 : chkC 3 2 9 cert3_2 0 9=true:=by decide +kernel
theorem tab3_2 : chkAll 3 2 9 cert3_2:=chkAll_add (chkAll_nil 3 2 9 cert3_2) tab3_2_0
theorem tab3_3_0 : chkC 3 3 27 cert3_3 0 27=true:=by decide +kernel
theorem tab3_3 : chkAll 3 3 27 cert3_3:=chkAll_add (chkAll_nil 3 3 27 cert3_3) tab3_3_0
theorem tab3_4_0 : chkC 3 4 81 cert3_4 0 32=true:=by decide +kernel
theorem tab3_4_32 : chkC 3 4 81 cert3_4 32 32=true:=by decide +kernel
theorem tab3_4_64 : chkC 3 4 81 cert3_4 64 17=true:=by decide +kernel
theorem tab3_4 : chkAll 3 4 81 cert3_4:=chkAll_add (chkAll_add (chkAll_add (chkAll_nil 3 4 81 cert3_4) tab3_4_0) tab3_4_32) tab3_4_64
theorem tab3_5_0 : chkC 3 5 243 cert3_5 0 27=true:=by decide +kernel
theorem tab3_5_27 : chkC 3 5 243 cert3_5 27 27=true:=by decide +kernel
theorem tab3_5_54 : chkC 3 5 243 cert3_5 54 27=true:=by decide +kernel
theorem tab3_5_81 : chkC 3 5 243 cert3_5 81 27=true:=by decide +kernel
theorem tab3_5_108 : chkC 3 5 243 cert3_5 108 27=true:=by decide +kernel
theorem tab3_5_135 : chkC 3 5 243 cert3_5 135 27=true:=by decide +kernel
theorem tab3_5_162 : chkC 3 5 243 cert3_5 162 27=true:=by decide +kernel
theorem tab3_5_189 : chkC 3 5 243 cert3_5 189 27=true:=by decide +kernel
theorem tab3_5_216 : chkC 3 5 243 cert3_5 216 27=true:=by decide +kernel
theorem tab3_5 : chkAll 3 5 243 cert3_5:=chkAll_add (chkAll_add (chkAll_add (chkAll_add (chkAll_add (chkAll_add (chkAll_add (chkAll_add (chkAll_add (chkAll_nil 3 5 243 cert3_5) tab3_5_0) tab3_5_27) tab3_5_54) tab3_5_81) tab3_5_108) tab3_5_135) tab3_5_162) tab3_5_189) tab3_5_216
end

end Go.Proofs.YtcfmiocdlcapoaaGreat
