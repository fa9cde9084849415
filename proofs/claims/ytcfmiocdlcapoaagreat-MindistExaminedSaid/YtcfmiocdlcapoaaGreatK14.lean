/-  -/
import Derived.Test.YtcfmiocdlcapoaaGreatK13
namespace Go.Proofs.YtcfmiocdlcapoaaGreat
set_option linter.unusedVariables false
set_option linter.unusedSimpArgs false
set_option linter.unusedSectionVars false

section
theorem tab2_2_0 : chkC 2 2 4 cert2_2 0 4=true:=by decide +kernel
theorem tab2_2 : chkAll 2 2 4 cert2_2:=chkAll_add (chkAll_nil 2 2 4 cert2_2) tab2_2_0
theorem tab2_3_0 : chkC 2 3 8 cert2_3 0 8=true:=by decide +kernel
theorem tab2_3 : chkAll 2 3 8 cert2_3:=chkAll_add (chkAll_nil 2 3 8 cert2_3) tab2_3_0
theorem tab2_4_0 : chkC 2 4 16 cert2_4 0 16=true:=by decide +kernel
theorem tab2_4 : chkAll 2 4 16 cert2_4:=chkAll_add (chkAll_nil 2 4 16 cert2_4) tab2_4_0
theorem tab2_5_0 : chkC 2 5 32 cert2_5 0 32=true:=by decide +kernel
theorem tab2_5 : chkAll 2 5 32 cert2_5:=chkAll_add (chkAll_nil 2 5 32 cert2_5) tab2_5_0
theorem tab2_6_0 : chkC 2 6 64 cert2_6 0 32=true:=by decide +kernel
theorem tab2_6_32 : chkC 2 6 64 cert2_6 32 32=true:=by decide +kernel
theorem tab2_6 : chkAll 2 6 64 cert2_6:=chkAll_add (chkAll_add (chkAll_nil 2 6 64 cert2_6) tab2_6_0) tab2_6_32
theorem tab2_7_0 : chkC 2 7 128 cert2_7 0 32=true:=by decide +kernel
theorem tab2_7_32 : chkC 2 7 128 cert2_7 32 32=true:=by decide +kernel
theorem tab2_7_64 : chkC 2 7 128 cert2_7 64 32=true:=by decide +kernel
theorem tab2_7_96 : chkC 2 7 128 cert2_7 96 32=true:=by decide +kernel
theorem tab2_7 : chkAll 2 7 128 cert2_7:=chkAll_add (chkAll_add (chkAll_add (chkAll_add (chkAll_nil 2 7 128 cert2_7) tab2_7_0) tab2_7_32) tab2_7_64) tab2_7_96
theorem tab2_8_0 : chkC 2 8 256 cert2_8 0 16=true:=by decide +kernel
theorem tab2_8_16 : chkC 2 8 256 cert2_8 16 16=true:=by decide +kernel
theorem tab2_8_32 : chkC 2 8 256 cert2_8 32 16=true:=by decide +kernel
theorem tab2_8_48 : chkC 2 8 256 cert2_8 48 16=true:=by decide +kernel
theorem tab2_8_64 : chkC 2 8 256 cert2_8 64 16=true:=by decide +kernel
theorem tab2_8_80 : chkC 2 8 256 cert2_8 80 16=true:=by decide +kernel
theorem tab2_8_96 : chkC 2 8 256 cert2_8 96 16=true:=by decide +kernel
theorem tab2_8_112 : chkC 2 8 256 cert2_8 112 16=true:=by decide +kernel
theorem tab2_8_128 : chkC 2 8 256 cert2_8 128 16=true:=by decide +kernel
theorem tab2_8_144 : chkC 2 8 256 cert2_8 144 16=true:=by decide +kernel
theorem tab2_8_160 : chkC 2 8 256 cert2_8 160 16=true:=by decide +kernel
theorem tab2_8_176 : chkC 2 8 256 cert2_8 176 16=true:=by decide +kernel
theorem tab2_8_192 : chkC 2 8 256 cert2_8 192 16=true:=by decide +kernel
theorem tab2_8_208 : chkC 2 8 256 cert2_8 208 16=true:=by decide +kernel
theorem tab2_8_224 : chkC 2 8 256 cert2_8 224 16=true:=by decide +kernel
theorem tab2_8_240 : chkC 2 8 256 cert2_8 240 16=true:=by decide +kernel
theorem tab2_8 : chkAll 2 8 256 cert2_8:=chkAll_add (chkAll_add (chkAll_add (chkAll_add (chkAll_add (chkAll_add (chkAll_add (chkAll_add (chkAll_add (chkAll_add (chkAll_add (chkAll_add (chkAll_add (chkAll_add (chkAll_add (chkAll_add (chkAll_nil 2 8 256 cert2_8) tab2_8_0) tab2_8_16) tab2_8_32) tab2_8_48) tab2_8_64) tab2_8_80) tab2_8_96) tab2_8_112) tab2_8_128) tab2_8_144) tab2_8_160) tab2_8_176) tab2_8_192) tab2_8_208) tab2_8_224) tab2_8_240
end

end Go.Proofs.YtcfmiocdlcapoaaGreat
