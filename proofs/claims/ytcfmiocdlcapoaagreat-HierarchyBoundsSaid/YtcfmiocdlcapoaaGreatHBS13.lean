import Derived.Test.YtcfmiocdlcapoaaGreatHBS11
namespace Go.Proofs.YtcfmiocdlcapoaaGreat
set_option linter.all false
set_option maxRecDepth 100000
open Go.RowKit
theorem Fs : dg 2 2 4 ya 0 4=true:=by decide +kernel
theorem KH : fw 2 2 4 ya:=aG (cB 2 2 4 ya) Fs
theorem Fw : dg 2 3 8 wo 0 8=true:=by decide +kernel
theorem Kc : fw 2 3 8 wo:=aG (cB 2 3 8 wo) Fw
theorem Gp : dg 2 4 16 we 0 16=true:=by decide +kernel
theorem Kz : fw 2 4 16 we:=aG (cB 2 4 16 we) Gp
theorem Gg : dg 2 5 32 wC 0 32=true:=by decide +kernel
theorem Ki : fw 2 5 32 wC:=aG (cB 2 5 32 wC) Gg
theorem FF : dg 2 6 64 rB 0 32=true:=by decide +kernel
theorem Eh : dg 2 6 64 rB 32 32=true:=by decide +kernel
theorem KC : fw 2 6 64 rB:=aG (aG (cB 2 6 64 rB) FF) Eh
theorem Ip : dg 2 7 128 mN 0 32=true:=by decide +kernel
theorem Dx : dg 2 7 128 mN 32 32=true:=by decide +kernel
theorem DN : dg 2 7 128 mN 64 32=true:=by decide +kernel
theorem EL : dg 2 7 128 mN 96 32=true:=by decide +kernel
theorem KV : fw 2 7 128 mN:=aG (aG (aG (aG (cB 2 7 128 mN) Ip) Dx) DN) EL
theorem Gy : dg 2 8 256 dS 0 16=true:=by decide +kernel
theorem EZ : dg 2 8 256 dS 16 16=true:=by decide +kernel
theorem Ew : dg 2 8 256 dS 32 16=true:=by decide +kernel
theorem DX : dg 2 8 256 dS 48 16=true:=by decide +kernel
theorem E5 : dg 2 8 256 dS 64 16=true:=by decide +kernel
theorem Dz : dg 2 8 256 dS 80 16=true:=by decide +kernel
theorem DO : dg 2 8 256 dS 96 16=true:=by decide +kernel
theorem BF : dg 2 8 256 dS 112 16=true:=by decide +kernel
theorem Cv : dg 2 8 256 dS 128 16=true:=by decide +kernel
theorem AZ : dg 2 8 256 dS 144 16=true:=by decide +kernel
theorem BM : dg 2 8 256 dS 160 16=true:=by decide +kernel
theorem Cu : dg 2 8 256 dS 176 16=true:=by decide +kernel
theorem Bt : dg 2 8 256 dS 192 16=true:=by decide +kernel
theorem BV : dg 2 8 256 dS 208 16=true:=by decide +kernel
theorem Cl : dg 2 8 256 dS 224 16=true:=by decide +kernel
theorem B5 : dg 2 8 256 dS 240 16=true:=by decide +kernel
theorem KQ : fw 2 8 256 dS:=aG (aG (aG (aG (aG (aG (aG (aG (aG (aG (aG (aG (aG (aG (aG (aG (cB 2 8 256 dS) Gy) EZ) Ew) DX) E5) Dz) DO) BF) Cv) AZ) BM) Cu) Bt) BV) Cl) B5
end Go.Proofs.YtcfmiocdlcapoaaGreat
