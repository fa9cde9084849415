/-  -/
import Derived.Test.YtcflcogbpnmjeaaGreatK27
import Derived.Test.YtcflcogbpnmjeaaGreatHCE10
import Derived.Test.YtcflcogbpnmjeaaGreatK20
import Derived.Test.YtcflcogbpnmjeaaGreatHCE8
import Derived.Test.YtcflcogbpnmjeaaGreatK28
import Derived.Test.YtcflcogbpnmjeaaGreatHCE9
import Derived.Test.YtcflcogbpnmjeaaGreatK32
import Derived.Test.YtcflcogbpnmjeaaGreatK26
import Derived.Test.YtcflcogbpnmjeaaGreatHCE1
import Derived.Test.YtcflcogbpnmjeaaGreatK17
import Derived.Test.YtcflcogbpnmjeaaGreatK21
namespace Go.Proofs.YtcflcogbpnmjeaaGreat
set_option linter.unusedVariables false
set_option linter.unusedSimpArgs false
set_option linter.unusedSectionVars false

section
open Go.RowKit
set_option maxRecDepth 100000 in
set_option maxHeartbeats 1600000 in
theorem rRank26_any (P M:Int) (am:Option Addr) (mn cm:Nat) (mod:List Int) (N:Int) (a:Option Addr) (n c:Nat) (L:List (List Int)) (mm W:Int) (w:World) (hmod:Ints w am mn mod) (hi:Mat w a n L) :
  Calls Tryz.prog 136 #[.agg #[.int .i64 P,.int .i64 M,.slice am mn cm,.int .i64 N,.slice a n c],.int .i64 mm,.int .i64 W] w fun e w'=>e = .returned (.int .i64 (rkcE P M mod N L mm W))∧Below w.heap.size w w':=by
 have Hil:=Lib.hid hi.len
 go_enter Tryz.func136,Tryz.ntmps136
 go_wp2_with fail
 obtain ⟨U,hU⟩:∃ U:World,U=w.alloc (.cells #[.int .i64 P,.int .i64 M,.slice am mn cm,.int .i64 N,.slice a n c] 27):=⟨_,rfl⟩
 rw [← hU]
 have hbU:Below w.heap.size w U:=by rw [hU];exact below1 _ _
 have x0:Box U w.heap.size [.int .i64 P,.int .i64 M,.slice am mn cm,.int .i64 N,.slice a n c]:=by rw [hU];exact Box.new _ _ _ rfl
 have HX:=Lib.hid x0
 clear hU x0
 refine (rCheck_any P M am mn cm mod N a n c L U (hmod.keep hbU) (hi.keep hbU)).mono ?_
 rintro e w1 ⟨rfl,hb1⟩
 have hbF:=Below.next hbU hb1
 have x1:=HX.out.keep hb1
 have c3:=x1.cell 3 rfl
 have c4:=x1.cell 4 rfl
 clear x1
 by_cases hE:codeE P M mod N L=0
 ·have HE:Hid (rkcE P M mod N L mm W=if mm<0∨(n:Int)<mm∨W<0∨N<W then 6 else 0):=by show _=_;rw [rkcE,if_pos hE,Hil.out]
  rw [hE]
  clear hE
  by_cases h1:mm<0
  ·have HE2:Hid (rkcE P M mod N L mm W=6):=by show _=_;rw [HE.out,if_pos (.inl h1)]
   have d1:decide (mm<0)=true:=by simpa using h1
   clear h1
   go_wp2_with fail
   go_ret
   exact ⟨by rw [HE2.out];rfl,hbF⟩
  have d1:decide (mm<0)=false:=by simpa using h1
  by_cases h2:(n:Int)<mm
  ·have HE2:Hid (rkcE P M mod N L mm W=6):=by show _=_;rw [HE.out,if_pos (.inr (.inl h2))]
   have d2:decide ((n:Int)<mm)=true:=by simpa using h2
   clear h1 h2
   go_wp2_with fail
   go_ret
   exact ⟨by rw [HE2.out];rfl,hbF⟩
  have d2:decide ((n:Int)<mm)=false:=by simpa using h2
  by_cases h3:W<0
  ·have HE2:Hid (rkcE P M mod N L mm W=6):=by show _=_;rw [HE.out,if_pos (.inr (.inr (.inl h3)))]
   have d3:decide (W<0)=true:=by simpa using h3
   clear h1 h2 h3
   go_wp2_with fail
   go_ret
   exact ⟨by rw [HE2.out];rfl,hbF⟩
  have d3:decide (W<0)=false:=by simpa using h3
  by_cases h4:N<W
  ·have HE2:Hid (rkcE P M mod N L mm W=6):=by show _=_;rw [HE.out,if_pos (.inr (.inr (.inr h4)))]
   have d4:decide (N<W)=true:=by simpa using h4
   clear h1 h2 h3 h4
   go_wp2_with fail
   go_ret
   exact ⟨by rw [HE2.out];rfl,hbF⟩
  have d4:decide (N<W)=false:=by simpa using h4
  have HE2:Hid (rkcE P M mod N L mm W=0):=by
   show _=_
   rw [HE.out,if_neg]
   rintro (h | h | h | h)
   ·exact h1 h
   ·exact h2 h
   ·exact h3 h
   ·exact h4 h
  clear h1 h2 h3 h4
  go_wp2_with fail
  go_ret
  exact ⟨by rw [HE2.out];rfl,hbF⟩
 ·have HE:Hid (rkcE P M mod N L mm W=codeE P M mod N L):=if_neg hE
  have hE1:(codeE P M mod N L == 0)=false:=by simpa using hE
  clear hE
  generalize codeE P M mod N L=er at *
  go_wp2_with fail
  go_ret
  exact ⟨by rw [HE.out];rfl,hbF⟩
theorem rkc_env {P M:Int} {mod:List Int} {N:Int} {L:List (List Int)} {mm W:Int} (h:rkcE P M mod N L mm W=0):codeE P M mod N L=0∧1≤N∧N≤64∧0≤mm∧mm≤L.length∧0≤W∧W≤N:=by
 have hE:=rkc_code h
 obtain ⟨_,h1,h2,_⟩:=codeE_zero hE
 unfold rkcE at h
 rw [if_pos hE] at h
 by_cases hx:mm<0∨(L.length:Int)<mm∨W<0∨N<W
 ·rw [if_pos hx] at h;cases h
 ·refine ⟨hE,h1,h2,?_,?_,?_,?_⟩ <;> (refine Classical.byContradiction fun hh=>hx ?_)
  ·exact .inl (by omega)
  ·exact .inr (.inl (by omega))
  ·exact .inr (.inr (.inl (by omega)))
  ·exact .inr (.inr (.inr (by omega)))
end

section
open Go.RowKit
theorem kbld_step (F:List Int→List Int→List (List Int)→Int × List (List Int)) (s z ks:List Int) {j:Nat} (hj:j<ks.length) (T:List (List Int)) :
  kbld F s (z ++ ks.take j) (ks.drop j) T=if (F (s ++ [nth ks j]) (z ++ ks.take j) T).1=0 then kbld F s (z ++ ks.take (j+1)) (ks.drop (j+1)) (F (s ++ [nth ks j]) (z ++ ks.take j) T).2 else ((F (s ++ [nth ks j]) (z ++ ks.take j) T).1,[]):=by
 rw [show ks.drop j=nth ks j :: ks.drop (j+1) by rw [nth_getElem hj];exact List.drop_eq_getElem_cons hj,kbld,take_nth ks hj,List.append_assoc]
end

end Go.Proofs.YtcflcogbpnmjeaaGreat
