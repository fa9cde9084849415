/-  -/
import Derived.Test.YtcfmiocdlcapoaaGreatMSI7
import Derived.Test.YtcfmiocdlcapoaaGreatK17
import Derived.Test.YtcfmiocdlcapoaaGreatMSI2
import Derived.Test.YtcfmiocdlcapoaaGreatK21
import Derived.Test.YtcfmiocdlcapoaaGreatMSI6
import Derived.Test.YtcfmiocdlcapoaaGreatK34
import Derived.Test.YtcfmiocdlcapoaaGreatMSI5
import Derived.Test.YtcfmiocdlcapoaaGreatMSI3
import Derived.Test.YtcfmiocdlcapoaaGreatMSI1
namespace Go.Proofs.YtcfmiocdlcapoaaGreat
set_option linter.unusedVariables false
set_option linter.unusedSimpArgs false
set_option linter.unusedSectionVars false

section
set_option maxRecDepth 100000
set_option maxHeartbeats 3200000

open Go.RowKit
def Sm27 (ce N : Int) (w : World) (e : Ending) (w' : World) : Prop:=∃z : Bool,e = .returned (.bool z)/\(z=true->ce=0->N<=14)/\Below w.heap.size w w'
theorem rSmall27_any (P M : Int) (am : Option Addr) (mn cm : Nat) (mod : List Int) (N : Int) (a : Option Addr) (n c : Nat) (L : List (List Int)) (w : World) (hmod : Ints w am mn mod) (hi : Mat w a n L) :
  Calls Tryz.prog 13 #[.agg #[.int .i64 P,.int .i64 M,.slice am mn cm,.int .i64 N,.slice a n c]] w (Sm27 (codeE P M mod N L) N w):=by
 have HF1 : Hid (∀V,Below w.heap.size w V->Calls Tryz.prog 28 #[.agg #[.int .i64 P,.int .i64 M,.slice am mn cm,.int .i64 N,.slice a n c],.int .i64 200] V (SomeBool V)):=λV hV=>rFew12_any P M am mn cm N a n c 200 L V (hi.keep hV) (by omega)
 have HF2 : Hid (∀V,Below w.heap.size w V->Calls Tryz.prog 28 #[.agg #[.int .i64 P,.int .i64 M,.slice am mn cm,.int .i64 N,.slice a n c],.int .i64 100] V (SomeBool V)):=λV hV=>rFew12_any P M am mn cm N a n c 100 L V (hi.keep hV) (by omega)
 have HCk : Hid (∀V,Below w.heap.size w V->Calls Tryz.prog 22 #[.agg #[.int .i64 P,.int .i64 M,.slice am mn cm,.int .i64 N,.slice a n c]] V λe w'=>e = .returned (.int .i64 (codeE P M mod N L))/\Below V.heap.size V w'):=λV hV=>rCheck_any P M am mn cm mod N a n c L V (hmod.keep hV) (hi.keep hV)
 have HCn : Hid (∀V,Below w.heap.size w V->Calls Tryz.prog 21 #[.agg #[.int .i64 P,.int .i64 M,.slice am mn cm,.int .i64 N,.slice a n c],.int .i64 1000] V λe w'=>e = .returned (.int .i64 (cntL 1000 P M mod N L))/\Below V.heap.size V w'):=λV hV=>rCountL_any 1000 P M am mn cm mod N a n c L V (hmod.keep hV) (hi.keep hV)
 have HOr : Hid (∀V,Calls Tryz.prog 45 #[.agg #[.int .i64 P,.int .i64 M,.slice am mn cm]] V λe w'=>e = .returned (.int .i64 (orderS P M))/\Below V.heap.size V w'):=λV=>rOrder_any P M am mn cm V
 generalize orderS P M=q at *
 generalize cntL 1000 P M mod N L=cn at *
 generalize codeE P M mod N L=ce at *
 clear hi hmod
 go_enter Tryz.func13,Tryz.ntmps13
 go_upto_region 1 with fail
 obtain ⟨W,hW⟩ : ∃W : World,W=w.alloc (.cells #[.int .i64 P,.int .i64 M,.slice am mn cm,.int .i64 N,.slice a n c] 27):=⟨_,rfl⟩
 rw [<- hW]
 have hbW : Below w.heap.size w W:=by rw [hW];exact below1 _ _
 have x0 : Box W w.heap.size [.int .i64 P,.int .i64 M,.slice am mn cm,.int .i64 N,.slice a n c]:=by rw [hW];exact Box.new _ _ _ rfl
 have HS : Hid (∀V,Below W.heap.size W V->V.cell? ⟨w.heap.size,0,none⟩=some (.int .i64 P)/\V.cell? ⟨w.heap.size,1,none⟩=some (.int .i64 M)/\V.cell? ⟨w.heap.size,2,none⟩=some (.slice am mn cm)/\V.cell? ⟨w.heap.size,3,none⟩=some (.int .i64 N)/\V.cell? ⟨w.heap.size,4,none⟩=some (.slice a n c)):=λV hV=>by
  have x1:=x0.keep hV
  exact ⟨x1.cell 0 rfl,x1.cell 1 rfl,x1.cell 2 rfl,x1.cell 3 rfl,x1.cell 4 rfl⟩
 have HbW:=Lib.hid hbW
 clear hW x0 hbW
 obtain ⟨c0,c1,c2,c3,c4⟩:=HS.out W (Below.refl _ _)
 go_wp2_with fail
 refine (HCk.out W HbW.out).mono ?_
 rintro e w1 ⟨rfl,hb1⟩
 clear c0 c1 c2 c3 c4
 obtain ⟨c0,c1,c2,c3,c4⟩:=HS.out w1 hb1
 have hF1:=Below.next HbW.out hb1
 by_cases hE : ce=0
 rotate_left
 ·have d0 : (ce != 0)=true:=by simpa using hE
  have HE:=Lib.hid hE
  clear hE
  go_wp2_with fail
  refine (HF1.out w1 hF1).mono ?_
  rintro e w2 ⟨z,rfl,hb2⟩
  have hF:=Below.next hF1 hb2
  go_wp2_with fail
  go_ret
  exact ⟨_,rfl,λ_ h=>absurd h HE.out,hF⟩
 have d0 : (ce != 0)=false:=by simpa using hE
 clear hE
 go_wp2_with fail
 refine (HF2.out w1 hF1).mono ?_
 rintro e w2 ⟨z,rfl,hb2⟩
 have hB2:=Below.next hb1 hb2
 have hF2:=Below.next HbW.out hB2
 clear c0 c1 c2 c3 c4
 obtain ⟨c0,c1,c2,c3,c4⟩:=HS.out w2 hB2
 cases z
 ·go_wp2_with fail
  go_ret
  exact ⟨_,rfl,λh=>(by cases h),hF2⟩
 by_cases h1 : N<=14
 rotate_left
 ·have d1 : decide (N<=14)=false:=by simpa using h1
  clear h1
  go_wp2_with fail
  go_ret
  exact ⟨_,rfl,λh=>(by cases h),hF2⟩
 have d1 : decide (N<=14)=true:=by simpa using h1
 have H14:=Lib.hid h1
 clear h1
 go_wp2_with fail
 refine (HCn.out w2 hF2).mono ?_
 rintro e w3 ⟨rfl,hb3⟩
 have hB3:=Below.next hB2 hb3
 have hF3:=Below.next HbW.out hB3
 clear c0 c1 c2 c3 c4
 obtain ⟨c0,c1,c2,c3,c4⟩:=HS.out w3 hB3
 by_cases h2 : 0<cn
 ·have d2 : decide (0<cn)=true:=by simpa using h2
  have d2' : decide (cn > 0)=true:=by simpa using h2
  clear h2
  go_wp2_with fail
  go_ret
  exact ⟨_,rfl,λ_ _=>H14.out,hF3⟩
 have d2 : decide (0<cn)=false:=by simpa using h2
 have d2' : decide (cn > 0)=false:=by simpa using h2
 clear h2
 by_cases h3 : n=3
 rotate_left
 ·have d3 : ((n : Int) == 3)=false:=by simp;omega
  clear h3
  go_wp2_with fail
  go_ret
  exact ⟨_,rfl,λ_ _=>H14.out,hF3⟩
 have d3 : ((n : Int) == 3)=true:=by simp;omega
 clear h3
 by_cases h4 : N<=6
 rotate_left
 ·have d4 : decide (N<=6)=false:=by simpa using h4
  clear h4
  go_wp2_with fail
  go_ret
  exact ⟨_,rfl,λ_ _=>H14.out,hF3⟩
 have d4 : decide (N<=6)=true:=by simpa using h4
 clear h4
 go_wp2_with fail
 refine (HOr.out w3).mono ?_
 rintro e w4 ⟨rfl,hb4⟩
 have hF4:=Below.next hF3 hb4
 go_wp2_with fail
 go_ret
 exact ⟨_,rfl,λ_ _=>H14.out,hF4⟩
end

section
set_option maxRecDepth 100000
set_option maxHeartbeats 8000000

open Go.RowKit
theorem mLawSingle_any (P M : Int) (am : Option Addr) (mn cm : Nat) (mod : List Int) (N : Int) (a : Option Addr) (n c : Nat) (L : List (List Int)) (w : World) (hmod : Ints w am mn mod) (hi : Mat w a n L) :
  Calls Tryz.prog 8 #[.agg #[.int .i64 P,.int .i64 M,.slice am mn cm,.int .i64 N,.slice a n c]] w λe w'=>e = .returned (.bool true)/\Below w.heap.size w w':=by
 have hn : L.length=n:=hi.len
 have HSm:=Lib.hid (λV (hV : Below w.heap.size w V)=>rSmall27_any P M am mn cm mod N a n c L V (hmod.keep hV) (hi.keep hV))
 have HCn : Hid (∀V,Below w.heap.size w V->Calls Tryz.prog 21 #[.agg #[.int .i64 P,.int .i64 M,.slice am mn cm,.int .i64 N,.slice a n c],.int .i64 1000] V λe w'=>e = .returned (.int .i64 (cntL 1000 P M mod N L))/\Below V.heap.size V w'):=λV hV=>rCountL_any 1000 P M am mn cm mod N a n c L V (hmod.keep hV) (hi.keep hV)
 have Hmi:=Lib.hid (And.intro hmod hi)
 have Hn:=Lib.hid hn
 have Hcn:=Lib.hid (cntL_ne (lim:=1000) (P:=P) (M:=M) (mod:=mod) (N:=N) (L:=L))
 obtain ⟨cn,hcn⟩ : ∃cn,cntL 1000 P M mod N L=cn:=⟨_,rfl⟩
 rw [hcn] at HCn Hcn
 clear hmod hi hn hcn
 go_enter Tryz.func8,Tryz.ntmps8
 go_upto_region 1 with fail
 obtain ⟨W,hW⟩ : ∃W : World,W=w.alloc (.cells #[.int .i64 P,.int .i64 M,.slice am mn cm,.int .i64 N,.slice a n c] 27):=⟨_,rfl⟩
 rw [<- hW]
 have hbW : Below w.heap.size w W:=by rw [hW];exact below1 _ _
 have x0 : Box W w.heap.size [.int .i64 P,.int .i64 M,.slice am mn cm,.int .i64 N,.slice a n c]:=by rw [hW];exact Box.new _ _ _ rfl
 have HS : Hid (∀V,Below W.heap.size W V->V.cell? ⟨w.heap.size,0,none⟩=some (.int .i64 P)/\V.cell? ⟨w.heap.size,1,none⟩=some (.int .i64 M)/\V.cell? ⟨w.heap.size,2,none⟩=some (.slice am mn cm)/\V.cell? ⟨w.heap.size,3,none⟩=some (.int .i64 N)/\V.cell? ⟨w.heap.size,4,none⟩=some (.slice a n c)):=λV hV=>by
  have x1:=x0.keep hV
  exact ⟨x1.cell 0 rfl,x1.cell 1 rfl,x1.cell 2 rfl,x1.cell 3 rfl,x1.cell 4 rfl⟩
 have HbW:=Lib.hid hbW
 clear hW x0 hbW
 have hend : ∀Y,Below W.heap.size W Y->Hid (∀w3,Below Y.heap.size Y w3->Below w.heap.size w w3):=λY hY w3 h3=>Below.next HbW.out (Below.next hY h3)
 have Hend:=Lib.hid hend
 clear hend
 go_wp2_with fail
 refine (awake27_any W).mono ?_
 rintro e w1 ⟨rfl,hb1⟩
 obtain ⟨c0,c1,c2,c3,c4⟩:=HS.out w1 hb1
 go_wp2_with fail
 refine (HSm.out w1 (Below.next HbW.out hb1)).mono ?_
 rintro e w2 ⟨z,rfl,_,hb2⟩
 have hB2:=Below.next hb1 hb2
 clear c0 c1 c2 c3 c4
 cases z
 ·go_wp2_with fail
  refine (awake27_any w2).mono ?_
  rintro e w3 ⟨rfl,hb3⟩
  have hF:=(Hend.out w2 hB2).out w3 hb3
  go_wp2_with fail
  go_ret
  exact ⟨rfl,hF⟩
 obtain ⟨c0,c1,c2,c3,c4⟩:=HS.out w2 hB2
 go_wp2_with fail
 refine (HCn.out w2 (Below.next HbW.out hB2)).mono ?_
 rintro e w3 ⟨rfl,hb3⟩
 have hB3:=Below.next hB2 hb3
 clear c0 c1 c2 c3 c4 hb1 hb2 hb3
 by_cases h0 : cn=0
 ·have d0 : (cn == 0)=true:=by simpa using h0
  clear h0
  go_wp2_with fail
  refine (awake27_any w3).mono ?_
  rintro e w4 ⟨rfl,hb4⟩
  have hF:=(Hend.out w3 hB3).out w4 hb4
  go_wp2_with fail
  go_ret
  exact ⟨rfl,hF⟩
 have d0 : (cn == 0)=false:=by simpa using h0
 obtain ⟨hE,hlim,-⟩:=Hcn.out h0
 obtain ⟨m,rfl,hm1,hm64,F,hR⟩:=codeE_fld hE
 have hmn : mn<=1000000:=by have h:=mod_len (codeE_zero hE).1;rw [Hmi.out.1.len] at h;omega
 have hDE:=(dual_code hE).1
 have hdl:=(dual_parts hE).2.2.1
 have HD:=Lib.hid (λV (hV : Below w.heap.size w V)=>dual_any P M am mn cm mod m a n c L V (Hmi.out.1.keep hV) (Hmi.out.2.keep hV) hE hmn)
 have Hsl:=Lib.hid (λ(h1 : 1<=L.length) (h2 : L.length<m) b c h3 h4 h5 h6=>single_law (b:=b) (c:=c) hE h1 h2 h3 h4 h5 h6)
 have Hrg1:=Lib.hid (λ(h1 : 1<=L.length)=>run_good hE h1 (by
  have : m * (tblOf P M.toNat mod).q ^ L.length<=64 * 1000:=Nat.mul_le_mul hm64 (by omega)
  omega))
 obtain ⟨D,hD⟩ : ∃D,dualL (tblOf P M.toNat mod) L m=D:=⟨_,rfl⟩
 unfold DualPost at HD
 rw [hD] at HD hDE hdl Hsl
 have Hrg2:=Lib.hid (λ(h1 : 1<=D.length) (h2 : (((tblOf P M.toNat mod).q ^ D.length : Nat) : Int)<=1000)=>run_good hDE h1 (by
  have : m * (tblOf P M.toNat mod).q ^ D.length<=64 * 1000:=Nat.mul_le_mul hm64 (by omega)
  omega))
 have Hcd:=Lib.hid (cntL_ne (lim:=1000) (P:=P) (M:=M) (mod:=mod) (N:=m) (L:=D))
 have HCD : Hid (∀V a1 n1 k1 a2 n2 k2,Ints V a1 n1 mod->Mat V a2 n2 D->Calls Tryz.prog 21 #[.agg #[.int .i64 P,.int .i64 M,.slice a1 n1 k1,.int .i64 m,.slice a2 n2 k2],.int .i64 1000] V λe w'=>e = .returned (.int .i64 (cntL 1000 P M mod m D))/\Below V.heap.size V w'):=λV a1 n1 k1 a2 n2 k2 h1 h2=>rCountL_any 1000 P M a1 n1 k1 mod m a2 n2 k2 D V h1 h2
 obtain ⟨cd,hcd⟩ : ∃cd,cntL 1000 P M mod m D=cd:=⟨_,rfl⟩
 rw [hcd] at HCD Hcd
 have hDl : D.length=m - n:=by have:=Hn.out;omega
 have hnm : n<=m:=by have:=code_le hE;have:=Hn.out;omega
 obtain ⟨nd,hnd⟩ : ∃nd,D.length=nd:=⟨_,rfl⟩
 rw [hnd] at HD hDl
 have Hnd:=Lib.hid hnd
 have HDl:=Lib.hid hDl
 have Hmm:=Lib.hid hDE
 obtain ⟨c0,c1,c2,c3,c4⟩:=HS.out w3 hB3
 clear hE hDE hD hdl hcd hnd hDl F hR hmn h0 hlim Hcn HSm HCn
 go_wp2_with fail
 refine (HD.out w3 (Below.next HbW.out hB3)).mono ?_
 rintro e w4 ⟨a1,k1,a2,k2,rfl,h1,h2,hb4⟩
 obtain ⟨nm,hnm'⟩ : ∃nm,mod.length=nm:=⟨_,rfl⟩
 rw [hnm'] at h1 ⊢
 have t4:=below1 w4 (.cells #[.int .i64 P,.int .i64 M,.slice a1 nm k1,.int .i64 m,.slice a2 nd k2] 27)
 have y4 : Box (w4.alloc (.cells #[.int .i64 P,.int .i64 M,.slice a1 nm k1,.int .i64 m,.slice a2 nd k2] 27)) w4.heap.size [.int .i64 P,.int .i64 M,.slice a1 nm k1,.int .i64 m,.slice a2 nd k2]:=Box.new _ _ _ rfl
 obtain ⟨U,hU⟩ : ∃U,w4.alloc (.cells #[.int .i64 P,.int .i64 M,.slice a1 nm k1,.int .i64 m,.slice a2 nd k2] 27)=U:=⟨_,rfl⟩
 rw [hU] at t4 y4
 have hB4:=Below.next hB3 (Below.next hb4 t4)
 have HP : Hid (∀V,Below U.heap.size U V->(V.cell? ⟨w4.heap.size,0,none⟩=some (.int .i64 P)/\V.cell? ⟨w4.heap.size,1,none⟩=some (.int .i64 M)/\V.cell? ⟨w4.heap.size,2,none⟩=some (.slice a1 nm k1)/\V.cell? ⟨w4.heap.size,3,none⟩=some (.int .i64 m)/\V.cell? ⟨w4.heap.size,4,none⟩=some (.slice a2 nd k2))/\Ints V a1 nm mod/\Mat V a2 nd D):=λV hV=>by
  have z:=y4.keep hV
  exact ⟨⟨z.cell 0 rfl,z.cell 1 rfl,z.cell 2 rfl,z.cell 3 rfl,z.cell 4 rfl⟩,(h1.ints.keep t4).keep hV,(h2.mat.keep t4).keep hV⟩
 obtain ⟨⟨e0,e1,e2,e3,e4⟩,i5,m5⟩:=HP.out U (Below.refl _ _)
 have Hq:=Lib.hid (HCD.out U a1 nm k1 a2 nd k2 i5 m5)
 rw [<- hU] at e0 e1 e2 e3 e4
 have HU:=Lib.hid hU
 clear i5 m5 c0 c1 c2 c3 c4 h1 h2 y4 hnm' hb4 t4 hU
 go_wp2_with fail
 rw [HU.out]
 clear e0 e1 e2 e3 e4 HU
 refine Hq.out.mono ?_
 rintro e w5 ⟨rfl,hb5⟩
 have hB5:=Below.next hB4 hb5
 by_cases h0 : cd=0
 ·have d0 : (cd == 0)=true:=by simpa using h0
  have hF:=Below.next HbW.out hB5
  clear h0
  go_wp2_with fail
  go_ret
  exact ⟨rfl,hF⟩
 have d1 : (cd == 0)=false:=by simpa using h0
 obtain ⟨c0,c1,c2,c3,c4⟩:=HS.out w5 hB5
 by_cases hk0 : n=0
 ·have d2 : ((n : Int) == 0)=true:=by simp;omega
  have hF:=Below.next HbW.out hB5
  clear h0
  go_wp2_with fail
  go_ret
  exact ⟨rfl,hF⟩
 have d2 : ((n : Int) == 0)=false:=by simp;omega
 by_cases hkm : n=m
 ·have d3 : ((n : Int) == (m : Int))=true:=by simp;omega
  have hF:=Below.next HbW.out hB5
  clear h0
  go_wp2_with fail
  go_ret
  exact ⟨rfl,hF⟩
 have d3 : ((n : Int) == (m : Int))=false:=by simp;omega
 obtain ⟨-,hlim,-⟩:=Hcd.out h0
 have g1 : 1<=L.length:=by have:=Hn.out;omega
 have g2 : L.length<m:=by have:=Hn.out;omega
 obtain ⟨o1,b1,r1,s1,t1,-⟩:=Hrg1.out g1
 obtain ⟨o2,b2,r2,s2,t2,-⟩:=Hrg2.out (by have:=Hnd.out;have:=HDl.out;omega) hlim
 obtain ⟨q1,q2,q3⟩:=Hsl.out g1 g2 _ _ s1 t1 s2 t2
 have H1:=Lib.hid (λV (hV : Below w.heap.size w V)=>mDistance_any P M am mn cm mod m a n c L V (Hmi.out.1.keep hV) (Hmi.out.2.keep hV))
 have H2:=Lib.hid (λV a1 n1 k1 a2 n2 k2 (h1 : Ints V a1 n1 mod) (h2 : Mat V a2 n2 D)=>mDistance_any P M a1 n1 k1 mod m a2 n2 k2 D V h1 h2)
 rw [r1] at H1
 rw [r2] at H2
 obtain ⟨x1,hx1⟩ : ∃x1,wtL b1=x1:=⟨_,rfl⟩
 obtain ⟨x2,hx2⟩ : ∃x2,wtL b2=x2:=⟨_,rfl⟩
 simp only [hx1] at H1 q1 q3
 simp only [hx2] at H2 q2 q3
 rw [Hn.out] at q1 q2 q3
 have HQ:=Lib.hid (And.intro q1 (And.intro q2 q3))
 clear h0 hlim g1 g2 r1 s1 t1 r2 s2 t2 q1 q2 q3 hx1 hx2 Hrg1 Hrg2 Hsl HCD Hcd HD
 go_wp2_with fail
 refine (H1.out w5 (Below.next HbW.out hB5)).mono ?_
 rintro e w6 ⟨rfl,hb6⟩
 have hB6:=Below.next hB5 hb6
 obtain ⟨⟨e0,e1,e2,e3,e4⟩,i6,m6⟩:=HP.out w6 (Below.next hb5 hb6)
 have Hq2:=Lib.hid (H2.out w6 a1 nm k1 a2 nd k2 i6 m6)
 clear c0 c1 c2 c3 c4 i6 m6 hb5 hb6
 obtain ⟨c0,c1,c2,c3,c4⟩:=HS.out w6 hB6
 go_wp2_with fail
 refine Hq2.out.mono ?_
 rintro e w7 ⟨rfl,hb7⟩
 have hB7:=Below.next hB6 hb7
 clear c0 c1 c2 c3 c4 e0 e1 e2 e3 e4
 obtain ⟨c0,c1,c2,c3,c4⟩:=HS.out w7 hB7
 have hF:=Below.next HbW.out hB7
 obtain ⟨q1,q2,q3⟩:=HQ.out
 have f1 : decide ((x1 : Int)<=(m : Int) - (n : Int)+1)=true:=by simp;omega
 have f2 : decide ((x2 : Int)<=(n : Int)+1)=true:=by simp;omega
 have Hq3:=Lib.hid q3
 clear q1 q2 q3
 by_cases h9 : x2=n+1
 ·have f3 : ((x2 : Int) == (n : Int)+1)=true:=by simp;omega
  have f4 : ((x1 : Int) == (m : Int) - (n : Int)+1)=true:=by have:=Hq3.out.2 h9;simp;omega
  clear h9
  go_wp2_with fail
  go_ret
  exact ⟨rfl,hF⟩
 ·have f3 : ((x2 : Int) == (n : Int)+1)=false:=by simp;omega
  have f4 : ((x1 : Int) == (m : Int) - (n : Int)+1)=false:=by have : ¬ x1=m - n+1:=λh=>h9 (Hq3.out.1 h);simp;omega
  clear h9
  go_wp2_with fail
  go_ret
  exact ⟨rfl,hF⟩
end

end Go.Proofs.YtcfmiocdlcapoaaGreat
