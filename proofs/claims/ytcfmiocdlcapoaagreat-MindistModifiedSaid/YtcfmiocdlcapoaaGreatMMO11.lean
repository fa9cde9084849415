import Derived.Test.YtcfmiocdlcapoaaGreatMMO9
import Derived.Test.YtcfmiocdlcapoaaGreatK34
import Derived.Test.YtcfmiocdlcapoaaGreatMMO5
import Derived.Test.YtcfmiocdlcapoaaGreatMMO6
import Derived.Test.YtcfmiocdlcapoaaGreatMMO8
import Derived.Test.YtcfmiocdlcapoaaGreatMMO2
import Derived.Test.YtcfmiocdlcapoaaGreatMMO3
import Derived.Test.YtcfmiocdlcapoaaGreatMMO7
import Derived.Test.YtcfmiocdlcapoaaGreatMMO10
import Derived.Test.YtcfmiocdlcapoaaGreatK28
namespace Go.Proofs.YtcfmiocdlcapoaaGreat
set_option linter.unusedVariables false
set_option linter.unusedSimpArgs false
set_option linter.unusedSectionVars false
set_option maxRecDepth 100000
set_option maxHeartbeats 16000000
open Go.RowKit
theorem qD {X w7 : World} {t : TypeId} (hb : Below (X.alloc (.cells #[.int .i64 0,.slice none 0 0] t)).heap.size (X.alloc (.cells #[.int .i64 0,.slice none 0 0] t)) w7) : aV w7 X.heap.size [.int .i64 0,.slice none 0 0] :=
 (aV.new X [.int .i64 0,.slice none 0 0] t rfl).ah hb
theorem ud {X w7 : World} {t : TypeId} (hb : Below (X.alloc (.cells #[.int .i64 0,.slice none 0 0] t)).drew.heap.size (X.alloc (.cells #[.int .i64 0,.slice none 0 0] t)).drew w7) : aV w7 X.heap.size [.int .i64 0,.slice none 0 0] :=
 (aV.new X [.int .i64 0,.slice none 0 0] t rfl).ah (Below.next (Below.refl _ _).drew hb)
theorem xR (P M : Int) (am : OA) (mn cm : Nat) (mod : Lz) (m : Nat) (a : OA) (n c : Nat) (L : Ll) (ra : OA) (rn rc : Nat) (S : Lz) (w : World) (hmod : Ints w am mn mod) (hi : bZ w a n L) (hS : Ints w ra rn S)
  (hE : aL P M mod m L=0) (hok : bF m S=true) (hlt : rn<m) (hq1 : 1<=(frTo false S m).length) (hE2 : aL P M mod m (fW (aa P M.toNat mod) m L (frTo false S m))=0) (hok2 : bF m (frTo false S m)=true)
  (hf : dM P M mod (frTo false S m).length ((fW (aa P M.toNat mod) m L (frTo false S m)).map (aG (frTo false S m)))=0) (hmn : mn<=1000000) :
  Calls Tryz.prog 40 #[.agg #[.int .i64 P,.int .i64 M,.slice am mn cm,.int .i64 m,.slice a n c],.slice ra rn rc] w (fN P M mod (frTo false S m).length ((fW (aa P M.toNat mod) m L (frTo false S m)).map (aG (frTo false S m))) w):=by
 obtain ⟨N',e,hm1,hm64,F,hR⟩:=ba hE
 obtain rfl : m=N':=by omega
 have HPos:=Z5 (λV (hV : Below w.heap.size w V)=>uo P M am mn cm mod m a n c L ra rn rc S V (hmod.ah hV) (hi.ah hV) (hS.ah hV) hE hok hlt)
 have HRest:=Z5 (λV (hV : Below w.heap.size w V)=>rM ra rn rc S m V (hS.ah hV) hm64)
 obtain ⟨D,hD⟩ : ∃D,fW (aa P M.toNat mod) m L (frTo false S m)=D:=⟨_,rfl⟩
 have HSup : Hid (∀V ao co,Below w.heap.size w V->Ints V ao (frTo false S m).length (frTo false S m)->Calls Tryz.prog 84 #[.agg #[.int .i64 P,.int .i64 M,.slice am mn cm],.agg #[.int .i64 m,.slice a n c],.slice ao (frTo false S m).length co] V λe w'=>∃a1 c1,e = .returned (.tuple #[.agg #[.int .i64 m,.slice a1 D.length c1],.int .i64 0])/\bN V.heap.size w' a1 D.length D/\Below V.heap.size V w'):=λV ao co hV hq=>by
  refine (uY P M am mn cm mod m a n c L ao _ co (frTo false S m) V (hmod.ah hV) (hi.ah hV) hq hE).mono ?_
  rintro e w' ⟨hb,⟨h1,_⟩ | ⟨_,a1,c1,rfl,hM⟩⟩
  ·rw [hok2] at h1;cases h1
  ·rw [hD] at hM ⊢
   exact ⟨a1,c1,rfl,hM,hb⟩
 rw [hD] at hE2 hf
 rw [hD]
 have HKp:=Z5 (λV a1 c1 (hV : Below w.heap.size w V) h1=>rH P M am mn cm mod m a1 D.length c1 D ra rn rc S V (hmod.ah hV) h1 (hS.ah hV) hE2 hq1 hf hmn)
 obtain ⟨LQ,hLQ⟩ : ∃LQ,D.map (aG (frTo false S m))=LQ:=⟨_,rfl⟩
 obtain ⟨Q,hQ⟩ : ∃Q,frTo false S m=Q:=⟨_,rfl⟩
 rw [hLQ,hQ] at HKp
 rw [hQ] at HSup HRest
 rw [hLQ,hQ]
 obtain ⟨mq,hmq⟩ : ∃mq,Q.length=mq:=⟨_,rfl⟩
 obtain ⟨nd,hnd⟩ : ∃nd,D.length=nd:=⟨_,rfl⟩
 unfold cC at HRest
 rw [hmq] at HKp HSup HRest
 rw [hnd] at HKp HSup
 rw [hmq]
 unfold fN at HKp
 obtain ⟨KM,hKM⟩ : ∃KM,dr (aa P M.toNat mod) LQ mq=KM:=⟨_,rfl⟩
 obtain ⟨q,hq⟩ : ∃q,KM.length=q:=⟨_,rfl⟩
 obtain ⟨nm,hnm⟩ : ∃nm,mod.length=nm:=⟨_,rfl⟩
 rw [hKM,hq,hnm] at HKp
 have HKM:=Z5 (And.intro hKM (And.intro hq hnm))
 clear hmod hi hS hE hok hlt hq1 hf hLQ hmq hKM hq hnm hQ hD hnd hE2 hok2 F hR e
 go_enter Tryz.func40,Tryz.ntmps40
 go_upto_region 1 with fail
 obtain ⟨W,hW⟩ : ∃W : World,W=(w.alloc (.cells #[.int .i64 P,.int .i64 M,.slice am mn cm,.int .i64 m,.slice a n c] 27)).alloc (.cells #[.int .i64 0,.int .i64 0,.slice none 0 0,.int .i64 0,.slice none 0 0] 27):=⟨_,rfl⟩
 rw [<- hW]
 have hbW : Below w.heap.size w W:=by rw [hW];exact dH _ _ _
 have hsW : W.heap.size=w.heap.size+2:=by rw [hW];simp
 have x0 : aV W w.heap.size [.int .i64 P,.int .i64 M,.slice am mn cm,.int .i64 m,.slice a n c]:=by rw [hW];exact (aV.new _ _ _ rfl).alloc _
 have z0 : aV W (w.heap.size+1) [.int .i64 0,.int .i64 0,.slice none 0 0,.int .i64 0,.slice none 0 0]:=by rw [hW];exact aV.new _ _ _ (by simp)
 clear hW
 have HS : Hid (∀V,Below W.heap.size W V->V.cell? ⟨w.heap.size,0,none⟩=some (.int .i64 P)/\V.cell? ⟨w.heap.size,1,none⟩=some (.int .i64 M)/\V.cell? ⟨w.heap.size,2,none⟩=some (.slice am mn cm)/\V.cell? ⟨w.heap.size,3,none⟩=some (.int .i64 m)/\V.cell? ⟨w.heap.size,4,none⟩=some (.slice a n c)):=λV hV=>by
  have x1:=x0.ah hV
  exact ⟨x1.cell 0 rfl,x1.cell 1 rfl,x1.cell 2 rfl,x1.cell 3 rfl,x1.cell 4 rfl⟩
 have HZ : Hid (∀V,Below W.heap.size W V->V.cell? ⟨w.heap.size+1,0,none⟩=some (.int .i64 0)/\V.cell? ⟨w.heap.size+1,1,none⟩=some (.int .i64 0)/\V.cell? ⟨w.heap.size+1,2,none⟩=some (.slice none 0 0)/\V.cell? ⟨w.heap.size+1,3,none⟩=some (.int .i64 0)/\V.cell? ⟨w.heap.size+1,4,none⟩=some (.slice none 0 0) /\
   V.frozen? ⟨w.heap.size+1,0,none⟩=false/\V.frozen? ⟨w.heap.size+1,1,none⟩=false/\V.frozen? ⟨w.heap.size+1,2,none⟩=false/\V.frozen? ⟨w.heap.size+1,3,none⟩=false/\V.frozen? ⟨w.heap.size+1,4,none⟩=false):=λV hV=>by
  have x1:=z0.ah hV
  exact ⟨x1.cell 0 rfl,x1.cell 1 rfl,x1.cell 2 rfl,x1.cell 3 rfl,x1.cell 4 rfl,x1.frozen 0,x1.frozen 1,x1.frozen 2,x1.frozen 3,x1.frozen 4⟩
 have HS5 : Hid (∀V,Below W.heap.size W V->V.cell? ⟨w.heap.size,0,none⟩=some (.int .i64 P)/\V.cell? ⟨w.heap.size,1,none⟩=some (.int .i64 M)/\V.cell? ⟨w.heap.size,2,none⟩=some (.slice am mn cm)/\V.cell? ⟨w.heap.size,3,none⟩=some (.int .i64 m)/\V.cell? ⟨w.heap.size,4,none⟩=some (.slice a n c)/\Below W.heap.size W V):=λV hV=>by
  obtain ⟨q0,q1,q2,q3,q4⟩:=HS.out V hV
  exact ⟨q0,q1,q2,q3,q4,hV⟩
 have HbW:=Z5 hbW
 have HsW:=Z5 hsW
 clear x0 z0 hbW hsW
 obtain ⟨c0,c1,c2,c3,c4⟩:=HS.out W (Below.refl _ _)
 go_wp2_with fail
 refine (HPos.out W HbW.out).mono ?_
 rintro e w1 ⟨rfl,hb1⟩
 clear c0 c1 c2 c3 c4 HPos
 obtain ⟨c0,c1,c2,c3,c4⟩:=HS.out w1 hb1
 go_upto_region 4 with fail
 go_cut [7,8] (λv7 v8 wx=>v8 = .int .i64 0/\∃g a1 k1,v7 = .pointer (some ⟨g,0,none⟩)/\wx.cell? ⟨g,0,none⟩=some (.int .i64 m)/\wx.cell? ⟨g,1,none⟩=some (.slice a1 nd k1)/\Hid (bZ wx a1 nd D)/\Below W.heap.size W wx)
 case first =>
  go_region_held3 (λV=>V.cell? ⟨w.heap.size,0,none⟩=some (.int .i64 P)/\V.cell? ⟨w.heap.size,1,none⟩=some (.int .i64 M)/\V.cell? ⟨w.heap.size,2,none⟩=some (.slice am mn cm)/\V.cell? ⟨w.heap.size,3,none⟩=some (.int .i64 m)/\V.cell? ⟨w.heap.size,4,none⟩=some (.slice a n c)/\Below W.heap.size W V)
   ((refine HS5.out _ ?_;first | exact hb1.drew | assumption | (go_split_ands;first | assumption | exact Below.next (by assumption) (an _ _) | exact (Below.next (by assumption) (an _ _)).drew | exact Below.next (by assumption) (by assumption) | exact Below.setCell (Below.setCell (by assumption) (by first | exact hB3.size | exact hB2.size | exact hb1.size | exact hB5.size) _) (by first | exact hB3.size | exact hB2.size | exact hb1.size | exact hB5.size) _)))
   (first
    | (go_at_call 83;((with_reducible refine (uC P M am mn cm m a n c _).mono ?_);rintro e w2 ⟨rfl,hb2⟩;have hB2 : Below W.heap.size W w2:=(by go_split_ands;exact Below.next (by assumption) hb2);(first | (have HB2:=Z5 (ud hb2)) | (have HB2:=Z5 (qD hb2)) | skip)))
    | (go_at_call 85;((with_reducible refine (HRest.out _ (Below.next HbW.out (by go_split_ands;assumption))).mono ?_);rintro e w3 ⟨a3,k3,rfl,hI3,hb3⟩;have hB3 : Below W.heap.size W w3:=(by go_split_ands;exact Below.next (by assumption) hb3);have HI3:=Z5 (Ints.own hI3).1;clear hI3;(first | (have HB3:=Z5 (ud hb3)) | (have HB3:=Z5 (qD hb3)) | (have HB3:=Z5 (HB2.out.ah hb3)) | skip)))
    | (go_at_call 84;((with_reducible refine (HSup.out _ a3 k3 (Below.next HbW.out (by go_split_ands;assumption)) (by first | exact HI3.out | exact HI3.out.ah (an _ _) | exact HI3.out.ah (an _ _).drew)).mono ?_);rintro e w5 ⟨a5,k5,rfl,hM5,hb5⟩;have hB5 : Below W.heap.size W w5:=(by go_split_ands;exact Below.next (by assumption) hb5);have HM5:=Z5 hM5;clear hM5;(first | (have HB5:=Z5 (ud hb5)) | (have HB5:=Z5 (qD hb5)) | (have HB5:=Z5 (HB3.out.ah hb5)) | skip);(first | (have z0:=HB5.out.cell 0 rfl;have z1:=HB5.out.cell 1 rfl;have f0:=HB5.out.frozen 0;have f1:=HB5.out.frozen 1) | skip))))
  all_goals (
   go_wp2_with fail
   go_meet
   first
    | exact ⟨rfl,_,a5,k5,rfl,((HB5.out.gk 0 (.int .i64 m)).gk 1 (.slice a5 nd k5)).cell 0 rfl,((HB5.out.gk 0 (.int .i64 m)).gk 1 (.slice a5 nd k5)).cell 1 rfl,((HM5.out.setCell (by first | exact HB3.out.1 | simp) _).setCell (by first | exact HB3.out.1 | simp) _).kK,by go_split_ands;assumption⟩
    | exact ⟨rfl,_,a5,k5,rfl,(aV.new w5 [.int .i64 m,.slice a5 nd k5] _ rfl).cell 0 rfl,(aV.new w5 [.int .i64 m,.slice a5 nd k5] _ rfl).cell 1 rfl,HM5.out.kK.ah (an _ _),by go_split_ands;assumption⟩)
 obtain ⟨rfl,g,a5,k5,rfl,g0,g1,hMD,hbV⟩:=hcut
 generalize wc=V at *
 clear c0 c1 c2 c3 c4
 obtain ⟨c0,c1,c2,c3,c4⟩:=HS.out V hbV
 have Hkp:=Z5 (HKp.out V a5 k5 (Below.next HbW.out hbV) hMD.out)
 have hsV:=hbV.size
 go_wp2_with fail
 refine Hkp.out.mono ?_
 rintro e w6 ⟨a6,k6,a7,k7,rfl,h6,h7,hb6⟩
 have hb6W:=Below.next hbV hb6
 obtain ⟨z0,z1,z2,z3,z4,f0,f1,f2,f3,f4⟩:=HZ.out w6 hb6W
 have hFin:=te (P:=P) (M:=M) (LQ:=LQ) (w:=w) (g:=w.heap.size+1) (k6:=k6) (k7:=k7) (by omega) (by have:=HsW.out;omega) (Below.next HbW.out hb6W) h6 h7 HKM.out.1 HKM.out.2.1 HKM.out.2.2
 have HFin:=Z5 hFin
 clear hFin h6 h7 c0 c1 c2 c3 c4 g0 g1
 go_wp2_with fail
 exact bodyPost_ret (v:=.tuple #[.agg #[.int .i64 P,.int .i64 M,.slice a6 nm k6,.int .i64 mq,.slice a7 q k7],.int .i64 0]) (by simp [results,Tryz.results40,go_sem,z0,z1,z2,z3,z4]) rfl HFin.out
theorem th {m i : Nat} (hi : i<m) : bF m [(i : Int)]=true:=by
 unfold bF
 refine uD _ λk hk=>?_
 simp at hk
 subst hk
 unfold dS
 simp [nth]
 omega
theorem tB {w4 : World} {P M z : Int} {a1 a2 : OA} {n1 k1 n2 k2 B : Nat} {mod : Lz} {D : Ll} (h1 : dj B w4 a1 n1 mod) (h2 : bN B w4 a2 n2 D) {U : World} (hU : w4.alloc (.cells #[.int .i64 P,.int .i64 M,.slice a1 n1 k1,.int .i64 z,.slice a2 n2 k2] 27)=U) :
  Below w4.heap.size w4 U/\∀V,Below U.heap.size U V->(V.cell? ⟨w4.heap.size,0,none⟩=some (.int .i64 P)/\V.cell? ⟨w4.heap.size,1,none⟩=some (.int .i64 M)/\V.cell? ⟨w4.heap.size,2,none⟩=some (.slice a1 n1 k1)/\V.cell? ⟨w4.heap.size,3,none⟩=some (.int .i64 z)/\V.cell? ⟨w4.heap.size,4,none⟩=some (.slice a2 n2 k2))/\Ints V a1 n1 mod/\bZ V a2 n2 D:=by
 have t4 : Below w4.heap.size w4 U:=by rw [<- hU];exact an _ _
 have y4 : aV U w4.heap.size [.int .i64 P,.int .i64 M,.slice a1 n1 k1,.int .i64 z,.slice a2 n2 k2]:=by rw [<- hU];exact aV.new _ _ _ rfl
 refine ⟨t4,λV hV=>?_⟩
 have y:=y4.ah hV
 exact ⟨⟨y.cell 0 rfl,y.cell 1 rfl,y.cell 2 rfl,y.cell 3 rfl,y.cell 4 rfl⟩,(h1.ints.ah t4).ah hV,(h2.kK.ah t4).ah hV⟩
theorem Al (P M : Int) (am : OA) (mn cm : Nat) (mod : Lz) (N : Int) (a : OA) (n c : Nat) (L : Ll) (x : Nat) (hx : x<256) (w : World) (hmod : Ints w am mn mod) (hi : bZ w a n L) :
  Calls Tryz.prog 10 #[.agg #[.int .i64 P,.int .i64 M,.slice am mn cm,.int .i64 N,.slice a n c],.int .u8 x] w λe w'=>e = .returned (.bool true)/\Below w.heap.size w w':=by
 have hn : L.length=n:=hi.len
 obtain ⟨ce,hce⟩ : ∃ce,aL P M mod N L=ce:=⟨_,rfl⟩
 have HSm:=Z5 (λV (hV : Below w.heap.size w V)=>mf P M am mn cm mod N a n c L V (hmod.ah hV) (hi.ah hV))
 have HCn : Hid (∀V,Below w.heap.size w V->Calls Tryz.prog 21 #[.agg #[.int .i64 P,.int .i64 M,.slice am mn cm,.int .i64 N,.slice a n c],.int .i64 500] V λe w'=>e = .returned (.int .i64 (nT 500 P M mod N L))/\Below V.heap.size V w'):=λV hV=>kg 500 P M am mn cm mod N a n c L V (hmod.ah hV) (hi.ah hV)
 rw [hce] at HSm
 have Hce:=Z5 hce
 have Hmi:=Z5 (And.intro hmod hi)
 have Hn:=Z5 hn
 have Hcn:=Z5 (GO (lim:=500) (P:=P) (M:=M) (mod:=mod) (N:=N) (L:=L))
 obtain ⟨cn,hcn⟩ : ∃cn,nT 500 P M mod N L=cn:=⟨_,rfl⟩
 rw [hcn] at HCn Hcn
 clear hmod hi hn hcn hce
 go_enter Tryz.func10,Tryz.ntmps10
 go_upto_region 1 with fail
 obtain ⟨W,hW⟩ : ∃W : World,W=w.alloc (.cells #[.int .i64 P,.int .i64 M,.slice am mn cm,.int .i64 N,.slice a n c] 27):=⟨_,rfl⟩
 rw [<- hW]
 have hbW : Below w.heap.size w W:=by rw [hW];exact an _ _
 have x0 : aV W w.heap.size [.int .i64 P,.int .i64 M,.slice am mn cm,.int .i64 N,.slice a n c]:=by rw [hW];exact aV.new _ _ _ rfl
 have HS : Hid (∀V,Below W.heap.size W V->V.cell? ⟨w.heap.size,0,none⟩=some (.int .i64 P)/\V.cell? ⟨w.heap.size,1,none⟩=some (.int .i64 M)/\V.cell? ⟨w.heap.size,2,none⟩=some (.slice am mn cm)/\V.cell? ⟨w.heap.size,3,none⟩=some (.int .i64 N)/\V.cell? ⟨w.heap.size,4,none⟩=some (.slice a n c)):=λV hV=>by
  have x1:=x0.ah hV
  exact ⟨x1.cell 0 rfl,x1.cell 1 rfl,x1.cell 2 rfl,x1.cell 3 rfl,x1.cell 4 rfl⟩
 have HbW:=Z5 hbW
 clear hW x0 hbW
 go_cut [41] (λv wx=>Jz (cn ≠ 0/\n ≠ 0/\2<=N/\(ce=0->N<=14)) v/\Below W.heap.size W wx)
 case first =>
  go_wp2_with fail
  refine (ky W).mono ?_
  rintro e w1 ⟨rfl,hb1⟩
  obtain ⟨c0,c1,c2,c3,c4⟩:=HS.out w1 hb1
  go_wp2_with fail
  refine (HSm.out w1 (Below.next HbW.out hb1)).mono ?_
  rintro e w2 ⟨z,rfl,hsm,hb2⟩
  have Hsm:=Z5 hsm
  clear hsm
  have hB2:=Below.next hb1 hb2
  clear c0 c1 c2 c3 c4
  cases z
  ·go_wp2_with fail
   go_meet
   exact ⟨⟨true,rfl,λh=>by cases h⟩,hB2⟩
  obtain ⟨c0,c1,c2,c3,c4⟩:=HS.out w2 hB2
  go_wp2_with fail
  refine (HCn.out w2 (Below.next HbW.out hB2)).mono ?_
  rintro e w3 ⟨rfl,hb3⟩
  have hB3:=Below.next hB2 hb3
  clear c0 c1 c2 c3 c4
  by_cases h0 : cn=0
  ·have d0 : (cn == 0)=true:=by simpa using h0
   clear h0
   go_wp2_with fail
   go_meet
   exact ⟨⟨true,rfl,λh=>by cases h⟩,hB3⟩
  have d0 : (cn == 0)=false:=by simpa using h0
  have Hc0:=Z5 h0
  clear h0
  obtain ⟨c0,c1,c2,c3,c4⟩:=HS.out w3 hB3
  by_cases h4 : n=0
  ·have d4 : ((n : Int) == 0)=true:=by simp;omega
   clear h4
   go_wp2_with fail
   go_meet
   exact ⟨⟨true,rfl,λh=>by cases h⟩,hB3⟩
  have d4 : ((n : Int) == 0)=false:=by simp;omega
  have Hn0:=Z5 h4
  clear h4
  by_cases h5 : N<2
  ·have d5 : decide (N<2)=true:=by simpa using h5
   clear h5
   go_wp2_with fail
   go_meet
   exact ⟨⟨true,rfl,λh=>by cases h⟩,hB3⟩
  have d5 : decide (N<2)=false:=by simpa using h5
  have H5:=Z5 h5
  clear h5
  go_wp2_with fail
  go_meet
  exact ⟨⟨false,rfl,λ_=>⟨Hc0.out,Hn0.out,by have:=H5.out;omega,by first | exact Hsm.out trivial | exact Hsm.out rfl | exact Hsm.out⟩⟩,hB3⟩
 obtain ⟨⟨z,rfl,hz⟩,hB⟩:=hcut
 generalize wc=Y at *
 cases z
 rotate_left
 ·clear hz
  go_wp2_with fail
  refine (ky Y).mono ?_
  rintro e w3 ⟨rfl,hb3⟩
  have hF:=Below.next HbW.out (Below.next hB hb3)
  go_wp2_with fail
  go_ret
  exact ⟨rfl,hF⟩
 obtain ⟨h0,hn0,hN2,hN14⟩:=hz rfl
 obtain ⟨hE,hlim,-⟩:=Hcn.out h0
 have hN14:=hN14 (by rw [<- Hce.out];exact hE)
 obtain ⟨m,rfl,hm1,hm64,F,hR⟩:=ba hE
 have hk1 : 1<=L.length:=by have:=Hn.out;omega
 have hm2 : 2<=m:=by omega
 have hm14 : m<=14:=by omega
 have hmn : mn<=1000000:=by have h:=GX (bh hE).1;rw [Hmi.out.1.len] at h;omega
 obtain ⟨i,hi⟩ : ∃i,x % m=i:=⟨_,rfl⟩
 have him : i<m:=by rw [<- hi];exact Nat.mod_lt _ (by omega)
 have htm : ((x : Int)).tmod (m : Int)=(i : Int):=by rw [<- hi];rfl
 obtain ⟨o,b,hr,hbm,hp1,hp2,hp3⟩:=Ih hE hk1 hm2 hm14 (by omega) him
 have hQl:=qh him
 have HPu:=Z5 (λV ra (hV : Below w.heap.size w V) (hS : Ints V ra 1 [(i : Int)])=>xo P M am mn cm mod m a n c L ra 1 1 [(i : Int)] V (Hmi.out.1.ah hV) (Hmi.out.2.ah hV) hS hE (th him) (by omega) (by rw [hQl];omega) (wa hE i) hmn)
 obtain ⟨hE2,hl2⟩:=tO hE (frTo false [(i : Int)] m)
 have HSh:=Z5 (λV ra (hV : Below w.heap.size w V) (hS : Ints V ra 1 [(i : Int)])=>xR P M am mn cm mod m a n c L ra 1 1 [(i : Int)] V (Hmi.out.1.ah hV) (Hmi.out.2.ah hV) hS hE (th him) (by omega) (by rw [hQl];omega) hE2 (AV _ _ _) (wa hE2 i) hmn)
 have HEx:=Z5 (λV (hV : Below w.heap.size w V)=>Bj P M am mn cm mod m a n c L V (Hmi.out.1.ah hV) (Hmi.out.2.ah hV) hE (by omega) hmn)
 have H1:=Z5 (λV (hV : Below w.heap.size w V)=>gE P M am mn cm mod m a n c L V (Hmi.out.1.ah hV) (Hmi.out.2.ah hV))
 have HD : Hid (∀V z a1 n1 k1 a2 n2 k2 D,Ints V a1 n1 mod->bZ V a2 n2 D->Calls Tryz.prog 16 #[.agg #[.int .i64 P,.int .i64 M,.slice a1 n1 k1,.int .i64 z,.slice a2 n2 k2]] V λe w'=>e = .returned (.tuple #[.int .i64 (bw (dq P M mod z D).2.1 : Nat),.int .i64 (dq P M mod z D).2.2])/\Below V.heap.size V w'):=λV z a1 n1 k1 a2 n2 k2 D h1 h2=>gE P M a1 n1 k1 mod z a2 n2 k2 D V h1 h2
 rw [hr] at H1
 dsimp only at H1
 unfold fN at HPu HSh HEx
 rw [hQl] at HPu HSh
 obtain ⟨RP,hRP⟩ : ∃R,dr (aa P M.toNat mod) (L.map (aG (frTo false [(i : Int)] m))) (m - 1)=R:=⟨_,rfl⟩
 obtain ⟨RS',hRS⟩ : ∃R,dr (aa P M.toNat mod) ((fW (aa P M.toNat mod) m L (frTo false [(i : Int)] m)).map (aG (frTo false [(i : Int)] m))) (m - 1)=R:=⟨_,rfl⟩
 rw [hRP] at HPu hp1
 rw [hRS] at HSh hp2
 obtain ⟨d,hd⟩ : ∃d,bw b=d:=⟨_,rfl⟩
 simp only [hd] at H1 hp1 hp2 hp3
 have hdm : d<=64:=by omega
 have Hp1:=Z5 hp1
 have Hp2:=Z5 hp2
 have Hp3:=Z5 hp3
 obtain ⟨m1,hm1'⟩ : ∃m1,m - 1=m1:=⟨_,rfl⟩
 rw [hm1'] at HPu HSh Hp1 Hp2
 obtain ⟨np,hnp⟩ : ∃np,RP.length=np:=⟨_,rfl⟩
 obtain ⟨ns,hns⟩ : ∃ns,RS'.length=ns:=⟨_,rfl⟩
 rw [hnp] at HPu Hp1
 rw [hns] at HSh Hp2
 obtain ⟨nm,hnm⟩ : ∃nm,mod.length=nm:=⟨_,rfl⟩
 rw [hnm] at HPu HSh HEx
 clear h0 hn0 hN2 hlim hz F hR hk1 hi hE hE2 hl2 hr hp1 hp2 hp3 hQl hRP hRS hd hm1' hnp hns hnm Hcn HSm Hce
 obtain ⟨c0,c1,c2,c3,c4⟩:=HS.out Y hB
 have hxm : (m : Int) ≠ 0:=by omega
 obtain ⟨Y0,hY0⟩ : ∃Y0,Y.alloc (.cells #[.int .i64 (i : Int)] 3)=Y0:=⟨_,rfl⟩
 have hbY0 : Below Y.heap.size Y Y0:=by rw [<- hY0];exact an _ _
 have hS0 : Ints Y0 (some ⟨Y.heap.size,0,none⟩) 1 [(i : Int)]:=by
  have h:=DF Y (i : Int) 3 (g:=Y.heap.size) rfl
  rw [hY0] at h;exact h
 have hB0:=Below.next hB hbY0
 obtain ⟨s0,hs0⟩ : ∃s0,(some ⟨Y.heap.size,0,none⟩ : OA)=s0:=⟨_,rfl⟩
 have HS0:=Z5 hS0
 have HY0:=Z5 hY0
 obtain ⟨d0,d1,d2,d3,d4⟩:=HS.out Y0 hB0
 rw [<- hY0] at d0 d1 d2 d3 d4
 clear hS0 hY0 hs0
 go_wp2_with fail
 rw [HY0.out]
 clear c0 c1 c2 c3 c4 d0 d1 d2 d3 d4
 refine (H1.out Y0 (Below.next HbW.out hB0)).mono ?_
 rintro e w3 ⟨rfl,hb3⟩
 have hB3:=Below.next hB0 hb3
 obtain ⟨c0,c1,c2,c3,c4⟩:=HS.out w3 hB3
 go_wp2_with fail
 refine (HPu.out w3 _ (Below.next HbW.out hB3) (HS0.out.ah hb3)).mono ?_
 rintro e w4 ⟨a1,k1,a2,k2,rfl,h1,h2,hb4⟩
 obtain ⟨U4,hU4⟩ : ∃U4,w4.alloc (.cells #[.int .i64 P,.int .i64 M,.slice a1 nm k1,.int .i64 m1,.slice a2 np k2] 27)=U4:=⟨_,rfl⟩
 obtain ⟨t4,hP4⟩:=tB h1 h2 hU4
 have H4':=Z5 hP4
 have hB4:=Below.next hB3 (Below.next hb4 t4)
 have HS4:=Z5 (HS0.out.ah (Below.next hb3 (Below.next hb4 t4)))
 clear c0 c1 c2 c3 c4
 obtain ⟨c0,c1,c2,c3,c4⟩:=HS.out U4 hB4
 rw [<- hU4] at c0 c1 c2 c3 c4
 have HU4:=Z5 hU4
 clear h1 h2 hU4 hP4
 go_wp2_with fail
 rw [HU4.out]
 clear c0 c1 c2 c3 c4
 refine (HSh.out U4 _ (Below.next HbW.out hB4) HS4.out).mono ?_
 rintro e w5 ⟨b1,l1,b2,l2,rfl,h1,h2,hb5⟩
 obtain ⟨U5,hU5⟩ : ∃U5,w5.alloc (.cells #[.int .i64 P,.int .i64 M,.slice b1 nm l1,.int .i64 m1,.slice b2 ns l2] 27)=U5:=⟨_,rfl⟩
 obtain ⟨t5,hP5⟩:=tB h1 h2 hU5
 have H5':=Z5 hP5
 have hB5:=Below.next hB4 (Below.next hb5 t5)
 obtain ⟨c0,c1,c2,c3,c4⟩:=HS.out U5 hB5
 rw [<- hU5] at c0 c1 c2 c3 c4
 have HU5:=Z5 hU5
 clear h1 h2 hU5 hP5
 go_wp2_with fail
 rw [HU5.out]
 clear c0 c1 c2 c3 c4
 refine (HEx.out U5 (Below.next HbW.out hB5)).mono ?_
 rintro e w6 ⟨E,hX,e1',n1',e2',n2',rfl,h1,h2,hb6⟩
 obtain ⟨o2,bx,hr2,r1,r2⟩:=Hp3.out E hX
 obtain ⟨RE,hRE⟩ : ∃RE,dr (aa P M.toNat mod) E (m+1)=RE:=⟨_,rfl⟩
 rw [hRE] at h2 hr2 ⊢
 obtain ⟨ne,hne⟩ : ∃ne,RE.length=ne:=⟨_,rfl⟩
 rw [hne] at h2 ⊢
 rw [show ((m+1 : Nat) : Int)=(m : Int)+1 by omega] at hr2 ⊢
 obtain ⟨u,hu⟩ : ∃u,bw bx=u:=⟨_,rfl⟩
 rw [hu] at r1 r2
 obtain ⟨U6,hU6⟩ : ∃U6,w6.alloc (.cells #[.int .i64 P,.int .i64 M,.slice e1' nm n1',.int .i64 ((m : Int)+1),.slice e2' ne n2'] 27)=U6:=⟨_,rfl⟩
 obtain ⟨t6,hP6⟩:=tB h1 h2 hU6
 have hB6:=Below.next hB5 (Below.next hb6 t6)
 obtain ⟨⟨c0,c1,c2,c3,c4⟩,i6,m6⟩:=hP6 U6 (Below.refl _ _)
 have hcall:=HD.out U6 ((m : Int)+1) e1' nm n1' e2' ne n2' RE i6 m6
 rw [hr2] at hcall
 dsimp only at hcall
 rw [hu] at hcall
 rw [<- hU6] at c0 c1 c2 c3 c4
 have HU6:=Z5 hU6
 have Hc6:=Z5 hcall
 clear h1 h2 hU6 hP6 hcall i6 m6 hr2 hRE hne hu hX
 go_wp2_with fail
 rw [HU6.out]
 clear c0 c1 c2 c3 c4
 refine Hc6.out.mono ?_
 rintro e w7 ⟨rfl,hb7⟩
 have hB7:=Below.next hB6 hb7
 have f1 : decide ((u : Int)<(d : Int))=false:=by simp;omega
 have f2 : decide (u<d)=false:=by simp;omega
 have f3 : decide ((d : Int)+1<(u : Int))=false:=by simp;omega
 have f4 : decide (d+1<u)=false:=by simp;omega
 obtain ⟨⟨p0,p1,p2,p3,p4⟩,i4,m4⟩:=H4'.out w7 (Below.next (Below.next hb5 t5) (Below.next (Below.next hb6 t6) hb7))
 have Hr:=Z5 (And.intro r1 r2)
 clear r1 r2
 by_cases hp0 : np=0
 ·have e1 : decide ((0 : Int)<(np : Int))=false:=by simp;omega
  have e2 : decide (0<np)=false:=by simp;omega
  clear hp0 i4 m4
  obtain ⟨⟨g0,g1,g2,g3,g4⟩,i5,m5⟩:=H5'.out w7 (Below.next (Below.next hb6 t6) hb7)
  by_cases hs0 : ns=0
  ·have e1 : decide ((0 : Int)<(ns : Int))=false:=by simp;omega
   have e2 : decide (0<ns)=false:=by simp;omega
   have hF:=Below.next HbW.out hB7
   clear hs0 i5 m5
   go_wp2_with fail
   go_ret
   exact ⟨rfl,hF⟩
  ·have e1 : decide ((0 : Int)<(ns : Int))=true:=by simp;omega
   have e2 : decide (0<ns)=true:=by simp;omega
   obtain ⟨o3,b3,hr3,r1⟩:=Hp2.out (by omega)
   have hcall:=HD.out w7 m1 b1 nm l1 b2 ns l2 RS' i5 m5
   rw [hr3] at hcall
   dsimp only at hcall
   obtain ⟨y,hy⟩ : ∃y,bw b3=y:=⟨_,rfl⟩
   rw [hy] at hcall r1
   have Hcall:=Z5 hcall
   have d1 : decide ((y : Int)<(d : Int))=false:=by simp;omega
   have d2 : decide (y<d)=false:=by simp;omega
   clear hcall hr3 hy i5 m5 hs0
   go_wp2_with fail
   refine Hcall.out.mono ?_
   rintro e w9 ⟨rfl,hb9⟩
   have hF:=Below.next HbW.out (Below.next hB7 hb9)
   go_wp2_with fail
   go_ret
   exact ⟨rfl,hF⟩
 ·have e1 : decide ((0 : Int)<(np : Int))=true:=by simp;omega
  have e2 : decide (0<np)=true:=by simp;omega
  obtain ⟨o3,b3,hr3,r1⟩:=Hp1.out (by omega)
  have hcall:=HD.out w7 m1 a1 nm k1 a2 np k2 RP i4 m4
  rw [hr3] at hcall
  dsimp only at hcall
  obtain ⟨v,hv⟩ : ∃v,bw b3=v:=⟨_,rfl⟩
  rw [hv] at hcall r1
  have Hcall:=Z5 hcall
  have d1 : decide ((v : Int)<(d : Int) - 1)=false:=by simp;omega
  clear hcall hr3 hv i4 m4 hp0
  go_wp2_with fail
  refine Hcall.out.mono ?_
  rintro e w8 ⟨rfl,hb8⟩
  have hB8:=Below.next hB7 hb8
  clear p0 p1 p2 p3 p4 Hcall e1 e2
  obtain ⟨⟨g0,g1,g2,g3,g4⟩,i5,m5⟩:=H5'.out w8 (Below.next (Below.next (Below.next hb6 t6) hb7) hb8)
  by_cases hs0 : ns=0
  ·have e1 : decide ((0 : Int)<(ns : Int))=false:=by simp;omega
   have e2 : decide (0<ns)=false:=by simp;omega
   have hF:=Below.next HbW.out hB8
   clear hs0 i5 m5
   go_wp2_with fail
   go_ret
   exact ⟨rfl,hF⟩
  ·have e1 : decide ((0 : Int)<(ns : Int))=true:=by simp;omega
   have e2 : decide (0<ns)=true:=by simp;omega
   obtain ⟨o3,b3,hr3,r1⟩:=Hp2.out (by omega)
   have hcall:=HD.out w8 m1 b1 nm l1 b2 ns l2 RS' i5 m5
   rw [hr3] at hcall
   dsimp only at hcall
   obtain ⟨y,hy⟩ : ∃y,bw b3=y:=⟨_,rfl⟩
   rw [hy] at hcall r1
   have Hcall:=Z5 hcall
   have d1 : decide ((y : Int)<(d : Int))=false:=by simp;omega
   have d2 : decide (y<d)=false:=by simp;omega
   clear hcall hr3 hy i5 m5 hs0
   go_wp2_with fail
   refine Hcall.out.mono ?_
   rintro e w9 ⟨rfl,hb9⟩
   have hF:=Below.next HbW.out (Below.next hB8 hb9)
   go_wp2_with fail
   go_ret
   exact ⟨rfl,hF⟩
theorem DP (P M : Int) (am : OA) (mn cm : Nat) (mod : Lz) (N : Int) (a : OA) (n c : Nat) (L : Ll) (z : Int) (w : World)
  (hmod : Ints w am mn mod) (hi : bZ w a n L) (hz : 0<=z/\z<=255) :
  Calls Tryz.prog 10 #[.agg #[.int .i64 P,.int .i64 M,.slice am mn cm,.int .i64 N,.slice a n c],.int .u8 z] w λe w'=>e = .returned (.bool true)/\Below w.heap.size w w':=by
 obtain ⟨x,rfl⟩ : ∃x : Nat,z=x:=⟨z.toNat,by omega⟩
 exact Al P M am mn cm mod N a n c L x (by omega) w hmod hi
end Go.Proofs.YtcfmiocdlcapoaaGreat
