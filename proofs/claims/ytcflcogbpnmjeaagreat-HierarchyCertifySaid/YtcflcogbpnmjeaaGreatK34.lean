/-  -/
import Derived.Test.YtcflcogbpnmjeaaGreatK33
import Derived.Test.YtcflcogbpnmjeaaGreatK30
import Derived.Test.YtcflcogbpnmjeaaGreatK31
namespace Go.Proofs.YtcflcogbpnmjeaaGreat
set_option linter.unusedVariables false
set_option linter.unusedSimpArgs false
set_option linter.unusedSectionVars false

section
open Go.RowKit
def OkInts (n : Nat) (l : List Int) (w : World) (e : Ending) (w' : World) : Prop:=Below w.heap.size w w'∧∃ a c,e = .returned (.tuple #[.slice a n c,.int .i64 0])∧Ints w' a n l
theorem one4 (V : World) (x1 x2 x3 x4 : Int) : Mat (((((V.alloc (.cells #[.int .i64 x1] 3)).alloc (.cells #[.int .i64 x2] 3)).alloc (.cells #[.int .i64 x3] 3)).alloc (.cells #[.int .i64 x4] 3)).alloc
  (.cells #[.slice (some ⟨V.heap.size,0,none⟩) 1 1,.slice (some ⟨V.heap.size+1,0,none⟩) 1 1,.slice (some ⟨V.heap.size+1+1,0,none⟩) 1 1,.slice (some ⟨V.heap.size+1+1+1,0,none⟩) 1 1] 22)) (some ⟨V.heap.size+1+1+1+1,0,none⟩) 4 [[x1],[x2],[x3],[x4]]:=by
 have i1:=lits V [x1] #[.int .i64 x1] rfl (by simp) rfl
 have i2:=lits (V.alloc (.cells #[.int .i64 x1] 3)) [x2] #[.int .i64 x2] rfl (by simp) (g:=V.heap.size+1) (by simp)
 have i3:=lits ((V.alloc (.cells #[.int .i64 x1] 3)).alloc (.cells #[.int .i64 x2] 3)) [x3] #[.int .i64 x3] rfl (by simp) (g:=V.heap.size+1+1) (by simp)
 have i4:=lits (((V.alloc (.cells #[.int .i64 x1] 3)).alloc (.cells #[.int .i64 x2] 3)).alloc (.cells #[.int .i64 x3] 3)) [x4] #[.int .i64 x4] rfl (by simp) (g:=V.heap.size+1+1+1) (by simp)
 generalize hU : (((V.alloc (.cells #[.int .i64 x1] 3)).alloc (.cells #[.int .i64 x2] 3)).alloc (.cells #[.int .i64 x3] 3)).alloc (.cells #[.int .i64 x4] 3)=U at i4 ⊢
 have k1 : Ints U (some ⟨V.heap.size,0,none⟩) 1 [x1]:=by rw [← hU];exact ((i1.keep (below1 _ _)).keep (below1 _ _)).keep (below1 _ _)
 have k2 : Ints U (some ⟨V.heap.size+1,0,none⟩) 1 [x2]:=by rw [← hU];exact (i2.keep (below1 _ _)).keep (below1 _ _)
 have k3 : Ints U (some ⟨V.heap.size+1+1,0,none⟩) 1 [x3]:=by rw [← hU];exact i3.keep (below1 _ _)
 have hs : U.heap.size=V.heap.size+1+1+1+1:=by rw [← hU];simp
 refine ⟨rfl,fun _=>rfl,by unfold maxLen;omega,fun k hk=>?_⟩
 have h:=cell_alloc_at U #[.slice (some ⟨V.heap.size,0,none⟩) 1 1,.slice (some ⟨V.heap.size+1,0,none⟩) 1 1,.slice (some ⟨V.heap.size+1+1,0,none⟩) 1 1,.slice (some ⟨V.heap.size+1+1+1,0,none⟩) 1 1] 22 hs.symm k
 match k,hk with
 | 0,_=>exact ⟨_,1,1,h,k1.keep (below1 _ _)⟩
 | 1,_=>exact ⟨_,1,1,h,k2.keep (below1 _ _)⟩
 | 2,_=>exact ⟨_,1,1,h,k3.keep (below1 _ _)⟩
 | 3,_=>exact ⟨_,1,1,h,i4.keep (below1 _ _)⟩
theorem aw29_Witness {V : World} {gm : Nat} (hM : Mat V (some ⟨gm,0,none⟩) 2 awG26) : Calls Tryz.prog 33 #[.agg #[.int .i64 2,.int .i64 1,.slice none 0 0,.int .i64 4,.slice (some ⟨gm,0,none⟩) 2 2],.int .i64 1] V (OkInts 2 [0,2] V):=by
 refine (witnessF_any 2 1 none 0 0 [] 4 (some ⟨gm,0,none⟩) 2 2 awG26 1 V (Ints.nil _ _) hM).mono ?_
 rintro e w' ⟨b,⟨h0,_⟩ | ⟨_,a,c,rfl,h⟩⟩
 ·exact absurd aw29_we h0
 ·have hw : witS (tblOf 2 (1 : Int).toNat []).ops (4 : Int).toNat awG26 1=[0,2]:=aw29_w
  rw [hw] at h
  exact ⟨b,a,c,by rw [hw];rfl,(Ints.own h).1⟩
theorem aw29_Weights {V : World} {gm : Nat} (hM : Mat V (some ⟨gm,0,none⟩) 2 awG26) : Calls Tryz.prog 28 #[.agg #[.int .i64 2,.int .i64 1,.slice none 0 0,.int .i64 4,.slice (some ⟨gm,0,none⟩) 2 2]] V (OkInts 2 [2,4] V):=by
 refine (weights_any 2 1 none 0 0 [] 4 (some ⟨gm,0,none⟩) 2 2 awG26 V (Ints.nil _ _) hM).mono ?_
 rintro e w' ⟨b,⟨h0,_⟩ | ⟨_,a,c,rfl,h⟩⟩
 ·exact absurd aw29_de h0
 ·have hw : wtsS (tblOf 2 (1 : Int).toNat []).ops (4 : Int).toNat awG26=[2,4]:=aw29_ws
  rw [hw] at h
  exact ⟨b,a,c,rfl,(Ints.own h).1⟩
theorem aw29_Profile {V : World} {gm : Nat} (hM : Mat V (some ⟨gm,0,none⟩) 2 awG26) : Calls Tryz.prog 30 #[.agg #[.int .i64 2,.int .i64 1,.slice none 0 0,.int .i64 4,.slice (some ⟨gm,0,none⟩) 2 2]] V (OkInts 5 [0,0,1,1,2] V):=by
 refine (profile_any 2 1 none 0 0 [] 4 (some ⟨gm,0,none⟩) 2 2 awG26 V (Ints.nil _ _) hM).mono ?_
 rintro e w' ⟨b,⟨h0,_⟩ | ⟨_,a,c,rfl,h⟩⟩
 ·exact absurd aw29_de h0
 ·have hw : profS (dimsS (tblOf 2 (1 : Int).toNat []).ops (4 : Int).toNat awG26) (4 : Int).toNat=[0,0,1,1,2]:=aw29_p
  rw [hw] at h
  exact ⟨b,a,c,rfl,(Ints.own h).1⟩
theorem aw29_Duality {V : World} {p : Option Addr} (hM : Ints V p 2 [2,4]) : Calls Tryz.prog 38 #[.slice p 2 2,.int .i64 4] V (OkInts 2 [2,4] V):=by
 refine (duality_any p 2 2 [2,4] 4 V hM).mono ?_
 rintro e w' ⟨b,⟨h0,_⟩ | ⟨_,a,c,rfl,h⟩⟩
 ·exact absurd aw29_ue h0
 ·have hw : duaS [2,4] (4 : Int).toNat=[2,4]:=aw29_u
  rw [hw] at h
  exact ⟨b,a,c,by rw [hw];rfl,(Ints.own h).1⟩
theorem aw29_Supported {V : World} {gm : Nat} {p : Option Addr} (hM : Mat V (some ⟨gm,0,none⟩) 2 awG26) (hs : Ints V p 3 [0,2,3]) : Calls Tryz.prog 35 #[.agg #[.int .i64 2,.int .i64 1,.slice none 0 0,.int .i64 4,.slice (some ⟨gm,0,none⟩) 2 2],.slice p 3 3] V
  fun e w'=>Below V.heap.size V w'∧∃ a1 c1 a2 c2,e = .returned (.tuple #[.agg #[.int .i64 2,.int .i64 1,.slice a1 0 c1,.int .i64 4,.slice a2 1 c2],.int .i64 0])∧Mat w' a2 1 [[1,0,1,0]]:=by
 refine (hSupported_any 2 1 none 0 0 [] 4 (some ⟨gm,0,none⟩) 2 2 awG26 p 3 3 [0,2,3] V (Ints.nil _ _) hM hs).mono ?_
 rintro e w' ⟨b,⟨h0,_⟩ | ⟨_,a1,c1,a2,c2,rfl,_,h⟩⟩
 ·exact absurd aw29_se h0
 ·have hw : supS (tblOf 2 (1 : Int).toNat []) (4 : Int).toNat awG26 [0,2,3]=[[1,0,1,0]]:=aw29_s
  rw [hw] at h
  exact ⟨b,a1,c1,a2,c2,by rw [hw];rfl,h.mat⟩
theorem aw29_Certify {V : World} {gm : Nat} (hM : Mat V (some ⟨gm,0,none⟩) 2 awG26) : Calls Tryz.prog 40 #[.agg #[.int .i64 2,.int .i64 1,.slice none 0 0,.int .i64 4,.slice (some ⟨gm,0,none⟩) 2 2]] V
  fun e w'=>Below V.heap.size V w'∧∃ as' cs at' ct,e = .returned (.tuple #[.agg #[.slice as' 2 cs,.slice at' 2 ct],.int .i64 0])∧Mat w' as' 2 [[0,2],[0,1,2,3]]∧Trees w' at' 2 [[[0,1],[1,2],[0,2]],[[0],[1],[2],[3]]]:=by
 refine (hCertify_any 2 1 none 0 0 [] 4 (some ⟨gm,0,none⟩) 2 2 awG26 V (Ints.nil _ _) hM).mono ?_
 rintro e w' ⟨b,⟨h0,_⟩ | ⟨_,as',cs,at',ct,rfl,h1,h2⟩⟩
 ·exact absurd aw29_ce h0
 ·rw [aw29_ss] at h1
  rw [aw29_tt] at h2
  exact ⟨b,as',cs,at',ct,rfl,h1,h2⟩
theorem aw29_Check {V : World} {gm : Nat} {as' at' : Option Addr} {cs ct : Nat} (hM : Mat V (some ⟨gm,0,none⟩) 2 awG26) (h1 : Mat V as' 2 [[0,2],[0,1,2,3]]) (h2 : Trees V at' 2 [[[0,1],[1,2],[0,2]],[[0],[1],[2],[3]]]) :
  Calls Tryz.prog 43 #[.agg #[.int .i64 2,.int .i64 1,.slice none 0 0,.int .i64 4,.slice (some ⟨gm,0,none⟩) 2 2],.agg #[.slice as' 2 cs,.slice at' 2 ct]] V (OkInts 2 [2,4] V):=by
 refine (hCheck_any 2 1 none 0 0 [] 4 (some ⟨gm,0,none⟩) 2 2 awG26 as' 2 cs _ at' 2 ct _ V (Ints.nil _ _) hM h1 h2).mono ?_
 rintro e w' ⟨b,⟨h0,_⟩ | ⟨_,a,c,rfl,h⟩⟩
 ·exact absurd aw29_h h0
 ·rw [aw29_l] at h
  exact ⟨b,a,c,rfl,(Ints.own h).1⟩
theorem Trees.keep2 {w w' : World} {a : Option Addr} {n : Nat} {TT : List (List (List Int))} (h : Trees w a n TT) (hb : Below w.heap.size w w') : Trees w' a n TT :=
 ⟨h.len,h.pl,h.max,fun i hi=>by
  obtain ⟨b,m,c,h1,h2,h3⟩:=h.cell i hi
  exact ⟨b,m,c,cell_keep hb h1,h2.keep hb,h3⟩⟩
set_option maxRecDepth 100000 in
set_option maxHeartbeats 16000000 in
theorem awake29_any (w : World) : Calls Tryz.prog 26 #[] w fun e w'=>e = .returned (.bool true)∧Below w.heap.size w w':=by
 go_enter Tryz.func26,Tryz.ntmps26
 go_upto_region 1 with fail
 go_cut [1] (fun v wx=>∃ g gm,v = .pointer (some ⟨g,0,none⟩)∧Box wx g [.int .i64 2,.int .i64 1,.slice none 0 0,.int .i64 4,.slice (some ⟨gm,0,none⟩) 2 2]∧Mat wx (some ⟨gm,0,none⟩) 2 awG26∧Below w.heap.size w wx)
 case first =>
  go_wp2_with fail
  go_meet
  have i1:=lits w [1,0,1,0] #[.int .i64 1,.int .i64 0,.int .i64 1,.int .i64 0] rfl (by decide) rfl
  have i2:=lits (w.alloc (.cells #[.int .i64 1,.int .i64 0,.int .i64 1,.int .i64 0] 3)) [0,1,1,1] #[.int .i64 0,.int .i64 1,.int .i64 1,.int .i64 1] rfl (by decide) (g:=w.heap.size+1) (by simp)
  have hm:=mlit2 (c1:=4) (c2:=4) _ (i1.keep (below1 _ (.cells #[.int .i64 0,.int .i64 1,.int .i64 1,.int .i64 1] 3))) i2 (g:=w.heap.size+1+1) (by simp)
  have hm2:=hm.keep (below1 _ (.cells #[.int .i64 2,.int .i64 1,.slice none 0 0,.int .i64 4,.slice (some ⟨w.heap.size+1+1,0,none⟩) 2 2] 27))
  exact ⟨_,w.heap.size+1+1,rfl,Box.new _ [.int .i64 2,.int .i64 1,.slice none 0 0,.int .i64 4,.slice (some ⟨w.heap.size+1+1,0,none⟩) 2 2] _ (by simp),hm2,below4 _ _ _ _ _⟩
 obtain ⟨g,gm,rfl,hx,hM,hbW⟩:=hcut
 generalize wc=W at *
 have HS : Hid (∀ V,Below W.heap.size W V→V.cell? ⟨g,0,none⟩=some (.int .i64 2)∧V.cell? ⟨g,1,none⟩=some (.int .i64 1)∧V.cell? ⟨g,2,none⟩=some (.slice none 0 0)∧V.cell? ⟨g,3,none⟩=some (.int .i64 4)∧V.cell? ⟨g,4,none⟩=some (.slice (some ⟨gm,0,none⟩) 2 2)):=fun V hV=>by
  have h:=hx.keep hV
  exact ⟨h.cell 0 rfl,h.cell 1 rfl,h.cell 2 rfl,h.cell 3 rfl,h.cell 4 rfl⟩
 have HM : Hid (∀ V,Below W.heap.size W V→Mat V (some ⟨gm,0,none⟩) 2 awG26):=fun V hV=>hM.keep hV
 have HW:=Lib.hid hbW
 clear hx hM hbW
 have e0:=Below.refl W.heap.size W
 obtain ⟨c0,c1,c2,c3,c4⟩:=HS.out _ e0
 have Hc:=Lib.hid (aw29_Witness (HM.out _ e0))
 go_wp2_with fail
 refine Hc.out.mono ?_
 rintro e V1 ⟨b1,a1,k1,rfl,hO1⟩
 have e1:=Below.next e0 b1
 have HO1:=Lib.hid (fun V hV=>hO1.keep hV : ∀ V,Below V1.heap.size V1 V→Ints V a1 2 [0,2])
 clear c0 c1 c2 c3 c4 Hc hO1
 obtain ⟨c0,c1,c2,c3,c4⟩:=HS.out _ e1
 have Hc:=Lib.hid (aw29_Weights (HM.out _ e1))
 go_wp2_with fail
 refine Hc.out.mono ?_
 rintro e V2 ⟨b2,a2,k2,rfl,hO2⟩
 have e2:=Below.next e1 b2
 have HO2:=Lib.hid (fun V hV=>hO2.keep hV : ∀ V,Below V2.heap.size V2 V→Ints V a2 2 [2,4])
 clear c0 c1 c2 c3 c4 Hc hO2
 obtain ⟨c0,c1,c2,c3,c4⟩:=HS.out _ e2
 have Hc:=Lib.hid (aw29_Profile (HM.out _ e2))
 go_wp2_with fail
 refine Hc.out.mono ?_
 rintro e V3 ⟨b3,a3,k3,rfl,hO3⟩
 have e3:=Below.next e2 b3
 have HO3:=Lib.hid (fun V hV=>hO3.keep hV : ∀ V,Below V3.heap.size V3 V→Ints V a3 5 [0,0,1,1,2])
 clear c0 c1 c2 c3 c4 Hc hO3
 have n3:=below1 V3 (.cells #[.int .i64 2,.int .i64 4] 3)
 have Hc:=Lib.hid (aw29_Duality (lits V3 [2,4] #[.int .i64 2,.int .i64 4] rfl (by decide) rfl))
 go_wp2_with fail
 refine Hc.out.mono ?_
 rintro e V4 ⟨b4,a4,k4,rfl,hO4⟩
 have e4:=Below.next e3 (Below.next n3 b4)
 have HO4:=Lib.hid (fun V hV=>hO4.keep hV : ∀ V,Below V4.heap.size V4 V→Ints V a4 2 [2,4])
 clear Hc hO4
 have n4:=below1 V4 (.cells #[.int .i64 0,.int .i64 2,.int .i64 3] 3)
 have Hc:=Lib.hid (aw29_Supported (HM.out _ (Below.next e4 n4)) (lits V4 [0,2,3] #[.int .i64 0,.int .i64 2,.int .i64 3] rfl (by decide) rfl))
 obtain ⟨c0,c1,c2,c3,c4⟩:=HS.out _ e4
 go_wp2_with fail
 refine Hc.out.mono ?_
 rintro e V5' ⟨b5,p5,q5,a5,k5,rfl,hO5⟩
 clear c0 c1 c2 c3 c4 Hc
 have n5:=below1 V5' (.cells #[.int .i64 2,.int .i64 1,.slice p5 0 q5,.int .i64 4,.slice a5 1 k5] 27)
 have f5:=Below.next (Below.next n4 b5) n5
 have e5:=Below.next e4 f5
 have HO5:=Lib.hid (fun V hV=>⟨((Box.new V5' [.int .i64 2,.int .i64 1,.slice p5 0 q5,.int .i64 4,.slice a5 1 k5] 27 rfl).keep hV).cell 4 rfl,(hO5.keep n5).keep hV⟩ : ∀ V,Below (V5'.alloc (.cells #[.int .i64 2,.int .i64 1,.slice p5 0 q5,.int .i64 4,.slice a5 1 k5] 27)).heap.size (V5'.alloc (.cells #[.int .i64 2,.int .i64 1,.slice p5 0 q5,.int .i64 4,.slice a5 1 k5] 27)) V →
  V.cell? ⟨V5'.heap.size,4,none⟩=some (.slice a5 1 k5)∧Mat V a5 1 [[1,0,1,0]])
 clear hO5
 have Hc:=Lib.hid (aw29_Certify (HM.out _ e5))
 obtain ⟨c0,c1,c2,c3,c4⟩:=HS.out _ e5
 go_wp2_with fail
 refine Hc.out.mono ?_
 rintro e V6' ⟨b6,as',cs,at',ct,rfl,hA6,hT6⟩
 clear c0 c1 c2 c3 c4 Hc
 have n6:=below1 V6' (.cells #[.slice as' 2 cs,.slice at' 2 ct] 59)
 have f6:=Below.next b6 n6
 have e6:=Below.next e5 f6
 have HO6:=Lib.hid (fun V hV=>⟨((Box.new V6' [.slice as' 2 cs,.slice at' 2 ct] 59 rfl).keep hV).cell 0 rfl,((Box.new V6' [.slice as' 2 cs,.slice at' 2 ct] 59 rfl).keep hV).cell 1 rfl,(hA6.keep n6).keep hV,(Trees.keep2 hT6 n6).keep2 hV⟩ : ∀ V,Below (V6'.alloc (.cells #[.slice as' 2 cs,.slice at' 2 ct] 59)).heap.size (V6'.alloc (.cells #[.slice as' 2 cs,.slice at' 2 ct] 59)) V →
  V.cell? ⟨V6'.heap.size,0,none⟩=some (.slice as' 2 cs)∧V.cell? ⟨V6'.heap.size,1,none⟩=some (.slice at' 2 ct)∧Mat V as' 2 [[0,2],[0,1,2,3]]∧Trees V at' 2 [[[0,1],[1,2],[0,2]],[[0],[1],[2],[3]]])
 clear hA6
 have t6:=HO6.out _ (Below.refl _ _)
 have Hc:=Lib.hid (aw29_Check (cs:=cs) (ct:=ct) (HM.out _ e6) t6.2.2.1 t6.2.2.2)
 obtain ⟨c0,c1,c2,c3,c4⟩:=HS.out _ e6
 have x0:=t6.1
 have x1:=t6.2.1
 clear t6
 go_wp2_with fail
 refine Hc.out.mono ?_
 rintro e V7 ⟨b7,a7,k7,rfl,hO7⟩
 have e7:=Below.next e6 b7
 have HO7:=Lib.hid (fun V hV=>hO7.keep hV : ∀ V,Below V7.heap.size V7 V→Ints V a7 2 [2,4])
 have hplt:=hT6.pl
 have G6:=Lib.hid b7
 have G5:=Lib.hid (Below.next f6 b7)
 have G4:=Lib.hid (Below.next f5 (Below.next f6 b7))
 have G3:=Lib.hid (Below.next (Below.next n3 b4) G4.out)
 have G2:=Lib.hid (Below.next b3 G3.out)
 have G1:=Lib.hid (Below.next b2 G2.out)
 have E7:=Lib.hid (Below.next HW.out e7)
 clear c0 c1 c2 c3 c4 x0 x1 Hc hO7 hT6 b1 b2 b3 b4 b5 b6 b7 n3 n4 n5 n6 f5 f6 e0 e1 e2 e3 e4 e5 e6 e7
 go_upto_region 10 with fail
 have q1:=below1 V7 (.cells #[.int .i64 0,.int .i64 2] 3)
 have s1':=Below.next (Below.refl V7.heap.size V7) q1
 have Hc:=Lib.hid (rSameInts_any a1 2 k1 [0,2] (some ⟨V7.heap.size,0,none⟩) 2 2 [0,2] (HO1.out _ (Below.next G1.out s1')) (lits V7 [0,2] #[.int .i64 0,.int .i64 2] rfl (by decide) rfl))
 rw [decide_eq_true rfl] at Hc
 go_wp2_with fail
 refine Hc.out.mono ?_
 rintro e Y1 ⟨rfl,r1⟩
 have s1:=Below.next s1' r1.below
 clear Hc q1 s1' r1
 have q2:=below1 Y1 (.cells #[.int .i64 2,.int .i64 4] 3)
 have s2':=Below.next s1 q2
 have Hc:=Lib.hid (rSameInts_any a2 2 k2 [2,4] (some ⟨Y1.heap.size,0,none⟩) 2 2 [2,4] (HO2.out _ (Below.next G2.out s2')) (lits Y1 [2,4] #[.int .i64 2,.int .i64 4] rfl (by decide) rfl))
 rw [decide_eq_true rfl] at Hc
 go_wp2_with fail
 refine Hc.out.mono ?_
 rintro e Y2 ⟨rfl,r2⟩
 have s2:=Below.next s2' r2.below
 clear Hc q2 s2' r2
 have q3:=below1 Y2 (.cells #[.int .i64 0,.int .i64 0,.int .i64 1,.int .i64 1,.int .i64 2] 3)
 have s3':=Below.next s2 q3
 have Hc:=Lib.hid (rSameInts_any a3 5 k3 [0,0,1,1,2] (some ⟨Y2.heap.size,0,none⟩) 5 5 [0,0,1,1,2] (HO3.out _ (Below.next G3.out s3')) (lits Y2 [0,0,1,1,2] #[.int .i64 0,.int .i64 0,.int .i64 1,.int .i64 1,.int .i64 2] rfl (by decide) rfl))
 rw [decide_eq_true rfl] at Hc
 go_wp2_with fail
 refine Hc.out.mono ?_
 rintro e Y3 ⟨rfl,r3⟩
 have s3:=Below.next s3' r3.below
 clear Hc q3 s3' r3
 have q4:=below1 Y3 (.cells #[.int .i64 2,.int .i64 4] 3)
 have s4':=Below.next s3 q4
 have Hc:=Lib.hid (rSameInts_any a4 2 k4 [2,4] (some ⟨Y3.heap.size,0,none⟩) 2 2 [2,4] (HO4.out _ (Below.next G4.out s4')) (lits Y3 [2,4] #[.int .i64 2,.int .i64 4] rfl (by decide) rfl))
 rw [decide_eq_true rfl] at Hc
 go_wp2_with fail
 refine Hc.out.mono ?_
 rintro e Y4 ⟨rfl,r4⟩
 have s4:=Below.next s4' r4.below
 clear Hc q4 s4' r4
 have x4:=(HO5.out _ (Below.next G5.out s4)).1
 have q5:=below2 Y4 (.cells #[.int .i64 1,.int .i64 0,.int .i64 1,.int .i64 0] 3) (.cells #[.slice (some ⟨Y4.heap.size,0,none⟩) 4 4] 22)
 have s5':=Below.next s4 q5
 have Hc:=Lib.hid (rSameRows_any a5 1 k5 [[1,0,1,0]] _ 1 1 [[1,0,1,0]] (HO5.out _ (Below.next G5.out s5')).2 (mlit1 (c1:=4) _ (lits Y4 [1,0,1,0] #[.int .i64 1,.int .i64 0,.int .i64 1,.int .i64 0] rfl (by decide) rfl) (g:=Y4.heap.size+1) (by simp)))
 rw [decide_eq_true rfl] at Hc
 go_wp2_with fail
 refine Hc.out.mono ?_
 rintro e Y5 ⟨rfl,r5⟩
 have s5:=Below.next s5' r5.below
 clear Hc q5 s5' r5 x4
 have q6:=below1 Y5 (.cells #[.int .i64 2,.int .i64 4] 3)
 have s6':=Below.next s5 q6
 have Hc:=Lib.hid (rSameInts_any a7 2 k7 [2,4] (some ⟨Y5.heap.size,0,none⟩) 2 2 [2,4] (HO7.out _ s6') (lits Y5 [2,4] #[.int .i64 2,.int .i64 4] rfl (by decide) rfl))
 rw [decide_eq_true rfl] at Hc
 go_wp2_with fail
 refine Hc.out.mono ?_
 rintro e Y6 ⟨rfl,r6⟩
 have s6:=Below.next s6' r6.below
 clear Hc q6 s6' r6
 obtain ⟨x0,x1,_,ht⟩:=HO6.out _ (Below.next G6.out s6)
 obtain ⟨tb0,tm0,tc0,h00,h01,_⟩:=ht.cell 0 (by omega)
 obtain ⟨tb1,tm1,tc1,h10,h11,_⟩:=ht.cell 1 (by omega)
 have hn0 : nthT [[[0,1],[1,2],[0,2]],[[0],[1],[2],[3]]] 0=[[0,1],[1,2],[0,2]]:=rfl
 have hn1 : nthT [[[0,1],[1,2],[0,2]],[[0],[1],[2],[3]]] 1=[[0],[1],[2],[3]]:=rfl
 rw [hn0] at h01
 rw [hn1] at h11
 obtain rfl : tm0=3:=h01.len.symm
 obtain rfl : tm1=4:=h11.len.symm
 have HT:=Lib.hid (fun V hV=>⟨(HO6.out _ (Below.next G6.out (Below.next s6 hV))).2.1,cell_keep hV h00,cell_keep hV h10,h01.keep hV,h11.keep hV⟩ : ∀ V,Below Y6.heap.size Y6 V→V.cell? ⟨V6'.heap.size,1,none⟩=some (.slice at' 2 ct)∧V.cell? ⟨ablk at',aoff at',none⟩=some (.slice tb0 3 tc0)∧V.cell? ⟨ablk at',aoff at'+1,none⟩=some (.slice tb1 4 tc1)∧Mat V tb0 3 [[0,1],[1,2],[0,2]]∧Mat V tb1 4 [[0],[1],[2],[3]])
 clear x0 x1 ht h00 h01 h10 h11 hn0 hn1
 obtain ⟨x1,d0,d1,_,_⟩:=HT.out Y6 (Below.refl _ _)
 go_upto_region 11 with fail
 have q7:=below4 Y6 (.cells #[.int .i64 0,.int .i64 1] 3) (.cells #[.int .i64 1,.int .i64 2] 3) (.cells #[.int .i64 0,.int .i64 2] 3) (.cells #[.slice (some ⟨Y6.heap.size,0,none⟩) 2 2,.slice (some ⟨Y6.heap.size+1,0,none⟩) 2 2,.slice (some ⟨Y6.heap.size+1+1,0,none⟩) 2 2] 22)
 have Hc:=Lib.hid (rSameRows_any tb0 3 tc0 [[0,1],[1,2],[0,2]] _ 3 3 [[0,1],[1,2],[0,2]] (HT.out _ q7).2.2.2.1 (two3 Y6 0 1 1 2 0 2))
 rw [decide_eq_true rfl] at Hc
 go_wp2_with fail
 refine Hc.out.mono ?_
 rintro e Y7 ⟨rfl,r7⟩
 have s7:=Below.next q7 r7.below
 clear x1 d0 d1 Hc q7 r7
 obtain ⟨x1,d0,d1,_,_⟩:=HT.out Y7 s7
 have q8:=below5 Y7 (.cells #[.int .i64 0] 3) (.cells #[.int .i64 1] 3) (.cells #[.int .i64 2] 3) (.cells #[.int .i64 3] 3) (.cells #[.slice (some ⟨Y7.heap.size,0,none⟩) 1 1,.slice (some ⟨Y7.heap.size+1,0,none⟩) 1 1,.slice (some ⟨Y7.heap.size+1+1,0,none⟩) 1 1,.slice (some ⟨Y7.heap.size+1+1+1,0,none⟩) 1 1] 22)
 have Hc:=Lib.hid (rSameRows_any tb1 4 tc1 [[0],[1],[2],[3]] _ 4 4 [[0],[1],[2],[3]] (HT.out _ (Below.next s7 q8)).2.2.2.2 (one4 Y7 0 1 2 3))
 rw [decide_eq_true rfl] at Hc
 go_wp2_with fail
 refine Hc.out.mono ?_
 rintro e Y8 ⟨rfl,r8⟩
 have s8:=Below.next s7 (Below.next q8 r8.below)
 clear x1 d0 d1 Hc q8 r8
 have hF:=Below.next E7.out (Below.next s6 s8)
 go_wp2_with fail
 go_ret
 exact ⟨rfl,hF⟩
end

end Go.Proofs.YtcflcogbpnmjeaaGreat
