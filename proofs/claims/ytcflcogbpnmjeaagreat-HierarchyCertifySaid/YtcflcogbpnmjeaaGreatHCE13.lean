/-  -/
import Derived.Test.YtcflcogbpnmjeaaGreatK32
import Derived.Test.YtcflcogbpnmjeaaGreatHCE12
import Derived.Test.YtcflcogbpnmjeaaGreatHCE11
import Derived.Test.YtcflcogbpnmjeaaGreatK28
import Derived.Test.YtcflcogbpnmjeaaGreatHCE9
import Derived.Test.YtcflcogbpnmjeaaGreatK17
import Derived.Test.YtcflcogbpnmjeaaGreatHCE8
import Derived.Test.YtcflcogbpnmjeaaGreatHCE1
import Derived.Test.YtcflcogbpnmjeaaGreatHCE5
import Derived.Test.YtcflcogbpnmjeaaGreatHCE2
import Derived.Test.YtcflcogbpnmjeaaGreatK31
import Derived.Test.YtcflcogbpnmjeaaGreatHCE4
import Derived.Test.YtcflcogbpnmjeaaGreatK20
import Derived.Test.YtcflcogbpnmjeaaGreatK35
import Derived.Test.YtcflcogbpnmjeaaGreatK33
import Derived.Test.YtcflcogbpnmjeaaGreatK9
namespace Go.Proofs.YtcflcogbpnmjeaaGreat
set_option linter.unusedVariables false
set_option linter.unusedSimpArgs false
set_option linter.unusedSectionVars false

section
open Go.RowKit
set_option maxRecDepth 100000 in
set_option maxHeartbeats 1600000 in
theorem rBuildRank26_any (P M:Int) (am:Option Addr) (mn cm:Nat) (mod:List Int) (N:Int) (a:Option Addr) (n c:Nat) (L:List (List Int)) (mm W:Int) (w:World)
  (hmod:Ints w am mn mod) (hi:Mat w a n L) :
  Calls Tryz.prog 85 #[.agg #[.int .i64 P,.int .i64 M,.slice am mn cm,.int .i64 N,.slice a n c],.int .i64 mm,.int .i64 W] w (ExBldPost (bldRE P M mod N L mm W) w):=by
 obtain ⟨V0,hV0⟩:∃ V0,bldRE P M mod N L mm W=V0:=⟨_,rfl⟩
 have HBd:Hid (rkcE P M mod N L mm W=0→∀ V,Below w.heap.size w V→Calls Tryz.prog 137 #[.agg #[.int .i64 P,.int .i64 M,.slice am mn cm,.int .i64 N,.slice a n c,.int .i64 mm,.int .i64 W,.slice none 0 0,.bool false],.slice none 0 0,.slice none 0 0,.slice none 0 0] V
   fun e w'=>∃ av nv cv,e = .returned (.tuple #[.slice av nv cv,.int .i64 V0.1])∧Below V.heap.size V w'∧((V0.1 ≠ 0∧av=none∧nv=0∧cv=0)∨(V0.1=0∧nv=V0.2.length∧∃ R,OMat w' V.heap.size av V0.2.length cv R V0.2))):=fun h V hV=>by
  obtain ⟨hE,h1,h2,h3,h4,h5,h6⟩:=rkc_env h
  have h7:=rBuild26_any P M am mn cm mod N.toNat a n c L none 0 0 ⟨mm.toNat,W.toNat,false,[]⟩ V (hmod.keep hV) (hi.keep hV) (by rw [Int.toNat_of_nonneg (by omega)];exact hE) false rfl (Lib.hid (rightK_rank (hmod.keep hV) (hi.keep hV) (by rw [Int.toNat_of_nonneg (by omega)];exact hE) rfl)) (by show W.toNat≤64;omega) (by omega)
   W.toNat V ⟨none,0,[],[]⟩ none 0 0 [] none 0 0 [] (by show 0+W.toNat=W.toNat;omega) (by omega) (Below.refl _ _) (OMat.nul _ _) (by simp) (Ints.nil _ _) (Ints.nil _ _) (fun h=>by omega) (fun h=>by omega) (by simp) (fun x hx=>by simp at hx)
  unfold rclV at h7
  dsimp only at h7
  rw [Int.toNat_of_nonneg (show 0≤N by omega),Int.toNat_of_nonneg h3,Int.toNat_of_nonneg h5] at h7
  have hb:bldS (tblOf P M.toNat mod).ops L N.toNat ⟨mm.toNat,W.toNat,false,[]⟩ W.toNat [] [] []=V0:=by
   rw [← hV0,bldRE,if_pos h];rfl
  rw [hb] at h7
  have hI:∀ x,¬ (BSt.I ⟨none,0,[],[]⟩ x):=fun x hx=>by
   rcases hx with ⟨h0,_⟩ | ⟨i,hi,_⟩
   ·exact h0 rfl
   ·simp at hi
  refine h7.mono ?_
  rintro e w' (⟨g1,σ',g2,g3,g4,g5,rfl⟩ | ⟨g1,I',g5,rfl⟩)
  ·refine ⟨_,_,_,by rw [g1],g5.below (fun x hx=>absurd hx (hI x)) (Nat.le_refl _),.inr ⟨g1,by rw [g3],σ'.R,?_⟩⟩
   rw [← g3];exact g2
  ·exact ⟨none,0,0,rfl,g5.below (fun x hx=>absurd hx (hI x)) (Nat.le_refl _),.inl ⟨g1,rfl,rfl,rfl⟩⟩
 have HRk:Hid (∀ V,Below w.heap.size w V→Calls Tryz.prog 136 #[.agg #[.int .i64 P,.int .i64 M,.slice am mn cm,.int .i64 N,.slice a n c],.int .i64 mm,.int .i64 W] V fun e w'=>e = .returned (.int .i64 (rkcE P M mod N L mm W))∧Below V.heap.size V w'):=fun V hV =>
  rRank26_any P M am mn cm mod N a n c L mm W V (hmod.keep hV) (hi.keep hV)
 have HV1:Hid (rkcE P M mod N L mm W ≠ 0→V0=(rkcE P M mod N L mm W,[])):=fun h=>by rw [← hV0,bldRE,if_neg h]
 rw [hV0]
 clear hmod hi hV0
 go_enter Tryz.func85,Tryz.ntmps85
 go_wp2_with fail
 obtain ⟨U,hU⟩:∃ U:World,U=(w.alloc (.cells #[.int .i64 P,.int .i64 M,.slice am mn cm,.int .i64 N,.slice a n c] 27)).alloc (.cells #[.slice none 0 0] 37):=⟨_,rfl⟩
 rw [← hU]
 have hbU:Below w.heap.size w U:=by rw [hU];exact below2 _ _ _
 have x0:Box U w.heap.size [.int .i64 P,.int .i64 M,.slice am mn cm,.int .i64 N,.slice a n c]:=by rw [hU];exact (Box.new _ _ _ rfl).alloc _
 have y0:Box U (w.heap.size+1) [.slice none 0 0]:=by rw [hU];exact Box.new _ _ _ (by simp)
 clear hU
 refine (HRk.out U hbU).mono ?_
 rintro e w1 ⟨rfl,hb1⟩
 have hbw1:=Below.next hbU hb1
 have x1:=x0.keep hb1
 have y1:=y0.keep hb1
 have HY:=Lib.hid y1
 by_cases hE:rkcE P M mod N L mm W=0
 ·have HP2:=Lib.hid (HBd.out hE)
  have c0:=x1.cell 0 rfl
  have c1:=x1.cell 1 rfl
  have c2:=x1.cell 2 rfl
  have c3:=x1.cell 3 rfl
  have c4:=x1.cell 4 rfl
  rw [hE]
  clear hE x0 y0 x1 y1 HBd HRk HV1
  go_wp2_with fail
  refine (HP2.out _ hbw1).mono ?_
  rintro e w3 ⟨av,nv,cv,rfl,hb3,hV3⟩
  have y3:=HY.out.keep hb3
  have z0:=y3.cell 0 rfl
  have f0:=y3.frozen 0
  have hF:Below w.heap.size w (w3.setCell ⟨w.heap.size+1,0,none⟩ (.slice av nv cv)):=(Below.next hbw1 hb3).setCell (by simp) _
  have HV5:Hid (ExBldPost V0 w (.returned (.tuple #[.agg #[.slice av nv cv],.int .i64 V0.1])) (w3.setCell ⟨w.heap.size+1,0,none⟩ (.slice av nv cv))):=by
   refine ⟨hF,?_⟩
   rcases hV3 with ⟨h1,rfl,rfl,rfl⟩ | ⟨h1,rfl,R,hO⟩
   ·exact .inl ⟨h1,rfl⟩
   ·refine .inr ⟨h1,av,cv,R,by rw [h1],?_⟩
    have hsU:=hbw1.size
    have hy:=HY.out.1
    refine (OMat.mono hO hsU).of_blocks fun x hx=>Below.heap_setCell _ _ _ _ fun e=>?_
    have h2:=(hO.lt x hx).1
    have e':x=w.heap.size+1:=e
    omega
  clear hV3 hF y3
  obtain ⟨v1,hv1⟩:∃ v1,V0.1=v1:=⟨_,rfl⟩
  rw [hv1] at HV5 ⊢
  clear hv1
  go_wp2_with fail
  have z1:(w3.setCell ⟨w.heap.size+1,0,none⟩ (.slice av nv cv)).cell? ⟨w.heap.size+1,0,none⟩=some (.slice av nv cv):=World.cell?_setCell_same _ _ _ z0
  exact bodyPost_ret (v:=.tuple #[.agg #[.slice av nv cv],.int .i64 v1]) (by simp [results,Tryz.results85,go_sem,z0,z1]) rfl HV5.out
 ·have HE:=Lib.hid (HV1.out hE)
  have hE2:(rkcE P M mod N L mm W != 0)=true:=by simpa using hE
  have Hne:=Lib.hid hE
  have z0:=y1.cell 0 rfl
  have f0:=y1.frozen 0
  have HF:=Lib.hid (fun v:Value=>hbw1.setCell (p:=⟨w.heap.size+1,0,none⟩) (by simp) v)
  clear hE x0 y0 x1 y1 HBd HRk HV1
  generalize rkcE P M mod N L mm W=er at *
  go_wp2_with fail
  have z1:(w1.setCell ⟨w.heap.size+1,0,none⟩ (.slice none 0 0)).cell? ⟨w.heap.size+1,0,none⟩=some (.slice none 0 0):=World.cell?_setCell_same _ _ _ z0
  exact bodyPost_ret (v:=.tuple #[.agg #[.slice none 0 0],.int .i64 er]) (by simp [results,Tryz.results85,go_sem,z0,z1]) rfl ⟨HF.out _,.inl ⟨by rw [HE.out];exact Hne.out,by rw [HE.out]⟩⟩
theorem rSame26_any (ax:Option Addr) (nx cx:Nat) (ts:List (List Int)) (ay:Option Addr) (ny cy:Nat) (us:List (List Int)) (w:World) (h:Mat w ax nx ts) (h':Mat w ay ny us) :
  Calls Tryz.prog 86 #[.agg #[.slice ax nx cx],.agg #[.slice ay ny cy]] w fun e w'=>e = .returned (.bool (decide (ts=us)))∧Below w.heap.size w w':=by
 have HF:=Lib.hid (fun V (hV:Below w.heap.size w V)=>rSameRows_any ax nx cx ts ay ny cy us (h.keep hV) (h'.keep hV))
 clear h h'
 obtain ⟨bb,hbb⟩:∃ bb,decide (ts=us)=bb:=⟨_,rfl⟩
 rw [hbb] at HF ⊢
 clear hbb
 go_enter Tryz.func86,Tryz.ntmps86
 go_wp2_with fail
 refine (HF.out _ (below2 _ _ _)).mono ?_
 rintro e w1 ⟨rfl,hq⟩
 have hF:=Below.next (below2 w (.cells #[.slice ax nx cx] 37) (.cells #[.slice ay ny cy] 37)) (Drawn.below hq)
 go_wp2_with fail
 go_ret
 exact ⟨rfl,hF⟩
end

section
open Go.RowKit
theorem bld_chk {P M:Int} {mod:List Int} {N:Int} {L:List (List Int)} {mm W:Int} (h:(bldRE P M mod N L mm W).1=0):chkRE P M mod N L mm W (bldRE P M mod N L mm W).2=0:=by
 unfold bldRE chkRE at *
 by_cases h0:rkcE P M mod N L mm W=0
 ·rw [if_pos h0] at h ⊢
  rw [if_pos h0]
  refine tree_prov ?_
  rw [← h]
 ·rw [if_neg h0] at h
  exact absurd h h0
end

section
open Go.RowKit
set_option maxRecDepth 100000 in
set_option maxHeartbeats 8000000 in
theorem rCertify29_any (P M:Int) (am:Option Addr) (mn cm:Nat) (mod:List Int) (N:Int) (a:Option Addr) (n c:Nat) (L:List (List Int)) (w:World) (hmod:Ints w am mn mod) (hi:Mat w a n L) :
  Calls Tryz.prog 41 #[.agg #[.int .i64 P,.int .i64 M,.slice am mn cm,.int .i64 N,.slice a n c]] w (CerPost P M mod N n L w):=by
 have Hil:=Lib.hid hi.len
 go_enter Tryz.func41,Tryz.ntmps41
 go_wp2_with fail
 obtain ⟨U,hU⟩:∃ U:World,U=(w.alloc (.cells #[.int .i64 P,.int .i64 M,.slice am mn cm,.int .i64 N,.slice a n c] 27)).alloc (.cells #[.slice none 0 0,.slice none 0 0] 59):=⟨_,rfl⟩
 rw [← hU]
 have hbU:Below w.heap.size w U:=by rw [hU];exact below2 _ _ _
 have hsU:U.heap.size=w.heap.size+2:=by rw [hU];simp
 have x0:Box U w.heap.size [.int .i64 P,.int .i64 M,.slice am mn cm,.int .i64 N,.slice a n c]:=by rw [hU];exact (Box.new _ _ _ rfl).alloc _
 have z0:Box U (w.heap.size+1) [.slice none 0 0,.slice none 0 0]:=by rw [hU];exact Box.new _ _ _ (by simp)
 have HS:Hid (∀ V,Below U.heap.size U V→V.cell? ⟨w.heap.size,0,none⟩=some (.int .i64 P)∧V.cell? ⟨w.heap.size,1,none⟩=some (.int .i64 M)∧V.cell? ⟨w.heap.size,2,none⟩=some (.slice am mn cm)∧V.cell? ⟨w.heap.size,3,none⟩=some (.int .i64 N)∧V.cell? ⟨w.heap.size,4,none⟩=some (.slice a n c) ∧
   V.cell? ⟨w.heap.size+1,0,none⟩=some (.slice none 0 0)∧V.cell? ⟨w.heap.size+1,1,none⟩=some (.slice none 0 0)∧V.frozen? ⟨w.heap.size+1,0,none⟩=false∧V.frozen? ⟨w.heap.size+1,1,none⟩=false):=fun V hV=>by
  have x1:=x0.keep hV
  have z1:=z0.keep hV
  exact ⟨x1.cell 0 rfl,x1.cell 1 rfl,x1.cell 2 rfl,x1.cell 3 rfl,x1.cell 4 rfl,z1.cell 0 rfl,z1.cell 1 rfl,z1.frozen 0,z1.frozen 1⟩
 have HErr:Hid (∀ V er,cerE P M mod N L=er→er ≠ 0→Below U.heap.size U V→CerPost P M mod N n L w (.returned (.tuple #[.agg #[.slice none 0 0,.slice none 0 0],.int .i64 er])) ((V.setCell ⟨w.heap.size+1,0,none⟩ (.slice none 0 0)).setCell ⟨w.heap.size+1,1,none⟩ (.slice none 0 0))):=fun V er h1 h2 hV =>
  ⟨((Below.next hbU hV).setCell (p:=⟨w.heap.size+1,0,none⟩) (by simp) _).setCell (p:=⟨w.heap.size+1,1,none⟩) (by simp) _,.inl ⟨by rw [h1];exact h2,by rw [h1]⟩⟩
 have HbU:=Lib.hid hbU
 have HsU:=Lib.hid hsU
 clear hU x0 z0 hsU
 refine (rEnough29_any P M am mn cm mod N a n c L U (hmod.keep hbU) (hi.keep hbU)).mono ?_
 rintro e w1 ⟨rfl,hb1⟩
 by_cases hE:dimE P M mod N L=0
 rotate_left
 ·have HE:Hid (cerE P M mod N L=dimE P M mod N L):=if_neg hE
  obtain ⟨_,_,_,_,_,z3,z4,f3,f4⟩:=HS.out w1 hb1
  have HR:=Lib.hid (HErr.out w1 _ HE.out hE hb1)
  have hE':(dimE P M mod N L != 0)=true:=by simpa using hE
  clear hE
  generalize dimE P M mod N L=er at *
  go_wp2_with fail
  exact bodyPost_ret (v:=.tuple #[.agg #[.slice none 0 0,.slice none 0 0],.int .i64 er]) (by simp [results,Tryz.results41,go_sem,z3,z4]) rfl HR.out
 obtain ⟨hC,hN1,hN16⟩:=dimE_zero hE
 obtain ⟨m,rfl⟩:∃ m:Nat,N=m:=⟨N.toNat,by omega⟩
 have hm16:m≤16:=by omega
 rw [hE]
 have Hm16:=Lib.hid hm16
 have hn256:n≤256:=by rw [← hi.len];exact (codeE_rws hC).choose_spec.2.2.2.1
 obtain ⟨N',em,hm1,hm64,F,hR⟩:=codeE_fld hC
 obtain rfl:m=N':=by omega
 have hb01:=hb1
 have Hb1:=Lib.hid hb1
 have hbw1:=Below.next hbU hb1
 have HBld:Hid (∀ V mm WW,Below w.heap.size w V→Calls Tryz.prog 85 #[.agg #[.int .i64 P,.int .i64 M,.slice am mn cm,.int .i64 m,.slice a n c],.int .i64 mm,.int .i64 WW] V (BldP (if (bldRE P M mod m L mm WW).1=0 then (bldRE P M mod m L mm WW).2 else []) (bldRE P M mod m L mm WW).1 V)):=fun V mm WW hV =>
  (rBuildRank26_any P M am mn cm mod m a n c L mm WW V (hmod.keep hV) (hi.keep hV)).mono fun e w' h=>h.bldP
 have HFir:Hid (∀ V r,Below w1.heap.size w1 V→Calls Tryz.prog 71 #[.agg #[.int .i64 P,.int .i64 M,.slice am mn cm,.int .i64 m,.slice a n c],.int .i64 r] V fun e w'=>∃ a3 c3,e = .returned (.slice a3 (firS (tblOf P M.toNat mod).ops L m r).length c3)∧IntsN V.heap.size w' a3 (firS (tblOf P M.toNat mod).ops L m r).length (firS (tblOf P M.toNat mod).ops L m r)∧(firS (tblOf P M.toNat mod).ops L m r).length≤65536∧Below V.heap.size V w'):=fun V r hV=>by
  refine (rFirst29_any P M am mn cm mod m a n c L r V (hmod.keep (Below.next hbw1 hV)) (hi.keep (Below.next hbw1 hV)) hC hm16).mono ?_
  rintro e w' ⟨a3,c3,rfl,hN,hb⟩
  exact ⟨a3,c3,rfl,hN,fir_short hm16,hb⟩
 have HT0:Hid (cerTo P M mod m L 0=0):=rfl
 have HTs:Hid (∀ k,k<n→cerTo P M mod m L k=0→cerTo P M mod m L (k+1)=(bldRE P M mod m L ((n:Int) - ((k:Int)+1)+1) (((firS (tblOf P M.toNat mod).ops L m ((k:Int)+1)).length:Int) - 1)).1):=fun k hk h=>by
  rw [cerTo,if_pos h,cerB,Hil.out,Int.toNat_natCast]
 have HTn:Hid (∀ k er,k≤n→cerTo P M mod m L k=er→er ≠ 0→cerE P M mod m L=er):=fun k er hk h1 h2=>by
  show cerE _ _ _ _ _=er
  unfold cerE
  rw [if_pos hE,Hil.out]
  have h3:=cerTo_stay h1 h2 (n - k)
  rw [show k+(n - k)=n by omega] at h3
  exact h3
 have HTe:Hid (cerTo P M mod m L n=0→cerE P M mod m L=0):=fun h=>by
  show cerE _ _ _ _ _=0
  unfold cerE
  rw [if_pos hE,Hil.out];exact h
 have HSS:Hid (∀ k,cerSS P M mod m L (k+1)=cerSS P M mod m L k ++ [firS (tblOf P M.toNat mod).ops L m ((k:Int)+1)]):=fun k=>by unfold cerSS;rw [List.range_succ,Int.toNat_natCast];simp
 have HTT:Hid (∀ k,cerTT P M mod m L (k+1)=cerTT P M mod m L k ++ [(bldRE P M mod m L ((n:Int) - ((k:Int)+1)+1) (((firS (tblOf P M.toNat mod).ops L m ((k:Int)+1)).length:Int) - 1)).2]):=fun k=>by
  unfold cerTT;rw [List.range_succ];simp only [List.map_append,List.map_cons,List.map_nil,cerB,Hil.out,Int.toNat_natCast]
 have HPost:Hid (∀ as' cs at' ct V,cerE P M mod m L=0→Mat V as' n (cerSS P M mod m L n)→Trees V at' n (cerTT P M mod m L n)→Below w.heap.size w V→CerPost P M mod m n L w (.returned (.tuple #[.agg #[.slice as' n cs,.slice at' n ct],.int .i64 0])) V):=fun as' cs at' ct V h0 h1 h2 h3=>⟨h3,.inr ⟨h0,as',cs,at',ct,rfl,h1,h2⟩⟩
 obtain ⟨bl,hbl⟩:∃ bl,bldRE P M mod m L=bl:=⟨_,rfl⟩
 obtain ⟨fr,hfr⟩:∃ fr,firS (tblOf P M.toNat mod).ops L m=fr:=⟨_,rfl⟩
 obtain ⟨CT,hCT⟩:∃ CT,cerTo P M mod m L=CT:=⟨_,rfl⟩
 obtain ⟨SS,hSS⟩:∃ SS,cerSS P M mod m L=SS:=⟨_,rfl⟩
 obtain ⟨TT,hTT⟩:∃ TT,cerTT P M mod m L=TT:=⟨_,rfl⟩
 obtain ⟨ce,hce⟩:∃ ce,cerE P M mod m L=ce:=⟨_,rfl⟩
 rw [hbl] at HBld HTs HTT
 rw [hfr] at HTs HSS HTT HFir
 rw [hCT] at HT0 HTs HTn HTe
 rw [hSS] at HSS HPost
 rw [hTT] at HTT HPost
 rw [hce] at HTn HTe HPost HErr
 have HSS0:Hid (SS 0=[]):=by show _=_;rw [← hSS];rfl
 have HTT0:Hid (TT 0=[]):=by show _=_;rw [← hTT];rfl
 clear hbl hfr hCT hSS hTT hce F hR em hC hE
 unfold BldP at HBld
 go_upto_region 5 with fail
 obtain ⟨X,hX⟩:∃ X,w1.alloc (.cells #[.slice none 0 0,.slice none 0 0] 59)=X:=⟨_,rfl⟩
 rw [hX]
 have hbX:Below w1.heap.size w1 X:=by rw [← hX];exact below1 _ _
 have hC0:CerI w1.heap.size X w1.heap.size none 0 none 0 [] []:=CerI.start (Nat.le_refl _) (by rw [← hX];exact Box.new _ _ _ rfl)
 clear hX
 have HSw:Hid (∀ V,Below w1.heap.size w1 V→V.cell? ⟨w.heap.size,0,none⟩=some (.int .i64 P)∧V.cell? ⟨w.heap.size,1,none⟩=some (.int .i64 M)∧V.cell? ⟨w.heap.size,2,none⟩=some (.slice am mn cm)∧V.cell? ⟨w.heap.size,3,none⟩=some (.int .i64 m)∧V.cell? ⟨w.heap.size,4,none⟩=some (.slice a n c) ∧
   V.cell? ⟨w.heap.size+1,0,none⟩=some (.slice none 0 0)∧V.cell? ⟨w.heap.size+1,1,none⟩=some (.slice none 0 0)∧V.frozen? ⟨w.heap.size+1,0,none⟩=false∧V.frozen? ⟨w.heap.size+1,1,none⟩=false):=fun V hV=>HS.out V (Below.next hb1 hV)
 have Hbw1:=Lib.hid hbw1
 have hsw1:w.heap.size+2≤w1.heap.size:=by have h1:=hb1.size;have h2:=HsU.out;omega
 have HEr1:Hid (∀ V er,ce=er→er ≠ 0→Below w1.heap.size w1 V→CerPost P M mod m n L w (.returned (.tuple #[.agg #[.slice none 0 0,.slice none 0 0],.int .i64 er])) ((V.setCell ⟨w.heap.size+1,0,none⟩ (.slice none 0 0)).setCell ⟨w.heap.size+1,1,none⟩ (.slice none 0 0))):=fun V er h1 h2 hV=>HErr.out V er h1 h2 (Below.next hb1 hV)
 clear HS HErr hb1 hb01 hbU hbw1
 go_wp2_with fail
 go_loopw [6] (fun iv wr=>∃ (k:Nat) (as':Option Addr) (cs:Nat) (at':Option Addr) (ct:Nat) (ss:List RX) (tt:List TX),k≤n∧iv = .int .i64 ((k:Int)+1)∧CerI w1.heap.size wr w1.heap.size as' cs at' ct ss tt∧Hid (ss.length=k)∧Hid (tt.length=k)∧Hid (ss.map RX.l=SS k)∧Hid (tt.map TX.T=TT k)∧Hid (CT k=0)∧Below w1.heap.size w1 wr) (fun iv _=>n+1 - (intOf iv).toNat)
 case atStart=>exact ⟨0,none,0,none,0,[],[],Nat.zero_le _,rfl,hC0,rfl,rfl,HSS0.out.symm,HTT0.out.symm,HT0.out,hbX⟩
 case round =>
  clear hC0 hbX
  obtain ⟨k,as',cs,at',ct,ss,tt,hk,rfl,hI,Hsl,Htl,Hss,Htt,Hct,hbr⟩:=hrel
  obtain ⟨c0,c1,c2,c3,c4,z3,z4,f3,f4⟩:=HSw.out wr hbr
  by_cases hlt:k<n
  ·obtain ⟨r,hr⟩:∃ r:Int,(k:Int)+1=r:=⟨_,rfl⟩
   have hr1:1≤r:=by omega
   have hrn:r≤n:=by omega
   have d1:decide (r≤(n:Int))=true:=by simp;omega
   have HFr:=Lib.hid (HFir.out wr r hbr)
   have HTsk:=Lib.hid (HTs.out k hlt Hct.out)
   have HSSk:=Lib.hid (HSS.out k)
   have HTTk:=Lib.hid (HTT.out k)
   rw [hr] at HTsk HSSk HTTk ⊢
   have Hr:=Lib.hid hr
   obtain ⟨S,hS⟩:∃ S,fr r=S:=⟨_,rfl⟩
   rw [hS] at HFr HTsk HSSk HTTk
   obtain ⟨v,hv⟩:∃ v,S.length=v:=⟨_,rfl⟩
   rw [hv] at HFr HTsk HTTk
   have Hv:=Lib.hid hv
   have HI:=Lib.hid hI
   have Hbr:=Lib.hid hbr
   clear hS hv hr hI hbr
   go_wp2_with fail
   refine HFr.out.mono ?_
   rintro e w3 ⟨a3,c3',rfl,hN3,hv16,hb3⟩
   clear c0 c1 c2 c3 c4 z3 z4 f3 f4 HFr
   have hbr3:=Below.next Hbr.out hb3
   obtain ⟨c0,c1,c2,c3,c4,z3,z4,f3,f4⟩:=HSw.out w3 hbr3
   have k1:(0:Int)≤(v:Int):=by omega
   have HB3:=Lib.hid (HBld.out w3 ((n:Int) - r+1) ((v:Int) - 1) (Below.next Hbw1.out hbr3))
   obtain ⟨bv,hbv⟩:∃ bv,bl ((n:Int) - r+1) ((v:Int) - 1)=bv:=⟨_,rfl⟩
   rw [hbv] at HB3 HTsk HTTk
   obtain ⟨er,T⟩:=bv
   have HN3:=Lib.hid hN3
   have Hb3:=Lib.hid hb3
   have Hbr3:=Lib.hid hbr3
   clear hbv hN3 hb3 hbr3
   go_wp2_with fail
   refine HB3.out.mono ?_
   rintro e w4 ⟨ar,nr,cr,R4,rfl,hO4,hb4⟩
   clear c0 c1 c2 c3 c4 z3 z4 f3 f4 HB3
   have hbr4:=Below.next Hbr3.out hb4
   by_cases her:er=0
   rotate_left
   ·have hbr5:=Below.next hbr4 (below1 w4 (.cells #[.slice ar nr cr] 37))
    obtain ⟨_,_,_,_,_,z3,z4,f3,f4⟩:=HSw.out _ hbr5
    have HR:=Lib.hid (HEr1.out _ er (HTn.out (k+1) er (by omega) HTsk.out her) her hbr5)
    have he':(er != 0)=true:=by simpa using her
    clear hO4
    go_upto_region 10 with fail
    obtain ⟨V,hV⟩:∃ V,w4.alloc (.cells #[.slice ar nr cr] 37)=V:=⟨_,rfl⟩
    rw [hV] at z3 z4 f3 f4 HR ⊢
    clear hV hbr5 her
    go_wp2_with fail
    exact bodyPost_ret (v:=.tuple #[.agg #[.slice none 0 0,.slice none 0 0],.int .i64 er]) (by simp [results,Tryz.results41,go_sem,z3,z4]) rfl HR.out
   ·subst her
    have hTe:(if (0:Int)=0 then T else [])=T:=if_pos rfl
    have hO4':OMat w4 w3.heap.size ar nr cr R4 T:=by simpa using hO4
    have hcap:=own_cap hO4'.own
    obtain rfl:T.length=nr:=hO4'.ll
    have Hct1:Hid (CT (k+1)=0):=HTsk.out
    have hTTk:TT (k+1)=TT k ++ [T]:=HTTk.out
    have HTTe:=Lib.hid hTTk
    have hb5:Below w4.heap.size w4 (w4.alloc (.cells #[.slice ar T.length cr] 37)):=below1 _ _
    have hI5:=((HI.out.keep Hb3.out).keep hb4).keep hb5
    have hlt3:∀ b,CA w1.heap.size w1.heap.size as' at' b→b<wr.heap.size:=fun b hb=>HI.out.lt b hb
    have hsz3:=Hb3.out.size
    have hMT:=(hO4'.matN.matA (A:=CA w1.heap.size w1.heap.size as' at') (fun b hb=>by have:=hlt3 b hb;omega)).keep hb5
    have hbw5:=Below.next hb4 hb5
    have hSx:=HN3.out.ints.keep hbw5
    have hSn:0<v→¬ CA w1.heap.size w1.heap.size as' at' (ablk a3):=fun h0 hc=>by
     have h1:=hlt3 _ hc
     have h2:=HN3.out.lo h0
     omega
    have hbr5:=Below.next hbr4 hb5
    have hy5:Box (w4.alloc (.cells #[.slice ar T.length cr] 37)) w4.heap.size [.slice ar T.length cr]:=Box.new _ _ _ rfl
    have hg3:∀ b,CA w1.heap.size w1.heap.size as' at' b→b ≠ w4.heap.size:=fun b hb e=>by have h1:=hlt3 b hb;have h2:=hb4.size;omega
    obtain ⟨q,hq⟩:∃ q,w4.heap.size=q:=⟨_,rfl⟩
    go_upto_region 10 with fail
    obtain ⟨V,hV⟩:∃ V,w4.alloc (.cells #[.slice ar T.length cr] 37)=V:=⟨_,rfl⟩
    rw [hV] at hI5 hMT hSx hbr5 hy5 ⊢
    rw [hq] at hy5 hg3
    try rw [hq]
    clear hV hb5 hbw5 hb4 hbr4 hO4 hO4' hq hTTk hTe hsz3
    have b0:=hI5.box.cell 0 rfl
    have g0:=hI5.box.frozen 0
    have hslk:ss.length=k:=Hsl.out
    have htlk:tt.length=k:=Htl.out
    have hso:=(hI5.keep (below1 V (.cells #[.slice a3 v c3'] 22))).so
    have hcn:=cell_new V (.slice a3 v c3') 22
    have b0':=cell_box b0 (.cells #[.slice a3 v c3'] 22)
    have hIc:=hI5
    rw [hslk] at b0 b0' hso
    have hs8:w1.heap.size≤(V.alloc (.cells #[.slice a3 v c3'] 22)).heap.size:=by have:=hbr5.size;simp;omega
    have hlt5:w1.heap.size<V.heap.size:=hI5.box.1
    have HI5:=Lib.hid (And.intro hI5 (And.intro hMT (And.intro hSx (And.intro hSn (And.intro hbr5 (And.intro hy5 (And.intro hg3 hcap)))))))
    have Hlt5:=Lib.hid hlt5
    have Hasb:=Lib.hid hI5.as1
    clear hI5 hMT hSx hSn hbr5 hy5 hg3 hIc hlt3 hcap hlt5
    go_upto_region 13 with (at_builtin;refine wpList_push rfl _ _ 25 22 rfl (.slice none 0 0) 24 Tryz.underlying25 infoInts rfl w1.heap.size as' k cs _ rfl hso ⟨V.heap.size,0,none⟩ 1 (.slice a3 v c3') rfl hcn rfl (by omega) (by unfold maxLen;omega) hs8 ?_;intro a5 c5 w5 hown5 hgr5 hap5;have b5:=cell_grownApt (ad:=⟨w1.heap.size,0,none⟩) hgr5 b0' Hasb.out;have g5:w5.frozen? ⟨w1.heap.size,0,none⟩=false:=frozen_grown hgr5 (by simp;have:=Hlt5.out;omega) (frozen_box Hlt5.out g0 _) Hasb.out)
    obtain ⟨hI5,hMT,hSx,hSn,hbr5,hy5,hg3,hcap⟩:=HI5.out
    have erx:rxW ⟨a3,c3',S⟩ = .slice a3 v c3':=by show Value.slice _ _ _=_;rw [Hv.out]
    have hown5':w5.ownsRow w1.heap.size 22 1 (.slice a5 (ss.length+1) c5) (ss.length+1) (ss.map rxW ++ [rxW ⟨a3,c3',S⟩]):=by rw [hslk,erx];exact hown5
    obtain ⟨hI6,hM6,hbp⟩:=CerI.pushS hI5 (x:=⟨a3,c3',S⟩) (by show Ints V a3 S.length S;rw [Hv.out];exact hSx) (by show 0<S.length→_;rw [Hv.out];exact hSn) hown5' (by rw [hslk];exact hgr5) hap5
    have hbr6:=hbp _ hbr5
    rw [hslk] at hI6 hM6 hbr6
    have hMT6:=hMT.moves2 hM6
    have hy6:=hM6.cell (hy5.cell 0 rfl) (fun h=>hg3 _ h rfl)
    obtain ⟨V6,hV6⟩:∃ V6,w5.setCell ⟨w1.heap.size,0,none⟩ (.slice a5 (k+1) c5)=V6:=⟨_,rfl⟩
    rw [hV6] at hI6 hbr6 hMT6 hy6 ⊢
    clear hV6 hown5 hown5' hgr5 hap5 hI5 hMT hSx hSn hbr5 hy5 hg3 hM6 hbp b0 b0' g0 hso hcn hs8 b5 g5 HI5 erx
    have b1:=hI6.box.cell 1 rfl
    have g1:=hI6.box.frozen 1
    have hto:=(hI6.keep (below1 V6 (.cells #[.slice ar T.length cr] 37))).tow
    have hcn2:=cell_new V6 (.slice ar T.length cr) 37
    have b1':=cell_box b1 (.cells #[.slice ar T.length cr] 37)
    rw [htlk] at b1 b1' hto
    have hs9:w1.heap.size≤(V6.alloc (.cells #[.slice ar T.length cr] 37)).heap.size:=by have:=hbr6.size;simp;omega
    have hlt6:w1.heap.size<V6.heap.size:=hI6.box.1
    have HI6:=Lib.hid (And.intro hI6 (And.intro hMT6 (And.intro hbr6 hcap)))
    have Hlt6:=Lib.hid hlt6
    have Hatb:=Lib.hid hI6.at1
    clear hI6 hMT6 hbr6 hcap hlt6
    go_wp2_with (at_builtin;refine wpList_pushT rfl _ _ 57 37 rfl (.agg #[.slice none 0 0]) 24 Tryz.underlying57 infoExc rfl w1.heap.size at' k ct _ rfl hto ⟨V6.heap.size,0,none⟩ 1 (.slice ar T.length cr) rfl hcn2 rfl (by omega) (by unfold maxLen;omega) hs9 ?_;intro a6 c6 w6 hown6 hgr6 hap6;have b6:=cell_grownApt (ad:=⟨w1.heap.size,1,none⟩) hgr6 b1' Hatb.out;have g6:w6.frozen? ⟨w1.heap.size,1,none⟩=false:=frozen_grown hgr6 (by simp;have:=Hlt6.out;omega) (frozen_box Hlt6.out g1 _) Hatb.out)
    go_roundw
    case rel =>
     obtain ⟨hI6,hMT6,hbr6,hcap⟩:=HI6.out
     have hown6':w6.ownsRow w1.heap.size 37 1 (.slice a6 (tt.length+1) c6) (tt.length+1) (tt.map txV ++ [txV ⟨ar,cr,T⟩]):=by rw [htlk];exact hown6
     obtain ⟨hI7,_,hbp⟩:=CerI.pushT hI6 (x:=⟨ar,cr,T⟩) hMT6 hcap hown6' (by rw [htlk];exact hgr6) hap6
     have hbr7:=hbp _ hbr6
     rw [htlk] at hI7 hbr7
     refine ⟨k+1,a5,c5,a6,c6,ss ++ [⟨a3,c3',S⟩],tt ++ [⟨ar,cr,T⟩],by omega,?_,hI7,by show _=_;rw [List.length_append,hslk];rfl,by show _=_;rw [List.length_append,htlk];rfl,by show _=_;rw [List.map_append,Hss.out,HSSk.out];rfl,by show _=_;rw [List.map_append,Htt.out,HTTe.out];rfl,Hct1.out,hbr7⟩
     have:=Hr.out
     congr 1
     omega
    case measure =>
     have:=Hr.out
     simp [intOf] <;> omega
  ·obtain rfl:k=n:=by omega
   have d1:decide ((k:Int)+1≤(k:Int))=false:=by simp;omega
   have b0:=hI.box.cell 0 rfl
   have b1:=hI.box.cell 1 rfl
   rw [Hsl.out] at b0
   rw [Htl.out] at b1
   have hI2:=(hI.set (p:=⟨w.heap.size+1,0,none⟩) (by show w.heap.size+1<w1.heap.size;omega) (.slice as' k cs)).set (p:=⟨w.heap.size+1,1,none⟩) (by show w.heap.size+1<w1.heap.size;omega) (.slice at' k ct)
   obtain ⟨q1,q2⟩:=hI2.mat
   rw [Hsl.out,Hss.out] at q1
   rw [Htl.out,Htt.out] at q2
   have HF:=Lib.hid (HPost.out as' cs at' ct _ (HTe.out Hct.out) q1 q2 (((Below.next Hbw1.out hbr).setCell (p:=⟨w.heap.size+1,0,none⟩) (by simp) _).setCell (p:=⟨w.heap.size+1,1,none⟩) (by simp) _))
   clear hI hI2 q1 q2
   go_wp2_with fail
   exact bodyPost_ret (v:=.tuple #[.agg #[.slice as' k cs,.slice at' k ct],.int .i64 0]) (by simp [results,Tryz.results41,go_sem,z3,z4]) rfl HF.out
end

section
open Go.RowKit
set_option maxRecDepth 100000 in
set_option maxHeartbeats 3200000 in
theorem rSmall29_any (P M:Int) (am:Option Addr) (mn cm:Nat) (mod:List Int) (N:Int) (a:Option Addr) (n c:Nat) (L:List (List Int)) (w:World) (hmod:Ints w am mn mod) (hi:Mat w a n L) :
  Calls Tryz.prog 27 #[.agg #[.int .i64 P,.int .i64 M,.slice am mn cm,.int .i64 N,.slice a n c]] w (SomeBool w):=by
 have H:Hid (∀ V,Below w.heap.size w V→Calls Tryz.prog 44 #[.agg #[.int .i64 P,.int .i64 M,.slice am mn cm,.int .i64 N,.slice a n c],.int .i64 120] V (SomeBool V)):=fun V hV=>rFew12_any P M am mn cm N a n c 120 L V (hi.keep hV) (by omega)
 have H2:Hid (∀ V,Below w.heap.size w V→Calls Tryz.prog 47 #[.agg #[.int .i64 P,.int .i64 M,.slice am mn cm,.int .i64 N,.slice a n c]] V fun e w'=>e = .returned (.int .i64 (codeE P M mod N L))∧Below V.heap.size V w'):=fun V hV=>rCheck_any P M am mn cm mod N a n c L V (hmod.keep hV) (hi.keep hV)
 clear hi hmod
 go_enter Tryz.func27,Tryz.ntmps27
 go_upto_region 1 with fail
 obtain ⟨W,hW⟩:∃ W:World,W=w.alloc (.cells #[.int .i64 P,.int .i64 M,.slice am mn cm,.int .i64 N,.slice a n c] 27):=⟨_,rfl⟩
 rw [← hW]
 have hbW:Below w.heap.size w W:=by rw [hW];exact below1 _ _
 have x0:Box W w.heap.size [.int .i64 P,.int .i64 M,.slice am mn cm,.int .i64 N,.slice a n c]:=by rw [hW];exact Box.new _ _ _ rfl
 have HX:=Lib.hid x0
 have c0:=x0.cell 0 rfl
 have c1:=x0.cell 1 rfl
 have c2:=x0.cell 2 rfl
 have c3:=x0.cell 3 rfl
 have c4:=x0.cell 4 rfl
 clear hW x0
 have Hf:=Lib.hid (H.out W hbW)
 generalize codeE P M mod N L=er at *
 clear H
 go_wp2_with fail
 refine Hf.out.mono ?_
 rintro e w1 ⟨z,rfl,hb1⟩
 have hF:=Below.next hbW hb1
 clear c0 c1 c2 c3 c4
 cases z
 ·go_wp2_with fail
  go_ret
  exact ⟨_,rfl,hF⟩
 have x1:=HX.out.keep hb1
 have c0:=x1.cell 0 rfl
 have c1:=x1.cell 1 rfl
 have c2:=x1.cell 2 rfl
 have c3:=x1.cell 3 rfl
 have c4:=x1.cell 4 rfl
 clear x1
 go_wp2_with fail
 refine (H2.out w1 hF).mono ?_
 rintro e w2 ⟨rfl,hb2⟩
 have hF2:=Below.next hF hb2
 have q3:=(HX.out.keep (Below.next hb1 hb2)).cell 3 rfl
 clear c0 c1 c2 c3 c4
 by_cases hE:er=0
 ·have d0:(er != 0)=false:=by simpa using hE
  clear hE
  by_cases h1:16<N
  ·have d1:decide (16<N)=true:=by simpa using h1
   clear h1
   go_wp2_with fail
   go_ret
   exact ⟨_,rfl,hF2⟩
  ·have d1:decide (16<N)=false:=by simpa using h1
   clear h1
   go_wp2_with fail
   go_ret
   exact ⟨_,rfl,hF2⟩
 ·have d0:(er != 0)=true:=by simpa using hE
  clear hE
  go_wp2_with fail
  go_ret
  exact ⟨_,rfl,hF2⟩
def wtsX (P M:Int) (mod:List Int) (N:Int) (L:List (List Int)):List Int:=if dimE P M mod N L=0 then wtsR (tblOf P M.toNat mod).ops L N.toNat L.length else []
theorem dimE_rws {P M:Int} {mod:List Int} {N:Int} {L:List (List Int)} (h:dimE P M mod N L=0):∃ (m:Nat),N=m∧1≤m∧m≤16∧Fld (tblOf P M.toNat mod).ops (tblOf P M.toNat mod).El∧Rws (tblOf P M.toNat mod).El m L:=by
 obtain ⟨hE,h1,h16⟩:=dimE_zero h
 obtain ⟨m,hm,hm1,hm64,F,hR⟩:=codeE_fld hE
 exact ⟨m,hm,hm1,by omega,F,hR⟩
section
variable (P M:Int) (am:Option Addr) (mn cm:Nat) (mod:List Int) (N:Int) (a:Option Addr) (n c:Nat) (L:List (List Int)) (w:World)
theorem weights_u (hmod:Ints w am mn mod) (hi:Mat w a n L) :
  Calls Tryz.prog 28 #[.agg #[.int .i64 P,.int .i64 M,.slice am mn cm,.int .i64 N,.slice a n c]] w (PairU (dimE P M mod N L) (wtsX P M mod N L) w):=by
 refine (weights_any P M am mn cm mod N a n c L w hmod hi).mono ?_
 rintro e w' ⟨hb,⟨h0,rfl⟩ | ⟨h0,a',c',rfl,h⟩⟩
 ·exact pair_no hb h0
 ·refine pair_ok hb h0 ?_
  obtain ⟨m,rfl,hm1,hm16,F,hR⟩:=dimE_rws h0
  rw [Int.toNat_natCast] at h ⊢
  rw [← wts_eq F hR (by omega)]
  exact (Ints.own h).1
end
end

section
open Go.RowKit
set_option maxRecDepth 100000 in
set_option maxHeartbeats 4000000 in
theorem rSame29_t (as':Option Addr) (ns cs:Nat) (SS:List (List Int)) (at':Option Addr) (nt ct:Nat) (TT:List (List (List Int))) (as2:Option Addr) (ns2 cs2:Nat) (at2:Option Addr) (nt2 ct2:Nat) (w:World)
  (h1:Mat w as' ns SS) (h2:Trees w at' nt TT) (h3:Mat w as2 ns2 SS) (h4:Trees w at2 nt2 TT) :
  Calls Tryz.prog 42 #[.agg #[.slice as' ns cs,.slice at' nt ct],.agg #[.slice as2 ns2 cs2,.slice at2 nt2 ct2]] w fun e w'=>e = .returned (.bool true)∧Below w.heap.size w w':=by
 obtain rfl:nt2=nt:=by rw [← h4.len,h2.len]
 have hpl:=h2.pl
 have hpl2:=h4.pl
 have hmax:=h2.max
 unfold maxLen at hmax
 have hnn:((nt2:Int) != nt2)=false:=by simp
 have HR:Hid (∀ V,Below w.heap.size w V→Calls Tryz.prog 55 #[.slice as' ns cs,.slice as2 ns2 cs2] V (QuietBool V true)):=fun V hV=>by
  have h:=rSameRows_any as' ns cs SS as2 ns2 cs2 SS (h1.keep hV) (h3.keep hV)
  rw [decide_eq_true rfl] at h
  exact h
 have HT:Hid (∀ k,k<nt2→∃ b1 m1 c1 b2 m2 c2,∀ V,Below w.heap.size w V→V.cell? ⟨ablk at',aoff at'+k,none⟩=some (.slice b1 m1 c1)∧V.cell? ⟨ablk at2,aoff at2+k,none⟩=some (.slice b2 m2 c2) ∧
   Calls Tryz.prog 86 #[.agg #[.slice b1 m1 c1],.agg #[.slice b2 m2 c2]] V fun e w'=>e = .returned (.bool true)∧Below V.heap.size V w'):=fun k hk=>by
  obtain ⟨b1,m1,c1,x1,x2,_⟩:=h2.cell k hk
  obtain ⟨b2,m2,c2,y1,y2,_⟩:=h4.cell k hk
  refine ⟨b1,m1,c1,b2,m2,c2,fun V hV=>⟨cell_keep hV x1,cell_keep hV y1,?_⟩⟩
  have h:=rSame26_any b1 m1 c1 (nthT TT k) b2 m2 c2 (nthT TT k) V (x2.keep hV) (y2.keep hV)
  rw [decide_eq_true rfl] at h
  exact h
 clear h1 h2 h3 h4
 go_enter Tryz.func42,Tryz.ntmps42
 go_upto_region 1 with fail
 obtain ⟨W,hW⟩:∃ W:World,W=(w.alloc (.cells #[.slice as' ns cs,.slice at' nt2 ct] 59)).alloc (.cells #[.slice as2 ns2 cs2,.slice at2 nt2 ct2] 59):=⟨_,rfl⟩
 rw [← hW]
 have hbW:Below w.heap.size w W:=by rw [hW];exact below2 _ _ _
 have x0:Box W w.heap.size [.slice as' ns cs,.slice at' nt2 ct]:=by rw [hW];exact (Box.new _ _ _ rfl).alloc _
 have y0:Box W (w.heap.size+1) [.slice as2 ns2 cs2,.slice at2 nt2 ct2]:=by rw [hW];exact Box.new _ _ _ (by simp)
 have HS:Hid (∀ V,Below W.heap.size W V→V.cell? ⟨w.heap.size,0,none⟩=some (.slice as' ns cs)∧V.cell? ⟨w.heap.size,1,none⟩=some (.slice at' nt2 ct)∧V.cell? ⟨w.heap.size+1,0,none⟩=some (.slice as2 ns2 cs2)∧V.cell? ⟨w.heap.size+1,1,none⟩=some (.slice at2 nt2 ct2)):=fun V hV=>by
  have x1:=x0.keep hV
  have y1:=y0.keep hV
  exact ⟨x1.cell 0 rfl,x1.cell 1 rfl,y1.cell 0 rfl,y1.cell 1 rfl⟩
 have HbW:=Lib.hid hbW
 clear hW x0 y0
 have Hc:=Lib.hid (HR.out W hbW)
 obtain ⟨c0,c1,c2,c3⟩:=HS.out W (Below.refl _ _)
 clear hbW HR
 go_wp2_with fail
 refine Hc.out.mono ?_
 rintro e w1 ⟨rfl,r1⟩
 have hb1:=r1.below
 clear c0 c1 c2 c3 Hc r1
 obtain ⟨c0,c1,c2,c3⟩:=HS.out w1 hb1
 go_wp2_with fail
 go_loopw [5] (fun iv wr=>∃ k:Nat,k≤nt2∧iv = .int .i64 k∧Below W.heap.size W wr) (fun i _=>nt2 - (intOf i).toNat)
 case atStart=>exact ⟨0,Nat.zero_le _,rfl,hb1⟩
 case round =>
  obtain ⟨k,hk,rfl,hbr⟩:=hrel
  clear c0 c1 c2 c3
  obtain ⟨c0,c1,c2,c3⟩:=HS.out wr hbr
  by_cases hlt:k<nt2
  ·obtain ⟨b1,m1,d1,b2,m2,d2,hk2⟩:=HT.out k hlt
   have Hk2:=Lib.hid hk2
   have Hbr:=Lib.hid hbr
   clear hk2 hbr
   have HSk:Hid (∀ V,Below W.heap.size W V→V.cell? ⟨w.heap.size,0,none⟩=some (.slice as' ns cs)∧V.cell? ⟨w.heap.size,1,none⟩=some (.slice at' nt2 ct)∧V.cell? ⟨w.heap.size+1,0,none⟩=some (.slice as2 ns2 cs2)∧V.cell? ⟨w.heap.size+1,1,none⟩=some (.slice at2 nt2 ct2)∧V.cell? ⟨ablk at',aoff at'+k,none⟩=some (.slice b1 m1 d1)∧V.cell? ⟨ablk at2,aoff at2+k,none⟩=some (.slice b2 m2 d2)∧Below W.heap.size W V):=fun V hV=>by
    obtain ⟨a0,a1,a2,a3⟩:=HS.out V hV
    obtain ⟨a4,a5,_⟩:=Hk2.out V (Below.next HbW.out hV)
    exact ⟨a0,a1,a2,a3,a4,a5,hV⟩
   have Hca:Hid (∀ V,Below W.heap.size W V→Calls Tryz.prog 86 #[.agg #[.slice b1 m1 d1],.agg #[.slice b2 m2 d2]] V fun e w'=>e = .returned (.bool true)∧Below V.heap.size V w'):=fun V hV=>(Hk2.out V (Below.next HbW.out hV)).2.2
   clear c0 c1 c2 c3
   obtain ⟨c0,c1,c2,c3,_⟩:=HSk.out wr Hbr.out
   go_wp2_with fail
   go_region_held3 (fun V=>V.cell? ⟨w.heap.size,0,none⟩=some (.slice as' ns cs)∧V.cell? ⟨w.heap.size,1,none⟩=some (.slice at' nt2 ct)∧V.cell? ⟨w.heap.size+1,0,none⟩=some (.slice as2 ns2 cs2)∧V.cell? ⟨w.heap.size+1,1,none⟩=some (.slice at2 nt2 ct2)∧V.cell? ⟨ablk at',aoff at'+k,none⟩=some (.slice b1 m1 d1)∧V.cell? ⟨ablk at2,aoff at2+k,none⟩=some (.slice b2 m2 d2)∧Below W.heap.size W V)
    ((refine HSk.out _ ?_;first | exact Hbr.out.drew | (go_split_ands;first | assumption | exact Below.next (by assumption) (by assumption))))
    (first
     | (go_at_call 86;((with_reducible refine (Hca.out _ (by go_split_ands;assumption)).mono ?_);rintro e w6 ⟨rfl,hb6⟩)))
   have hbV:Below W.heap.size W w6:=by go_split_ands;assumption
   go_wp2_with fail
   go_roundw
   case rel=>exact ⟨k+1,by omega,by go_num,hbV⟩
   case measure=>simp [intOf] <;> omega
  ·obtain rfl:k=nt2:=by omega
   have hF:=Below.next HbW.out hbr
   go_wp2_with fail
   go_ret
   exact ⟨rfl,hF⟩
theorem cerTo_each {P M:Int} {mod:List Int} {N:Int} {L:List (List Int)}:∀ {n:Nat},cerTo P M mod N L n=0→∀ k,k<n→(cerB P M mod N L k).1=0
 | 0,_,k,hk=>by omega
 | n+1,h,k,hk=>by
  rw [cerTo] at h
  by_cases h0:cerTo P M mod N L n=0
  ·rw [if_pos h0] at h
   by_cases e:k=n
   ·rw [e];exact h
   ·exact cerTo_each h0 k (by omega)
  ·rw [if_neg h0] at h
   exact absurd h h0
theorem hokTo_all {P M:Int} {mod:List Int} {m:Nat} {L SS:List (List Int)} {TT:List (List (List Int))}:∀ {n:Nat},(∀ k,k<n→hokB P M mod m L SS TT k=true)→hokTo P M mod m L SS TT n=true
 | 0,_=>rfl
 | n+1,h=>by
  rw [hokTo,hokTo_all fun k hk=>h k (by omega),h n (by omega)]
  rfl
theorem cerSS_at {P M:Int} {mod:List Int} {N:Int} {L:List (List Int)} {n k:Nat} (h:k<n):nthR (cerSS P M mod N L n) k=firS (tblOf P M.toNat mod).ops L N.toNat ((k:Int)+1):=by
 rw [nthR_getElem (by simpa [cerSS] using h)]
 simp [cerSS]
theorem cerTT_at {P M:Int} {mod:List Int} {N:Int} {L:List (List Int)} {n k:Nat} (h:k<n):nthT (cerTT P M mod N L n) k=(cerB P M mod N L k).2:=by
 rw [nthT_getElem (by simpa [cerTT] using h)]
 simp [cerTT]
theorem cer_ok {P M:Int} {mod:List Int} {N:Int} {L:List (List Int)} (h:cerE P M mod N L=0) :
  hcE P M mod N L (cerSS P M mod N L L.length) (cerTT P M mod N L L.length)=0∧lenL (cerSS P M mod N L L.length) L.length=wtsX P M mod N L∧dimE P M mod N L=0:=by
 have hd:dimE P M mod N L=0:=by
  unfold cerE at h
  by_cases h0:dimE P M mod N L=0
  ·exact h0
  ·rw [if_neg h0] at h;exact absurd h h0
 obtain ⟨m,rfl,hm1,hm16,F,hR⟩:=dimE_rws hd
 have hE:=(dimE_zero hd).1
 have hc:cerTo P M mod m L L.length=0:=by
  unfold cerE at h
  rw [if_pos hd] at h
  exact h
 refine ⟨?_,?_,hd⟩
 ·unfold hcE
  rw [if_pos hE,if_pos]
  refine ⟨by simp [cerSS],by simp [cerTT],hokTo_all fun k hk=>?_⟩
  unfold hokB
  rw [cerSS_at hk,cerTT_at hk,Int.toNat_natCast]
  obtain ⟨a1,a2,_⟩:=fir_some F hR (by omega) (show (k:Int)+1≤L.length by omega)
  have h1:okSet m (firS (tblOf P M.toNat mod).ops L m ((k:Int)+1))=true:=by
   have h:=okSet_frTo true (firS (tblOf P M.toNat mod).ops L m ((k:Int)+1)) m
   rw [used_asc a1] at h
   exact h
  have h2:=cerTo_each hc k hk
  have h3:chkRE P M mod m L ((L.length:Int) - ((k:Int)+1)+1) (((firS (tblOf P M.toNat mod).ops L m ((k:Int)+1)).length:Int) - 1) (cerB P M mod m L k).2=0:=by
   unfold cerB at h2 ⊢
   rw [Int.toNat_natCast] at h2 ⊢
   exact bld_chk h2
  rw [h1,decide_eq_true a2,decide_eq_true h3]
  rfl
 ·unfold wtsX
  rw [if_pos hd]
  unfold lenL wtsR
  refine List.map_congr_left fun r hr=>?_
  rw [List.mem_range] at hr
  rw [cerSS_at hr]
end

section
open Go.RowKit
def ifL {α:Type} (er:Int) (x:List α):List α:=if er=0 then x else []
end

section
open Go.RowKit
def CertU (er:Int) (SS:List (List Int)) (TT:List (List (List Int))) (w:World) (e:Ending) (w':World):Prop :=
 Below w.heap.size w w'∧∃ as' ns cs at' nt ct,e = .returned (.tuple #[.agg #[.slice as' ns cs,.slice at' nt ct],.int .i64 er])∧Mat w' as' ns SS∧Trees w' at' nt TT
theorem cert_u {P M:Int} {mod:List Int} {N:Int} {L:List (List Int)} {w w':World} {e:Ending} (h:CerPost P M mod N L.length L w e w') :
  CertU (cerE P M mod N L) (ifL (cerE P M mod N L) (cerSS P M mod N L L.length)) (ifL (cerE P M mod N L) (cerTT P M mod N L L.length)) w e w':=by
 obtain ⟨hb,⟨h0,rfl⟩ | ⟨h0,as',cs,at',ct,rfl,h1,h2⟩⟩:=h
 ·simp only [ifL,if_neg h0]
  exact ⟨hb,none,0,0,none,0,0,rfl,Mat.none0 _ 0,Trees.none0 _⟩
 ·simp only [ifL,if_pos h0]
  exact ⟨hb,as',_,cs,at',_,ct,by rw [h0],h1,h2⟩
def hckX (P M:Int) (mod:List Int) (N:Int) (L SS:List (List Int)) (TT:List (List (List Int))):List Int:=if hcE P M mod N L SS TT=0 then lenL SS L.length else []
theorem hck_u {P M:Int} {mod:List Int} {N:Int} {L SS:List (List Int)} {TT:List (List (List Int))} {w w':World} {e:Ending} (h:HChkPost P M mod N L.length L SS TT w e w') :
  PairU (hcE P M mod N L SS TT) (hckX P M mod N L SS TT) w e w':=by
 obtain ⟨hb,⟨h0,rfl⟩ | ⟨h0,a,c,rfl,h1⟩⟩:=h
 ·exact pair_no hb h0
 ·exact pair_ok hb h0 (Ints.own h1).1
set_option maxRecDepth 100000 in
set_option maxHeartbeats 4000000 in
theorem hLawCertify_any (P M:Int) (am:Option Addr) (mn cm:Nat) (mod:List Int) (N:Int) (a:Option Addr) (n c:Nat) (L:List (List Int)) (w:World) (hmod:Ints w am mn mod) (hi:Mat w a n L) :
  Calls Tryz.prog 8 #[.agg #[.int .i64 P,.int .i64 M,.slice am mn cm,.int .i64 N,.slice a n c]] w fun e w'=>e = .returned (.bool true)∧Below w.heap.size w w':=by
 have hln:=hi.len
 have HSm:Hid (∀ V,Below w.heap.size w V→Calls Tryz.prog 27 #[.agg #[.int .i64 P,.int .i64 M,.slice am mn cm,.int .i64 N,.slice a n c]] V (SomeBool V)):=fun V hV=>rSmall29_any P M am mn cm mod N a n c L V (hmod.keep hV) (hi.keep hV)
 have H1:=Lib.hid (fun V (hV:Below w.heap.size w V)=>(hCertify_any P M am mn cm mod N a n c L V (hmod.keep hV) (hi.keep hV)).mono fun e w' (h:CerPost P M mod N n L V e w')=>cert_u (by rw [hln];exact h))
 have H2:=Lib.hid (fun V (hV:Below w.heap.size w V)=>(rCertify29_any P M am mn cm mod N a n c L V (hmod.keep hV) (hi.keep hV)).mono fun e w' (h:CerPost P M mod N n L V e w')=>cert_u (by rw [hln];exact h))
 have H3:Hid (cerE P M mod N L=0→∀ V as' ns cs at' nt ct,Below w.heap.size w V→Mat V as' ns (ifL (cerE P M mod N L) (cerSS P M mod N L L.length))→Trees V at' nt (ifL (cerE P M mod N L) (cerTT P M mod N L L.length)) →
   Calls Tryz.prog 43 #[.agg #[.int .i64 P,.int .i64 M,.slice am mn cm,.int .i64 N,.slice a n c],.agg #[.slice as' ns cs,.slice at' nt ct]] V (PairU 0 (wtsX P M mod N L) V)):=fun h0 V as' ns cs at' nt ct hV h1 h2=>by
  simp only [ifL,if_pos h0] at h1 h2
  obtain ⟨q1,q2,_⟩:=cer_ok h0
  refine (hCheck_any P M am mn cm mod N a n c L as' ns cs _ at' nt ct _ V (hmod.keep hV) (hi.keep hV) h1 h2).mono fun e w' h=>?_
  have h3:=hck_u (by rw [hln];exact h)
  unfold hckX at h3
  rw [q1,if_pos rfl,q2] at h3
  exact h3
 have H4:Hid (cerE P M mod N L=0→∀ V,Below w.heap.size w V→Calls Tryz.prog 28 #[.agg #[.int .i64 P,.int .i64 M,.slice am mn cm,.int .i64 N,.slice a n c]] V (PairU 0 (wtsX P M mod N L) V)):=fun h0 V hV=>by
  have h:=weights_u P M am mn cm mod N a n c L V (hmod.keep hV) (hi.keep hV)
  rw [(cer_ok h0).2.2] at h
  exact h
 clear hmod hi hln
 generalize cerE P M mod N L=er at *
 generalize ifL er (cerSS P M mod N L L.length)=SS at *
 generalize ifL er (cerTT P M mod N L L.length)=TT at *
 generalize wtsX P M mod N L=X at *
 go_enter Tryz.func8,Tryz.ntmps8
 go_wp2_with fail
 obtain ⟨W,hW⟩:∃ W:World,W=w.alloc (.cells #[.int .i64 P,.int .i64 M,.slice am mn cm,.int .i64 N,.slice a n c] 27):=⟨_,rfl⟩
 rw [← hW]
 have hbW:Below w.heap.size w W:=by rw [hW];exact below1 _ _
 have x0:Box W w.heap.size [.int .i64 P,.int .i64 M,.slice am mn cm,.int .i64 N,.slice a n c]:=by rw [hW];exact Box.new _ _ _ rfl
 have HS:Hid (∀ V,Below W.heap.size W V→V.cell? ⟨w.heap.size,0,none⟩=some (.int .i64 P)∧V.cell? ⟨w.heap.size,1,none⟩=some (.int .i64 M)∧V.cell? ⟨w.heap.size,2,none⟩=some (.slice am mn cm)∧V.cell? ⟨w.heap.size,3,none⟩=some (.int .i64 N)∧V.cell? ⟨w.heap.size,4,none⟩=some (.slice a n c)):=fun V hV=>by
  have x1:=x0.keep hV
  exact ⟨x1.cell 0 rfl,x1.cell 1 rfl,x1.cell 2 rfl,x1.cell 3 rfl,x1.cell 4 rfl⟩
 have HbW:=Lib.hid hbW
 clear hW x0 hbW
 refine (awake29_any W).mono ?_
 rintro e w1 ⟨rfl,hb1⟩
 obtain ⟨c0,c1,c2,c3,c4⟩:=HS.out w1 hb1
 go_wp2_with fail
 refine (HSm.out w1 (Below.next HbW.out hb1)).mono ?_
 rintro e w2 ⟨z,rfl,hb2⟩
 have hB2:=Below.next hb1 hb2
 have HBad:Hid (Calls Tryz.prog 26 #[] w2 fun e w'=>e = .returned (.bool true)∧Below w2.heap.size w2 w'):=awake29_any w2
 clear c0 c1 c2 c3 c4
 cases z
 ·go_wp2_with fail
  refine HBad.out.mono ?_
  rintro e w3 ⟨rfl,hb3⟩
  have hF:=Below.next HbW.out (Below.next hB2 hb3)
  go_wp2_with fail
  go_ret
  exact ⟨rfl,hF⟩
 obtain ⟨c0,c1,c2,c3,c4⟩:=HS.out w2 hB2
 by_cases hbad:7<N∧N≤16
 ·have d1:decide (7<N)=true:=by simpa using hbad.1
  have d2:decide (N≤16)=true:=by simpa using hbad.2
  clear hbad
  go_wp2_with fail
  refine HBad.out.mono ?_
  rintro e w3 ⟨rfl,hb3⟩
  have hF:=Below.next HbW.out (Below.next hB2 hb3)
  go_wp2_with fail
  go_ret
  exact ⟨rfl,hF⟩
 have hgo:decide (7<N)=false∨(decide (7<N)=true∧decide (N≤16)=false):=by
  by_cases h7:7<N
  ·exact .inr ⟨by simpa using h7,by simp;omega⟩
  ·exact .inl (by simpa using h7)
 clear hbad HBad
 rcases hgo with d1 | ⟨d1,d2⟩
 all_goals
  go_wp2_with fail
  refine (H1.out w2 (Below.next HbW.out hB2)).mono ?_
  rintro e w3 ⟨hb3,a1,n1,k1,a2,n2,k2,rfl,h1,h2⟩
  have t3:=below1 w3 (.cells #[.slice a1 n1 k1,.slice a2 n2 k2] 59)
  have y3:Box (w3.alloc (.cells #[.slice a1 n1 k1,.slice a2 n2 k2] 59)) w3.heap.size [.slice a1 n1 k1,.slice a2 n2 k2]:=Box.new _ _ _ rfl
  have HY3:=Lib.hid (fun V hV=>⟨y3.keep hV,(h1.keep t3).keep hV,(h2.keep2 t3).keep2 hV⟩:∀ V,Below (w3.alloc (.cells #[.slice a1 n1 k1,.slice a2 n2 k2] 59)).heap.size (w3.alloc (.cells #[.slice a1 n1 k1,.slice a2 n2 k2] 59)) V→Box V w3.heap.size [.slice a1 n1 k1,.slice a2 n2 k2]∧Mat V a1 n1 SS∧Trees V a2 n2 TT)
  have hB3:=Below.next hB2 (Below.next hb3 t3)
  clear c0 c1 c2 c3 c4 y3 h1 h2 t3 hb3
  obtain ⟨c0,c1,c2,c3,c4⟩:=HS.out _ hB3
  go_wp2_with fail
  refine (H2.out _ (Below.next HbW.out hB3)).mono ?_
  rintro e w4 ⟨hb4,a3,n3,k3,a4,n4,k4,rfl,h3,h4⟩
  have t4:=below1 w4 (.cells #[.slice a3 n3 k3,.slice a4 n4 k4] 59)
  have y4:Box (w4.alloc (.cells #[.slice a3 n3 k3,.slice a4 n4 k4] 59)) w4.heap.size [.slice a3 n3 k3,.slice a4 n4 k4]:=Box.new _ _ _ rfl
  have g4:=Below.next hb4 t4
  have hB4:=Below.next hB3 g4
  have HZ:=Lib.hid (HY3.out _ g4)
  have Hsame:=Lib.hid (rSame29_t a1 n1 k1 SS a2 n2 k2 TT a3 n3 k3 a4 n4 k4 _ HZ.out.2.1 HZ.out.2.2 (h3.keep t4) (h4.keep2 t4))
  have x3:=HZ.out.1
  have q0:=x3.cell 0 rfl
  have q1:=x3.cell 1 rfl
  have q2:=y4.cell 0 rfl
  have q3:=y4.cell 1 rfl
  clear c0 c1 c2 c3 c4 y4 h3 h4 x3 t4 hb4
  go_wp2_with fail
  refine Hsame.out.mono ?_
  rintro e w5 ⟨rfl,hb5⟩
  have hB5:=Below.next hB4 hb5
  have HY5:=Lib.hid (HY3.out _ (Below.next g4 hb5))
  clear q0 q1 q2 q3 g4
  by_cases h0:er=0
  rotate_left
  ·have hd:(er != 0)=true:=by simpa using h0
   have hF:=Below.next HbW.out hB5
   clear h0
   go_wp2_with fail
   go_ret
   exact ⟨rfl,hF⟩
  have Hck:=Lib.hid (H3.out h0 w5 a1 n1 k1 a2 n2 k2 (Below.next HbW.out hB5) HY5.out.2.1 HY5.out.2.2)
  have Hwt:=Lib.hid (H4.out h0)
  have hd:(er != 0)=false:=by simpa using h0
  have x5:=HY5.out.1
  have q0:=x5.cell 0 rfl
  have q1:=x5.cell 1 rfl
  obtain ⟨c0,c1,c2,c3,c4⟩:=HS.out _ hB5
  clear h0 x5
  go_wp2_with fail
  refine Hck.out.mono ?_
  rintro e w6 ⟨hb6,a5,n5,k5,rfl,h5⟩
  have hB6:=Below.next hB5 hb6
  clear c0 c1 c2 c3 c4 q0 q1
  obtain ⟨c0,c1,c2,c3,c4⟩:=HS.out _ hB6
  go_wp2_with fail
  refine (Hwt.out _ (Below.next HbW.out hB6)).mono ?_
  rintro e w7 ⟨hb7,a6,n6,k6,rfl,h6⟩
  have hB7:=Below.next hB6 hb7
  clear c0 c1 c2 c3 c4
  have Hc:=Lib.hid (sameInts_t a5 n5 k5 X a6 n6 k6 (h5.keep hb7) h6)
  have hF:=Below.next HbW.out hB7
  clear h5 h6
  go_wp2_with fail
  refine Hc.out.mono ?_
  rintro e w8 ⟨rfl,r8⟩
  have hF8:=Below.next hF r8.below
  go_wp2_with fail
  go_ret
  exact ⟨rfl,hF8⟩
end

end Go.Proofs.YtcflcogbpnmjeaaGreat
