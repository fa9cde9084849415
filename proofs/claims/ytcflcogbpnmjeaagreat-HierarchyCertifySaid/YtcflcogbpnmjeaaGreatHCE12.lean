/-  -/
import Derived.Test.YtcflcogbpnmjeaaGreatK32
import Derived.Test.YtcflcogbpnmjeaaGreatHCE11
namespace Go.Proofs.YtcflcogbpnmjeaaGreat
set_option linter.unusedVariables false
set_option linter.unusedSimpArgs false
set_option linter.unusedSectionVars false

section
open Go.RowKit
set_option maxRecDepth 100000 in
set_option maxHeartbeats 16000000 in
theorem rBuild26_any (P M:Int) (am:Option Addr) (mn cm:Nat) (mod:List Int) (m:Nat) (a:Option Addr) (n c:Nat) (L:List (List Int)) (ay:Option Addr) (ny cy:Nat) (C:Clm) (w0:World)
  (hmod:Ints w0 am mn mod) (hi:Mat w0 a n L) (hE:codeE P M mod m L=0) (cb:Bool) (hc:C.cos=cb) (hRight:Hid (RightK P M am mn cm mod m a n c L ay ny cy C w0)) (hw6:C.W≤64) (hm6:m≤64) :
  ∀ (d:Nat) (w:World) (σ:BSt) (sa:Option Addr) (ns cs:Nat) (s:List Int) (az:Option Addr) (nz cz:Nat) (z:List Int),ns+d=C.W→nz≤64→Below w0.heap.size w0 w→OMat w w0.heap.size σ.ar σ.T.length σ.cr σ.R σ.T→σ.T.length≤65536 →
   Ints w sa ns s→Ints w az nz z→(0<ns→¬ σ.I (ablk sa))→(0<nz→¬ σ.I (ablk az))→z.Nodup→(∀ x ∈ z,0≤x∧x<(m:Int)) →
   Calls Tryz.prog 137 #[rclV P M am mn cm m a n c ay ny cy C,.slice sa ns cs,.slice az nz cz,.slice σ.ar σ.T.length σ.cr] w (RBPost w0.heap.size σ (bldS (tblOf P M.toNat mod).ops L m C d s z σ.T) w)
 | d,w,σ,sa,ns,cs,s,az,nz,cz,z,hd,hnz,hb,hO,hTl,hs,hz,hsp,hzp,hzn,hzb=>by
  have IH:Hid (∀ d',d'+1=d→∀ (w:World) (σ:BSt) (sa:Option Addr) (ns cs:Nat) (s:List Int) (az:Option Addr) (nz cz:Nat) (z:List Int),ns+d'=C.W→nz≤64→Below w0.heap.size w0 w→OMat w w0.heap.size σ.ar σ.T.length σ.cr σ.R σ.T→σ.T.length≤65536 →
   Ints w sa ns s→Ints w az nz z→(0<ns→¬ σ.I (ablk sa))→(0<nz→¬ σ.I (ablk az))→z.Nodup→(∀ x ∈ z,0≤x∧x<(m:Int)) →
   Calls Tryz.prog 137 #[rclV P M am mn cm m a n c ay ny cy C,.slice sa ns cs,.slice az nz cz,.slice σ.ar σ.T.length σ.cr] w (RBPost w0.heap.size σ (bldS (tblOf P M.toNat mod).ops L m C d' s z σ.T) w)):=fun d' hd'=>by
   subst hd'
   exact rBuild26_any P M am mn cm mod m a n c L ay ny cy C w0 hmod hi hE cb hc hRight hw6 hm6 d'
  have Hsl:=Lib.hid hs.len
  have Hzl:=Lib.hid hz.len
  obtain ⟨RF,hRF⟩:∃ RF,bldS (tblOf P M.toNat mod).ops L m C d s z σ.T=RF:=⟨_,rfl⟩
  rw [hRF]
  have HRF:=Lib.hid hRF
  have Hz:=Lib.hid (And.intro hzn hzb)
  have Hmod:=Lib.hid hmod
  have Hi:=Lib.hid hi
  have HE:=Lib.hid hE
  have HO:=Lib.hid hO
  have Hb:=Lib.hid hb
  have HTl:=Lib.hid hTl
  have HI0:=Lib.hid (And.intro hs hz)
  have HI1:=Lib.hid (And.intro hsp hzp)
  have hns:ns≤64:=by omega
  obtain ⟨Ot,hOt⟩:∃ Ot,outS m s z=Ot:=⟨_,rfl⟩
  have hol:=outS_len m s z
  rw [hOt,Hzl.out] at hol
  have hoin:InN m Ot:=fun j hj=>by
   have h0:=nth_mem hj
   have h00:nth Ot j ∈ outS m s z:=by rw [hOt];exact h0
   rcases mem_outS h00 with h1 | h1
   ·exact hzb _ h1
   ·exact ⟨h1.1,h1.2.1⟩
  obtain ⟨mo,hmo⟩:∃ mo,C.M=mo:=⟨_,rfl⟩
  obtain ⟨t,hte⟩:∃ t,csetS (tblOf P M.toNat mod).ops L m C s z=t:=⟨_,rfl⟩
  obtain ⟨mt,hmt⟩:∃ mt,(if C.cos=true then m else C.M)=mt:=⟨_,rfl⟩
  have Hmt:Hid (mt=if cb=true then m else mo):=by show _=_;rw [← hmt,hc,hmo]
  have htS:sortL (grM (tblOf P M.toNat mod).ops L Ot mt)=t:=by rw [← hte,csetS,hOt,hmt]
  have hcn:t.Nodup∧∀ x ∈ t,0≤x∧x<(m:Int):=by
   rw [← hte]
   refine ⟨cset_nodup hzn,fun x hx=>?_⟩
   rcases mem_outS (grM_sub x (cset_mem.1 hx)) with h1 | h1
   ·exact hzb x h1
   ·exact ⟨h1.1,h1.2.1⟩
  have htl:t.length≤64:=Nat.le_trans (used_len hcn.1 hcn.2) hm6
  obtain ⟨tl,htle⟩:∃ tl,t.length=tl:=⟨_,rfl⟩
  have hgl:(grM (tblOf P M.toNat mod).ops L Ot mt).length=tl:=by rw [← htle,← htS,sortL_len]
  have hpk:∀ no,Ot.length=no→rgTo (rkQ (tblOf P M.toNat mod).ops L) Ot mt no=grM (tblOf P M.toNat mod).ops L Ot mt:=fun no h=>by
   obtain ⟨m',e,_,_,F,hR⟩:=codeE_fld hE
   rw [← h];exact rg_grM F hR Ot mt
  have Hte:=Lib.hid hte
  have Hcn:=Lib.hid hcn
  have Hmo:=Lib.hid hmo
  rw [htle] at htl
  obtain ⟨ol,hole⟩:∃ ol,Ot.length=ol:=⟨_,rfl⟩
  rw [hole] at hol
  obtain ⟨fl,hfle⟩:∃ fl,(frTo false (s ++ z) m).length=fl:=⟨_,rfl⟩
  have hfo:nz+fl=ol:=by rw [← hole,← hOt,outS,List.length_append,sortL_len,Hzl.out,hfle]
  have HPk:Hid (∀ V ao co,Below w.heap.size w V→Ints V ao ol Ot→Calls Tryz.prog 179 #[.agg #[.int .i64 P,.int .i64 M,.slice am mn cm],.slice a n c,.slice ao ol co,.int .i64 mt] V fun e w' =>
    ∃ a1 c1,e = .returned (.slice a1 tl c1)∧w'.ownsRow V.heap.size 3 1 (.slice a1 tl c1) tl (t.map (Value.int .i64))∧Below V.heap.size V w'):=fun V ao co hV ho=>by
   have h5:=rPick25_any P M am mn cm mod m a n c L ao ol co Ot mt V (hmod.keep (hb.trans (hV.mono hb.size))) (hi.keep (hb.trans (hV.mono hb.size))) ho hE hoin (by omega)
   rw [hpk ol hole,hgl,htS] at h5
   exact h5
  have HSo:Hid (∀ V,Below w.heap.size w V→Calls Tryz.prog 178 #[.slice az nz cz] V fun e w'=>∃ a1 c1,e = .returned (.slice a1 nz c1)∧Ints w' a1 nz (sortL z)∧Below V.heap.size V w'):=fun V hV=>by
   refine (sorted25_any az nz cz z V (hz.keep hV) (by omega)).mono ?_
   rintro e w' ⟨a1,c1,rfl,ho,hbw⟩
   exact ⟨a1,c1,rfl,(Ints.own ho).1,hbw⟩
  have HWi:Hid (∀ V,Below w.heap.size w V→Calls Tryz.prog 177 #[.slice sa ns cs,.slice az nz cz] V fun e w'=>∃ a1 c1,e = .returned (.slice a1 (ns+nz) c1)∧Ints w' a1 (ns+nz) (s ++ z)∧Below V.heap.size V w'):=fun V hV=>by
   refine (rWith26_any sa ns cs s az nz cz z V (hs.keep hV) (hz.keep hV) (by omega) (by omega)).mono ?_
   rintro e w' ⟨a1,c1,rfl,ho,hbw⟩
   exact ⟨a1,c1,rfl,(Ints.own ho).1,hbw⟩
  have HOt:Hid (∀ V a1 c1,Ints V a1 (ns+nz) (s ++ z)→Calls Tryz.prog 84 #[.slice a1 (ns+nz) c1,.int .i64 m] V fun e w'=>∃ a2 c2,e = .returned (.slice a2 fl c2)∧Ints w' a2 fl (frTo false (s ++ z) m)∧Below V.heap.size V w'):=fun V a1 c1 h1=>by
   refine (rOthers10_any a1 (ns+nz) c1 (s ++ z) m V h1 (by omega)).mono ?_
   rintro e w' ⟨a2,c2,rfl,ho,hbw⟩
   rw [hfle] at ho
   exact ⟨a2,c2,by rw [hfle],(Ints.own ho).1,hbw⟩
  have HW2:Hid (∀ V a1 c1 a2 c2,Ints V a1 nz (sortL z)→Ints V a2 fl (frTo false (s ++ z) m)→Calls Tryz.prog 177 #[.slice a1 nz c1,.slice a2 fl c2] V fun e w'=>∃ a3 c3,e = .returned (.slice a3 ol c3)∧Ints w' a3 ol Ot∧Below V.heap.size V w'):=fun V a1 c1 a2 c2 h1 h2=>by
   refine (rWith26_any a1 nz c1 _ a2 fl c2 _ V h1 h2 (by omega) (by omega)).mono ?_
   rintro e w' ⟨a3,c3,rfl,ho,hbw⟩
   have h5:=(Ints.own ho).1
   rw [hfo,show sortL z ++ frTo false (s ++ z) m=Ot from hOt] at h5
   exact ⟨a3,c3,by rw [hfo],h5,hbw⟩
  obtain ⟨rr,hrr⟩:∃ rr,rightS (tblOf P M.toNat mod).ops L m C s t=rr:=⟨_,rfl⟩
  have HRt0:∀ V at' ct,Below w.heap.size w V→Ints V at' tl t→Calls Tryz.prog 180 #[rclV P M am mn cm m a n c ay ny cy C,.slice sa ns cs,.slice at' tl ct] V fun e w'=>e = .returned (.bool rr)∧Below V.heap.size V w':=fun V at' ct hV ht=>by
   have hbV:=hb.trans (hV.mono hb.size)
   rw [← hrr]
   exact hRight.out V sa ns cs s at' tl ct t (by omega) hbV (hs.keep hV) ht
  have Hrr:=Lib.hid hrr
  unfold rclV at HRt0
  rw [hc,hmo] at HRt0
  have HRt:=Lib.hid HRt0
  unfold rclV
  rw [hc,hmo]
  have Hc:=Lib.hid hc
  have Htle:=Lib.hid htle
  obtain ⟨Tl,hTle⟩:∃ Tl,σ.T.length=Tl:=⟨_,rfl⟩
  rw [hTle]
  rw [hTle] at hTl
  have HTle:=Lib.hid hTle
  clear hRF hmod hi hE hO hb hs hz hsp hzp hzn hzb hoin hte hcn htS hgl hpk hole hfle hOt hmo hmt hrr HRt0 hc hRight htle hTle
  go_enter Tryz.func137,Tryz.ntmps137
  go_upto_region 1 with fail
  obtain ⟨U,hU⟩:∃ U:World,U=w.alloc (.cells #[.int .i64 P,.int .i64 M,.slice am mn cm,.int .i64 m,.slice a n c,.int .i64 mo,.int .i64 C.W,.slice ay ny cy,.bool cb] 155):=⟨_,rfl⟩
  rw [← hU]
  have hbU:Below w.heap.size w U:=by rw [hU];exact below1 _ _
  have x0:Box U w.heap.size [.int .i64 P,.int .i64 M,.slice am mn cm,.int .i64 m,.slice a n c,.int .i64 mo,.int .i64 C.W,.slice ay ny cy,.bool cb]:=by rw [hU];exact Box.new _ _ _ rfl
  have HX:=Lib.hid x0
  have HS:Hid (∀ V,Below U.heap.size U V→V.cell? ⟨w.heap.size,0,none⟩=some (.int .i64 P)∧V.cell? ⟨w.heap.size,1,none⟩=some (.int .i64 M)∧V.cell? ⟨w.heap.size,2,none⟩=some (.slice am mn cm)∧V.cell? ⟨w.heap.size,3,none⟩=some (.int .i64 m)∧V.cell? ⟨w.heap.size,4,none⟩=some (.slice a n c) ∧
    V.cell? ⟨w.heap.size,5,none⟩=some (.int .i64 mo)∧V.cell? ⟨w.heap.size,6,none⟩=some (.int .i64 C.W)∧V.cell? ⟨w.heap.size,7,none⟩=some (.slice ay ny cy)∧V.cell? ⟨w.heap.size,8,none⟩=some (.bool cb)∧Below U.heap.size U V):=fun V hV=>by
   have x1:=x0.keep hV
   exact ⟨x1.cell 0 rfl,x1.cell 1 rfl,x1.cell 2 rfl,x1.cell 3 rfl,x1.cell 4 rfl,x1.cell 5 rfl,x1.cell 6 rfl,x1.cell 7 rfl,x1.cell 8 rfl,hV⟩
  have HbU:=Lib.hid hbU
  obtain ⟨c0,c1,c2,c3,c4,c5,c6,c7,c8,_⟩:=HS.out U (Below.refl _ _)
  clear hU x0
  go_upto_if 20 with fail
  go_cut [10] (fun v wx=>v = .int .i64 mt∧wx=U)
  case first =>
   cases cb
   ·go_wp2_with fail
    go_meet
    exact ⟨by rw [Hmt.out];rfl,rfl⟩
   ·go_wp2_with fail
    go_meet
    exact ⟨by rw [Hmt.out];rfl,rfl⟩
  obtain ⟨rfl,hwc⟩:=hcut
  rw [hwc]
  clear hwc
  go_upto_region 4 with fail
  go_cut [11] (fun v wx=>∃ ao co,v = .slice ao ol co∧Ints wx ao ol Ot∧Below U.heap.size U wx)
  case first =>
   go_region_held3 (fun V=>V.cell? ⟨w.heap.size,0,none⟩=some (.int .i64 P)∧V.cell? ⟨w.heap.size,1,none⟩=some (.int .i64 M)∧V.cell? ⟨w.heap.size,2,none⟩=some (.slice am mn cm)∧V.cell? ⟨w.heap.size,3,none⟩=some (.int .i64 m)∧V.cell? ⟨w.heap.size,4,none⟩=some (.slice a n c) ∧
     V.cell? ⟨w.heap.size,5,none⟩=some (.int .i64 mo)∧V.cell? ⟨w.heap.size,6,none⟩=some (.int .i64 C.W)∧V.cell? ⟨w.heap.size,7,none⟩=some (.slice ay ny cy)∧V.cell? ⟨w.heap.size,8,none⟩=some (.bool cb)∧Below U.heap.size U V)
    ((refine HS.out _ ?_;first | exact hb9w | exact hb7w | exact hb5w | exact hb3w | exact (Below.refl _ _).drew | assumption | (go_split_ands;assumption)))
    (first
    | (go_at_call 178;((with_reducible refine (HSo.out _ (Below.next HbU.out (by go_split_ands;assumption))).mono ?_);rintro e w3 ⟨a3,c3,rfl,hI3,hb3⟩;have hb3w:Below U.heap.size U w3:=(by go_split_ands;exact Below.next (by assumption) hb3)))
    | (go_at_call 177;((with_reducible refine (HWi.out _ (Below.next HbU.out (by go_split_ands;assumption))).mono ?_);rintro e w5 ⟨a5,c5,rfl,hI5,hb5⟩;have hb5w:Below U.heap.size U w5:=(by go_split_ands;exact Below.next (by assumption) hb5)))
    | (go_at_call 84;((with_reducible refine (HOt.out _ a5 c5 (by first | exact hI5 | exact hI5.keep (Below.refl _ _).drew | exact hI5.keep hb3 | exact (hI5.keep (Below.refl _ _).drew).keep hb3)).mono ?_);rintro e w7 ⟨a7,c7,rfl,hI7,hb7⟩;have hb7w:Below U.heap.size U w7:=(by go_split_ands;exact Below.next (by assumption) hb7)))
    | (go_at_call 177;((with_reducible refine (HW2.out _ a3 c3 a7 c7 (by first | exact hI3 | exact hI3.keep hb7 | exact (hI3.keep hb5).keep hb7) (by first | exact hI7 | exact hI7.keep hb3)).mono ?_);rintro e w9 ⟨a9,c9,rfl,hI9,hb9⟩;have hb9w:Below U.heap.size U w9:=(by go_split_ands;exact Below.next (by assumption) hb9))))
   all_goals (go_wp2_with fail;go_meet;exact ⟨a9,c9,rfl,hI9,hb9w⟩)
  obtain ⟨ao,co,rfl,hIo,hb2⟩:=hcut
  generalize wc=w2 at *
  obtain ⟨d0,d1,d2,d3,d4,d5,d6,d7,d8,_⟩:=HS.out w2 hb2
  clear c0 c1 c2 c3 c4 c5 c6 c7 c8
  have hbw2:=Below.next HbU.out hb2
  have HPk2:=Lib.hid (HPk.out w2 ao co hbw2 hIo)
  clear HPk HSo HWi HOt HW2 hIo
  go_wp2_with fail
  refine HPk2.out.mono ?_
  rintro e w3 ⟨a3,c3,rfl,hown3,hb3⟩
  have hbU3:=Below.next hb2 hb3
  have hbw3:=Below.next HbU.out hbU3
  obtain ⟨e0,e1,e2,e3,e4,e5,e6,e7,e8,_⟩:=HS.out w3 hbU3
  have HRt3:=Lib.hid (HRt.out w3 a3 c3 hbw3 (Ints.own hown3).1)
  clear HRt HPk2 d0 d1 d2 d3 d4 d5 d6 d7 d8
  go_wp2_with fail
  refine HRt3.out.mono ?_
  rintro e w4 ⟨rfl,hb4⟩
  have hbU4:=Below.next hbU3 hb4
  have hbw4:=Below.next HbU.out hbU4
  have hown4:=own_keep hown3 hb4
  clear HRt3 e0 e1 e2 e3 e4 e5 e6 e7 e8
  cases rr
  ·have HF:Hid (RF=(11,[])):=by show _=_;rw [← HRF.out,bldS_none _ _ _ _ _ _ _ _ (by rw [Hte.out];exact Hrr.out)]
   go_wp2_with fail
   go_ret2
   exact .inr ⟨by rw [HF.out];decide,_,Moves.of_below hbw4 _,by rw [HF.out];rfl⟩
  by_cases hbig:Tl=65536
  ·have HF:Hid (RF=(8,[])):=by show _=_;rw [← HRF.out,bldS_big _ _ _ _ _ _ _ _ (by rw [Hte.out];exact Hrr.out) (by rw [HTle.out];exact hbig)]
   have hbg:((Tl:Int) == 65536)=true:=by simp;omega
   clear hbig
   go_wp2_with fail
   go_ret2
   exact .inr ⟨by rw [HF.out];decide,_,Moves.of_below hbw4 _,by rw [HF.out];rfl⟩
  have hbg:((Tl:Int) == 65536)=false:=by simp;omega
  obtain ⟨F,hFd⟩:∃ F,bldS (tblOf P M.toNat mod).ops L m C (d - 1)=F:=⟨_,rfl⟩
  have HF:Hid (RF=kbld F s z (kidsS C s z t) (σ.T ++ [t])):=by
   show _=_
   rw [← HRF.out,bldS_eq _ _ _ _ _ _ _ _ (by rw [Hsl.out];exact hd) (by rw [Hte.out];exact Hrr.out) (by rw [HTle.out];exact hbig),← hFd,Hte.out]
   rfl
  have HFd:=Lib.hid hFd
  have hTlt:Tl<65536:=by omega
  have hO4:=HO.out.keep hbw4
  have hcn:=cell_new w4 (.slice a3 tl c3) 22
  have hbn:=below1 w4 (.cells #[.slice a3 tl c3] 22)
  have hszB:w0.heap.size≤w4.heap.size:=Nat.le_trans Hb.out.size hbw4.size
  have HO4:=Lib.hid hO4
  rw [HTle.out] at hO4
  have hown4o:=hO4.own
  have HBG:Hid (∀ w6,(w4.alloc (.cells #[.slice a3 tl c3] 22)).grownBy w6 (Value.slice σ.ar Tl σ.cr).ownBlock→Box w6 w.heap.size [.int .i64 P,.int .i64 M,.slice am mn cm,.int .i64 m,.slice a n c,.int .i64 mo,.int .i64 C.W,.slice ay ny cy,.bool cb]):=fun w6 hg =>
   ((HX.out.keep hbU4).keep (below1 _ _)).moves (Moves.grown (K:=fun x=>σ.ar ≠ none∧x=ablk σ.ar) hg fun h0=>⟨h0,rfl⟩) fun ⟨h0,e⟩=>by
    have:=(HO.out.lt _ (.inl ⟨h0,rfl⟩)).2
    omega
  clear hbig hFd hO4
  go_wp2_with (at_builtin;refine wpList_push rfl _ _ 25 22 rfl (.slice none 0 0) 24 Tryz.underlying25 infoInts rfl w0.heap.size σ.ar Tl σ.cr _ rfl (hown4o.alloc _) ⟨w4.heap.size,0,none⟩ 1 (.slice a3 tl c3) rfl hcn rfl (by omega) (by unfold maxLen;omega) (by simp;omega) ?_;intro a6 c6 w6 hown6 hgr6 hap6;have k0:=(HBG.out w6 hgr6).cell 0 rfl;have k1:=(HBG.out w6 hgr6).cell 1 rfl;have k2:=(HBG.out w6 hgr6).cell 2 rfl;have k3:=(HBG.out w6 hgr6).cell 3 rfl;have k4:=(HBG.out w6 hgr6).cell 4 rfl;have k5:=(HBG.out w6 hgr6).cell 5 rfl;have k6:=(HBG.out w6 hgr6).cell 6 rfl;have k7:=(HBG.out w6 hgr6).cell 7 rfl;have k8:=(HBG.out w6 hgr6).cell 8 rfl)
  have hbox6:=HBG.out w6 hgr6
  have hw24:w2.heap.size≤w4.heap.size:=Nat.le_trans hb3.size hb4.size
  have hra:a3 ≠ none→¬ σ.I (ablk a3):=fun h0 hh=>by
   have h1:=(HO.out.lt _ hh).2
   have h2:=(own_ne hown4 h0).1
   have h3:=hbw2.size
   omega
  obtain ⟨τ1,hτ1⟩:∃ τ1:BSt,τ1=⟨a6,c6,σ.R ++ [(a3,c3)],σ.T ++ [t]⟩:=⟨_,rfl⟩
  have hmore:OMat w6 w0.heap.size a6 (Tl+1) c6 (σ.R ++ [(a3,c3)]) (σ.T ++ [t])∧Moves w4 w6 (fun x=>σ.I x∨(a3 ≠ none∧x=ablk a3)) (fun x=>OIn a6 (σ.R ++ [(a3,c3)]) x):=by
   have e1:=Htle.out
   have e2:=HTle.out
   subst e1
   subst e2
   exact OMat.more HO4.out (own_mono hown4 (Nat.le_trans Hb.out.size hbw2.size)) hra hown6 hgr6 hap6
  have hτl:τ1.T.length=Tl+1:=by rw [hτ1];simp [HTle.out]
  have hO6:OMat w6 w0.heap.size τ1.ar τ1.T.length τ1.cr τ1.R τ1.T:=by rw [hτl,hτ1];exact hmore.1
  have hMw6:Moves w w6 σ.I τ1.I:=by
   rw [hτ1]
   refine Moves.own_new hbw4 hmore.2 fun x hx=>?_
   have h2:=(own_ne hown4 hx.1).1
   have h3:=hbw2.size
   rw [hx.2];omega
  have ht6:Ints w6 a3 tl t:=((Ints.own hown4).1.keep (below1 _ _)).moves (Moves.grown (K:=fun x=>σ.ar ≠ none∧x=ablk σ.ar) hgr6 fun h0=>⟨h0,rfl⟩) fun h0 ⟨h1,e⟩=>by
   have h2:=(Ints.own hown4).1.pl h0
   have h3:a3 ≠ none:=by rw [h2];simp
   exact hra h3 (.inl ⟨h1,e⟩)
  have hs6:=HI0.out.1.moves hMw6 HI1.out.1
  have hz6:=HI0.out.2.moves hMw6 HI1.out.2
  have hok:=(right_ok Hrr.out).1
  obtain ⟨ks,hks⟩:∃ ks,kidsS C s z t=ks:=⟨_,rfl⟩
  have hkl:ks.length≤64:=by
   have h1:=okSet_len hok (by omega)
   have h2:ks.length≤t.length:=by
    rw [← hks,kidsS]
    split
    ·exact List.length_filter_le _ _
    ·simp
   omega
  have hknd:ks.Nodup∧(∀ x ∈ ks,0≤x∧x<(m:Int))∧(∀ x ∈ ks,¬ x ∈ z)∧(0<ks.length→ns<C.W):=by
   refine ⟨?_,fun x hx=>?_,fun x hx=>?_,fun h=>?_⟩
   ·rw [← hks,kidsS]
    split
    ·exact List.Pairwise.filter _ (okSet_nodup hok)
    ·simp
   ·rw [← hks] at hx
    obtain ⟨q,hq,rfl⟩:=List.mem_iff_getElem.1 (kids_mem hx).1
    rw [← nth_getElem hq]
    exact okSet_rng hok q hq
   ·rw [← hks] at hx
    exact (kids_mem hx).2.1
   ·rw [← hks] at h
    have h1:=kids_mem (List.getElem_mem (n:=0) h)
    rw [Hsl.out] at h1
    exact h1.2.2
  have HKs:=Lib.hid hknd
  rw [hks] at HF
  have HKi0:=rKids26_any P M am mn cm m a n c ay ny cy C sa ns cs s az nz cz z a3 tl c3 t w6 hs6 hz6 ht6 (by omega)
  rw [hks] at HKi0
  unfold rclV at HKi0
  rw [Hc.out,Hmo.out] at HKi0
  have HKi:=Lib.hid HKi0
  have Hs6:=Lib.hid (And.intro hs6 hz6)
  have HO6:=Lib.hid hO6
  have HM6:=Lib.hid hMw6
  have Hτ1:=Lib.hid (And.intro hτ1 hτl)
  have HX6:=Lib.hid hbox6
  have hnI6:¬ τ1.I w.heap.size:=by
   rw [hτ1]
   refine hmore.2.not (by have h1:=HX.out.1;have h2:=hbU4.size;omega) ?_
   rintro (h | ⟨h0,e⟩)
   ·have h1:=(HO.out.lt _ h).2
    omega
   ·have h2:=(own_ne hown4 h0).1
    have h3:=HX.out.1
    have h4:=hb2.size
    omega
  have HnI6:=Lib.hid hnI6
  clear hnI6
  clear hmore hτ1 hτl hks hknd hok hs6 hz6 ht6 hO6 hMw6 hbox6 HKi0 hown6 hgr6 hap6 hown4 hown3 HBG HRF
  refine HKi.out.mono ?_
  rintro e w7 ⟨ak,ck,rfl,hownk,hb7⟩
  have hO7:=HO6.out.keep hb7
  have hM7:Moves w w7 σ.I τ1.I:=HM6.out.trans (Moves.of_below hb7 _)
  have hx7:=HX6.out.keep hb7
  have hs7:=Hs6.out.1.keep hb7
  have hz7:=Hs6.out.2.keep hb7
  have hB7:Below w0.heap.size w0 w7:=Hb.out.trans (hM7.below (fun x hx=>(HO.out.lt x hx).1) Hb.out.size)
  have hsn7:0<ns→¬ τ1.I (ablk sa):=fun h0=>HM6.out.not (HI0.out.1.lt h0) (HI1.out.1 h0)
  have hzn7:0<nz→¬ τ1.I (ablk az):=fun h0=>HM6.out.not (HI0.out.2.lt h0) (HI1.out.2 h0)
  have hkn7:ak ≠ none→¬ τ1.I (ablk ak):=fun h0 hh=>by
   have h1:=(HO6.out.lt _ hh).2
   have h2:=(own_ne hownk h0).1
   omega
  obtain ⟨ik,_⟩:=Ints.own hownk
  have hplk:=ik.pl
  have hckap:=own_cap hownk
  obtain ⟨kl,hkle⟩:∃ kl,ks.length=kl:=⟨_,rfl⟩
  rw [hkle] at hownk hkl ik hplk hckap
  rw [hkle]
  have Hkl:=Lib.hid hkle
  have hkb7:0<kl→ablk ak<w7.heap.size:=fun h0=>ik.lt h0
  have HB7:=Lib.hid hB7
  have HO7:=Lib.hid hO7
  have HM7:=Lib.hid hM7
  have Hx7:=Lib.hid hx7
  have Hsz7:=Lib.hid (And.intro hs7 hz7)
  have Hn7:=Lib.hid (And.intro hsn7 hzn7)
  have Hk7:=Lib.hid (And.intro ik (And.intro hkn7 hkb7))
  have HIH:Hid (∀ (V:World) (τ:BSt) (j:Nat) (a5:Option Addr) (c5:Nat) (a7:Option Addr) (c7:Nat),j<kl→OMat V w0.heap.size τ.ar τ.T.length τ.cr τ.R τ.T→τ.T.length≤65536→Below w0.heap.size w0 V→Ints V a5 (ns+1) (s ++ [nth ks j])→Ints V a7 (nz+j) (z ++ ks.take j) →
    ¬ τ.I (ablk a5)→(0<nz+j→¬ τ.I (ablk a7)) →
    Calls Tryz.prog 137 #[.agg #[.int .i64 P,.int .i64 M,.slice am mn cm,.int .i64 m,.slice a n c,.int .i64 mo,.int .i64 C.W,.slice ay ny cy,.bool cb],.slice a5 (ns+1) c5,.slice a7 (nz+j) c7,.slice τ.ar τ.T.length τ.cr] V (RBPost w0.heap.size τ (F (s ++ [nth ks j]) (z ++ ks.take j) τ.T) V)):=by
   intro V τ j a5 c5 a7 c7 hj hO hT hV h1 h2 h3 h4
   have hjk:j<ks.length:=by rw [Hkl.out];exact hj
   have hnsW:=HKs.out.2.2.2 (by omega)
   obtain ⟨d',hd'⟩:∃ d',d'+1=d:=⟨d - 1,by omega⟩
   have hnd:(z ++ ks.take j).Nodup:=by
    rw [List.nodup_append]
    exact ⟨Hz.out.1,List.Nodup.sublist (List.take_sublist _ _) HKs.out.1,fun x hx y hy e=>HKs.out.2.2.1 y (List.mem_of_mem_take hy) (e ▸ hx)⟩
   have hbd:∀ x ∈ z ++ ks.take j,0≤x∧x<(m:Int):=fun x hx=>by
    rcases List.mem_append.1 hx with hx | hx
    ·exact Hz.out.2 x hx
    ·exact HKs.out.2.1 x (List.mem_of_mem_take hx)
   have hle:nz+j≤64:=by
    have h4:=used_len hnd hbd
    rw [h2.len] at h4
    omega
   have h5:=IH.out d' hd' V τ a5 (ns+1) c5 (s ++ [nth ks j]) a7 (nz+j) c7 (z ++ ks.take j) (by omega) hle hV hO hT h1 h2 (fun _=>h3) h4 hnd hbd
   rw [show d'=d - 1 by omega,HFd.out] at h5
   unfold rclV at h5
   rw [Hc.out,Hmo.out] at h5
   exact h5
  have ht0:Value.slice a6 (Tl+1) c6 = .slice τ1.ar τ1.T.length τ1.cr:=by rw [Hτ1.out.2,Hτ1.out.1]
  have hT1:τ1.T.length≤65536:=by rw [Hτ1.out.2];omega
  have hT1e:τ1.T=σ.T ++ [t]:=by rw [Hτ1.out.1]
  rw [ht0]
  have HT1:=Lib.hid (And.intro hT1 hT1e)
  clear IH hkle hO7 hM7 hx7 hs7 hz7 hB7 hsn7 hzn7 hkn7 hkb7 ht0 hT1 hT1e k0 k1 k2 k3 k4 k5 k6 k7 k8 hcn hbn hown4o
  go_wp2_with fail
  go_loopw [3,14,15,16] (fun rv jv xv ev wr=>∃ (j:Nat) (τ:BSt),j≤kl∧jv = .int .i64 j∧rv = .slice τ.ar τ.T.length τ.cr∧Hid (OMat wr w0.heap.size τ.ar τ.T.length τ.cr τ.R τ.T∧τ.T.length≤65536)∧Hid (Moves w7 wr τ1.I τ.I) ∧
    Hid (RF=kbld F s (z ++ ks.take j) (ks.drop j) τ.T))
   (fun _ jv _ _ _=>kl - (intOf jv).toNat)
  case atStart=>exact ⟨0,τ1,Nat.zero_le _,rfl,rfl,Lib.hid ⟨HO7.out,HT1.out.1⟩,Lib.hid (Moves.of_below (Below.refl _ _) _),(show _=_ by rw [List.take_zero,List.append_nil,List.drop_zero,HT1.out.2];exact HF.out)⟩
  case round =>
   obtain ⟨j,τ,hj,rfl,rfl,hOT,hMv,hst⟩:=hrel
   generalize wr=U1 at *
   have hBU:Below w0.heap.size w0 U1:=HB7.out.trans (hMv.out.below (fun x hx=>(HO7.out.lt x hx).1) HB7.out.size)
   have HBU:=Lib.hid hBU
   clear hBU
   by_cases hlt:j<kl
   ·have hjk:j<ks.length:=by rw [Hkl.out];exact hlt
    have hnx:¬ τ.I w.heap.size:=hMv.out.not Hx7.out.1 HnI6.out
    have hxU:=Hx7.out.moves hMv.out HnI6.out
    have ikU:Ints U1 ak kl ks:=Hk7.out.1.moves hMv.out fun h0=>Hk7.out.2.1 (by rw [Hk7.out.1.pl h0];simp)
    have hkU:¬ τ.I (ablk ak):=hMv.out.not (Hk7.out.2.2 (by omega)) (Hk7.out.2.1 (by rw [Hk7.out.1.pl (by omega)];simp))
    have hsU:=Hsz7.out.1.moves hMv.out Hn7.out.1
    have hzU:=Hsz7.out.2.moves hMv.out Hn7.out.2
    have hsnU:0<ns→¬ τ.I (ablk sa):=fun h0=>hMv.out.not (Hsz7.out.1.lt h0) (Hn7.out.1 h0)
    have hznU:0<nz→¬ τ.I (ablk az):=fun h0=>hMv.out.not (Hsz7.out.2.lt h0) (Hn7.out.2 h0)
    have HSU:Hid (∀ V,Mov U1 V τ.I→V.cell? ⟨w.heap.size,0,none⟩=some (.int .i64 P)∧V.cell? ⟨w.heap.size,1,none⟩=some (.int .i64 M)∧V.cell? ⟨w.heap.size,2,none⟩=some (.slice am mn cm)∧V.cell? ⟨w.heap.size,3,none⟩=some (.int .i64 m)∧V.cell? ⟨w.heap.size,4,none⟩=some (.slice a n c) ∧
      V.cell? ⟨w.heap.size,5,none⟩=some (.int .i64 mo)∧V.cell? ⟨w.heap.size,6,none⟩=some (.int .i64 C.W)∧V.cell? ⟨w.heap.size,7,none⟩=some (.slice ay ny cy)∧V.cell? ⟨w.heap.size,8,none⟩=some (.bool cb)∧V.cell? ⟨ablk ak,aoff ak+j,none⟩=some (.int .i64 (nth ks j))∧Mov U1 V τ.I):=fun V hV=>by
     have hV2:=hV
     obtain ⟨I',hV⟩:=hV
     have x1:=hxU.moves hV hnx
     exact ⟨x1.cell 0 rfl,x1.cell 1 rfl,x1.cell 2 rfl,x1.cell 3 rfl,x1.cell 4 rfl,x1.cell 5 rfl,x1.cell 6 rfl,x1.cell 7 rfl,x1.cell 8 rfl,(ikU.moves hV fun _=>hkU).cell j hlt,hV2⟩
    have HW1:Hid (∀ V g,Mov U1 V τ.I→Ints V (some ⟨g,0,none⟩) 1 [nth ks j]→Calls Tryz.prog 177 #[.slice sa ns cs,.slice (some ⟨g,0,none⟩) 1 1] V fun e w'=>∃ a2 c2,e = .returned (.slice a2 (ns+1) c2)∧Ints w' a2 (ns+1) (s ++ [nth ks j])∧U1.heap.size≤ablk a2∧Below V.heap.size V w'):=fun V g hV hg=>by
     obtain ⟨I',hV⟩:=hV
     refine (rWith26_any sa ns cs s (some ⟨g,0,none⟩) 1 1 [nth ks j] V (hsU.moves hV hsnU) hg (by omega) (by omega)).mono ?_
     rintro e w' ⟨a2,c2,rfl,ho,hbw⟩
     have h1:=(Ints.own ho).1
     exact ⟨a2,c2,rfl,h1,Nat.le_trans hV.size (own_ne ho (by rw [h1.pl (by omega)];simp)).1,hbw⟩
    have HW2:Hid (∀ V,Mov U1 V τ.I→Calls Tryz.prog 177 #[.slice az nz cz,.slice ak j ck] V fun e w'=>∃ a2 c2,e = .returned (.slice a2 (nz+j) c2)∧Ints w' a2 (nz+j) (z ++ ks.take j)∧(0<nz+j→U1.heap.size≤ablk a2)∧Below V.heap.size V w'):=fun V hV=>by
     obtain ⟨I',hV⟩:=hV
     refine (rWith26_any az nz cz z ak j ck (ks.take j) V (hzU.moves hV hznU) (Ints.take (ikU.moves hV fun _=>hkU) (Nat.le_of_lt hlt)) (by omega) (by omega)).mono ?_
     rintro e w' ⟨a2,c2,rfl,ho,hbw⟩
     have h1:=(Ints.own ho).1
     exact ⟨a2,c2,rfl,h1,fun h0=>Nat.le_trans hV.size (own_ne ho (by rw [h1.pl h0];simp)).1,hbw⟩
    obtain ⟨FR,hFR⟩:∃ FR,F (s ++ [nth ks j]) (z ++ ks.take j) τ.T=FR:=⟨_,rfl⟩
    obtain ⟨er,her⟩:∃ er,FR.1=er:=⟨_,rfl⟩
    have HFo:Hid (∀ V a5 c5 a7 c7,Below U1.heap.size U1 V→Ints V a5 (ns+1) (s ++ [nth ks j])→Ints V a7 (nz+j) (z ++ ks.take j)→U1.heap.size≤ablk a5→(0<nz+j→U1.heap.size≤ablk a7)→Calls Tryz.prog 137 #[.agg #[.int .i64 P,.int .i64 M,.slice am mn cm,.int .i64 m,.slice a n c,.int .i64 mo,.int .i64 C.W,.slice ay ny cy,.bool cb],.slice a5 (ns+1) c5,.slice a7 (nz+j) c7,.slice τ.ar τ.T.length τ.cr] V
      fun e w'=>∃ rv,e = .returned (.tuple #[rv,.int .i64 er])∧RBV w0.heap.size τ FR er U1 rv w'):=fun V a5 c5 a7 c7 hV h1 h2 h3 h4=>by
     refine (HIH.out V τ j a5 c5 a7 c7 hlt (hOT.out.1.keep hV) hOT.out.2 (HBU.out.trans (hV.mono HBU.out.size)) h1 h2 (fun hh=>?_) (fun h0 hh=>?_)).mono ?_
     ·have:=(hOT.out.1.lt _ hh).2
      omega
     ·have:=(hOT.out.1.lt _ hh).2
      have:=h4 h0
      omega
     ·rintro e w' hP
      obtain ⟨rv,h5,h6⟩:=hP.split
      rw [hFR,her] at h5 h6
      exact ⟨rv,h5,h6.from hV⟩
    have Hst2:Hid (RF=if er=0 then kbld F s (z ++ ks.take (j+1)) (ks.drop (j+1)) FR.2 else (er,[])):=by
     show _=_
     rw [hst.out,kbld_step F s z ks hjk,hFR,her]
    obtain ⟨x,hx⟩:∃ x,nth ks j=x:=⟨_,rfl⟩
    rw [hx] at HW1 HFo HSU
    have hj0:(0:Int)≤(j:Int):=by omega
    have hjc:(j:Int)≤(ck:Int):=by omega
    have hjl:(j:Int)<(kl:Int):=by omega
    obtain ⟨c0,c1,c2,c3,c4,c5,c6,c7,c8,c9,_⟩:=HSU.out U1 (Mov.below (Below.refl _ _))
    clear hx hFR her hjk hnx hxU ikU hkU hsU hzU hsnU hznU hst
    go_upto_region 15 with fail
    go_region_held3 (fun V=>V.cell? ⟨w.heap.size,0,none⟩=some (.int .i64 P)∧V.cell? ⟨w.heap.size,1,none⟩=some (.int .i64 M)∧V.cell? ⟨w.heap.size,2,none⟩=some (.slice am mn cm)∧V.cell? ⟨w.heap.size,3,none⟩=some (.int .i64 m)∧V.cell? ⟨w.heap.size,4,none⟩=some (.slice a n c) ∧
      V.cell? ⟨w.heap.size,5,none⟩=some (.int .i64 mo)∧V.cell? ⟨w.heap.size,6,none⟩=some (.int .i64 C.W)∧V.cell? ⟨w.heap.size,7,none⟩=some (.slice ay ny cy)∧V.cell? ⟨w.heap.size,8,none⟩=some (.bool cb)∧V.cell? ⟨ablk ak,aoff ak+j,none⟩=some (.int .i64 x)∧Mov U1 V τ.I)
     ((refine HSU.out _ ?_;first | exact hm11 | exact Mov.below (Below.refl _ _).drew | exact Mov.below hb5w | exact Mov.below hb7w | exact Mov.below ((Below.refl _ _).alloc (Nat.le_refl _) _).drew | exact Mov.below (Below.allocN hb7w _) | assumption | (go_split_ands;assumption) | (go_split_ands;exact Mov.allocN (by assumption) _)))
     (first
     | (go_at_call 177;((with_reducible refine (HW1.out _ _ (by go_split_ands;assumption) (by first | exact (ints_lit1 _ _ _ rfl).keep (Below.refl _ _).drew | exact ints_lit1 _ _ _ rfl | exact ((ints_lit1 _ _ _ rfl).keep (Below.refl _ _).drew).keep hb7)).mono ?_);rintro e w5 ⟨a5,c5,rfl,hI5,hn5,hb5⟩;have hb5w:Below U1.heap.size U1 w5:=(by first | exact Below.next ((Below.refl _ _).alloc (Nat.le_refl _) _).drew hb5 | exact Below.next (Below.allocN hb7w _) hb5 | exact Below.next hb7w hb5 | exact Below.next (Below.allocN hb7w _).drew hb5 | exact Below.next ((Below.refl _ _).alloc (Nat.le_refl _) _) hb5)))
     | (go_at_call 177;((with_reducible refine (HW2.out _ (by go_split_ands;assumption)).mono ?_);rintro e w7' ⟨a7,c7,rfl,hI7,hn7,hb7⟩;have hb7w:Below U1.heap.size U1 w7':=(by first | exact Below.next (Below.refl _ _).drew hb7 | exact Below.next hb5w hb7 | exact Below.next ((Below.refl _ _).alloc (Nat.le_refl _) _).drew hb7 | exact Below.next ((Below.refl _ _).alloc (Nat.le_refl _) _) hb7 | exact hb7)))
     | (go_at_call 137;((with_reducible refine (HFo.out _ a5 c5 a7 c7 (by first | exact hb5w | exact hb7w) (by first | exact hI5 | exact hI5.keep hb7) (by first | exact hI7 | exact hI7.keep hb5 | exact (hI7.keep (below1 _ _)).keep hb5) hn5 hn7).mono ?_);rintro e w11 ⟨rv,rfl,hFV⟩;have hm11:Mov U1 w11 τ.I:=hFV.mov)))
    all_goals (
     rcases hFV with ⟨h1,σ',g1,g2,g3,g4,rfl⟩ | ⟨h1,I',g4,rfl⟩
     ·have Hn:Hid (RF=kbld F s (z ++ ks.take (j+1)) (ks.drop (j+1)) σ'.T):=by show _=_;rw [Hst2.out,if_pos h1,g2]
      subst h1
      have G4:=Lib.hid (And.intro g1 (And.intro g3 g4))
      clear g1 g2 g3 g4 hm11
      go_wp2_with fail
      go_roundw
      case rel=>exact ⟨j+1,σ',by omega,by go_num,rfl,Lib.hid ⟨G4.out.1,G4.out.2.1⟩,Lib.hid (hMv.out.trans G4.out.2.2),Hn⟩
      case measure=>simp [intOf] <;> omega
     ·have Hn:Hid (RF=(er,[])):=by show _=_;rw [Hst2.out,if_neg h1]
      have hne:(er != 0)=true:=by simpa using h1
      have G4:=Lib.hid (And.intro h1 g4)
      clear h1 g4 hm11
      go_wp2_with fail
      go_ret2
      exact .inr ⟨by rw [Hn.out];exact G4.out.1,I',HM7.out.trans (hMv.out.trans G4.out.2),by rw [Hn.out];rfl⟩)
   ·have hjl2:j=kl:=by omega
    subst hjl2
    have Ho:Hid (RF=(0,τ.T)):=by
     show _=_
     rw [hst.out,List.drop_of_length_le (by rw [Hkl.out];exact Nat.le_refl _),kbld]
    go_wp2_with fail
    go_ret2
    exact .inl ⟨by rw [Ho.out],τ,hOT.out.1,by rw [Ho.out],hOT.out.2,HM7.out.trans hMv.out,rfl⟩
end

end Go.Proofs.YtcflcogbpnmjeaaGreat
