/-  -/
import Derived.Test.YtcfmiocdlcapoaaGreatL2
import Derived.Test.YtcfmiocdlcapoaaGreatMSO4
import Derived.Test.YtcfmiocdlcapoaaGreatMSO1
import Derived.Test.YtcfmiocdlcapoaaGreatK31
import Derived.Test.YtcfmiocdlcapoaaGreatK28
import Derived.Test.YtcfmiocdlcapoaaGreatK20
namespace Go.Proofs.YtcfmiocdlcapoaaGreat
set_option linter.unusedVariables false
set_option linter.unusedSimpArgs false
set_option linter.unusedSectionVars false

section
set_option maxRecDepth 100000
set_option maxHeartbeats 8000000

open Go.RowKit
def SomeB2 (ce : Int) (v : Value) : Prop:=∃z : Bool,v = .bool z/\(z=false->ce=0)
theorem mch_zero {P M : Int} {mod : List Int} {N : Int} {L : List (List Int)} {x : List Int} {ts : List (List Int)} (hE : codeE P M mod N L=0) (h : mchE P M mod N L x ts=0) : wrdE P M mod N L x=0/\hasV P M mod N L x=true/\wtL x ≠ 0/\chkRE P M mod N L L.length (wtD N (wtL x)) ts=0:=by
 unfold mchE at h
 rw [if_pos hE] at h
 by_cases h1 : wrdE P M mod N L x=0/\hasV P M mod N L x=true/\wtL x ≠ 0/\chkRE P M mod N L L.length (wtD N (wtL x)) ts=0
 ·exact h1
 ·rw [if_neg h1] at h;cases h
theorem els_nt {q : Nat} {l : List Int} {n : Nat} (h : lstE q l n=0) : l.length=n/\∀k,k<n->0<=nth l k/\nth l k<q:=by
 unfold lstE at h
 split at h
 ·rename_i hl
  unfold elsE at h
  split at h
  ·rename_i hq
   refine ⟨hl,λk hk=>?_⟩
   have h1:=List.all_eq_true.1 hq (nth l k) (nth_mem (by omega))
   simpa [isQ] using h1
  ·cases h
 ·cases h
theorem mLawSound_any (P M : Int) (am : Option Addr) (mn cm : Nat) (mod : List Int) (N : Int) (a : Option Addr) (n c : Nat) (L : List (List Int)) (ax : Option Addr) (nx cx : Nat) (x : List Int) (at' : Option Addr) (nt ct : Nat) (ts : List (List Int)) (av : Option Addr) (nv cv : Nat) (v : List Int) (w : World)
  (hmod : Ints w am mn mod) (hi : Mat w a n L) (hx : Ints w ax nx x) (hts : Mat w at' nt ts) (hnc : nt<=ct) (hv : Ints w av nv v) :
  Calls Tryz.prog 7 #[.agg #[.int .i64 P,.int .i64 M,.slice am mn cm,.int .i64 N,.slice a n c],.agg #[.slice ax nx cx,.slice at' nt ct],.slice av nv cv] w λe w'=>e = .returned (.bool true)/\Below w.heap.size w w':=by
 have hn : L.length=n:=hi.len
 have HF1 : Hid (∀V,Below w.heap.size w V->Calls Tryz.prog 28 #[.agg #[.int .i64 P,.int .i64 M,.slice am mn cm,.int .i64 N,.slice a n c],.int .i64 100] V (SomeBool V)):=λV hV=>rFew12_any P M am mn cm N a n c 100 L V (hi.keep hV) (by omega)
 have HF2 : Hid (∀V,Below w.heap.size w V->Calls Tryz.prog 29 #[.agg #[.slice at' nt ct]] V (SomeBool V)):=λV hV=>rFew26_any at' nt ct ts V (hts.keep hV)
 obtain ⟨ce,hce⟩ : ∃ce,codeE P M mod N L=ce:=⟨_,rfl⟩
 have HCk : Hid (∀V,Below w.heap.size w V->Calls Tryz.prog 22 #[.agg #[.int .i64 P,.int .i64 M,.slice am mn cm,.int .i64 N,.slice a n c]] V λe w'=>e = .returned (.int .i64 ce)/\Below V.heap.size V w'):=λV hV=>by
  rw [<- hce];exact rCheck_any P M am mn cm mod N a n c L V (hmod.keep hV) (hi.keep hV)
 have H1:=Lib.hid (λV (hV : Below w.heap.size w V)=>mCheck_any P M am mn cm mod N a n c L ax nx cx x at' nt ct ts V (hmod.keep hV) (hi.keep hV) (hx.keep hV) (hts.keep hV))
 have H2:=Lib.hid (λV (hV : Below w.heap.size w V)=>codeHasG_any P M am mn cm mod N a n c L ax nx cx x V (hmod.keep hV) (hi.keep hV) (hx.keep hV))
 have HWx:=Lib.hid (λV (hV : Below w.heap.size w V)=>rWeight25_any ax nx cx x V (hx.keep hV))
 have HWv:=Lib.hid (λV (hV : Below w.heap.size w V)=>rWeight25_any av nv cv v V (hv.keep hV))
 have HEn : Hid (∀m : Nat,N=m->codeE P M mod N L=0->∀V,Below w.heap.size w V->Calls Tryz.prog 32 #[.agg #[.int .i64 P,.int .i64 M,.slice am mn cm,.int .i64 m,.slice a n c],.slice av nv cv] V λe w'=>Below V.heap.size V w' /\
   ((lstE (tblOf P M.toNat mod).q v n ≠ 0/\e = .returned (.tuple #[.slice none 0 0,.int .i64 (lstE (tblOf P M.toNat mod).q v n)])) \/
    (lstE (tblOf P M.toNat mod).q v n=0/\∃a1 c1,e = .returned (.tuple #[.slice a1 m c1,.int .i64 0])/\Ints w' a1 m (cmbTo (tblOf P M.toNat mod).ops m v L n)))):=λm hm hE V hV=>by
  subst hm
  exact encode_any P M am mn cm mod m a n c L av nv cv v V (hmod.keep hV) (hi.keep hV) (hv.keep hV) hE
 have HLi:=Lib.hid (λV (hV : Below w.heap.size w V)=>rList12_any P M am mn cm av nv cv v n V (hv.keep hV))
 have Hn:=Lib.hid hn
 have Hce:=Lib.hid hce
 clear hmod hi hx hts hnc hv hn
 go_enter Tryz.func7,Tryz.ntmps7
 go_upto_region 1 with fail
 obtain ⟨W,hW⟩ : ∃W : World,W=(w.alloc (.cells #[.int .i64 P,.int .i64 M,.slice am mn cm,.int .i64 N,.slice a n c] 27)).alloc (.cells #[.slice ax nx cx,.slice at' nt ct] 49):=⟨_,rfl⟩
 rw [<- hW]
 have hbW : Below w.heap.size w W:=by rw [hW];exact below2 _ _ _
 have x0 : Box W w.heap.size [.int .i64 P,.int .i64 M,.slice am mn cm,.int .i64 N,.slice a n c]:=by rw [hW];exact (Box.new _ _ _ rfl).alloc _
 have y0 : Box W (w.heap.size+1) [.slice ax nx cx,.slice at' nt ct]:=by rw [hW];exact Box.new _ _ _ (by simp)
 have HS : Hid (∀V,Below W.heap.size W V->V.cell? ⟨w.heap.size,0,none⟩=some (.int .i64 P)/\V.cell? ⟨w.heap.size,1,none⟩=some (.int .i64 M)/\V.cell? ⟨w.heap.size,2,none⟩=some (.slice am mn cm)/\V.cell? ⟨w.heap.size,3,none⟩=some (.int .i64 N)/\V.cell? ⟨w.heap.size,4,none⟩=some (.slice a n c) /\
   V.cell? ⟨w.heap.size+1,0,none⟩=some (.slice ax nx cx)/\V.cell? ⟨w.heap.size+1,1,none⟩=some (.slice at' nt ct)):=λV hV=>by
  have x1:=x0.keep hV
  have y1:=y0.keep hV
  exact ⟨x1.cell 0 rfl,x1.cell 1 rfl,x1.cell 2 rfl,x1.cell 3 rfl,x1.cell 4 rfl,y1.cell 0 rfl,y1.cell 1 rfl⟩
 have HbW:=Lib.hid hbW
 clear hW x0 hbW y0 hce
 go_cut [46] (λv wx=>SomeB2 ce v/\Below W.heap.size W wx)
 case first =>
  go_wp2_with fail
  refine (awake27_any W).mono ?_
  rintro e w1 ⟨rfl,hb1⟩
  obtain ⟨c0,c1,c2,c3,c4,c5,c6⟩:=HS.out w1 hb1
  go_wp2_with fail
  refine (HF1.out w1 (Below.next HbW.out hb1)).mono ?_
  rintro e w2 ⟨z,rfl,hb2⟩
  have hB2:=Below.next hb1 hb2
  clear c0 c1 c2 c3 c4 c5 c6
  cases z
  ·go_wp2_with fail
   go_meet
   exact ⟨⟨true,rfl,λh=>by cases h⟩,hB2⟩
  obtain ⟨c0,c1,c2,c3,c4,c5,c6⟩:=HS.out w2 hB2
  by_cases h1 : 14<N
  ·have d1 : decide (14<N)=true:=by simpa using h1
   clear h1
   go_wp2_with fail
   go_meet
   exact ⟨⟨true,rfl,λh=>by cases h⟩,hB2⟩
  have d1 : decide (14<N)=false:=by simpa using h1
  clear h1
  go_wp2_with fail
  refine (HCk.out w2 (Below.next HbW.out hB2)).mono ?_
  rintro e w3 ⟨rfl,hb3⟩
  have hB3:=Below.next hB2 hb3
  clear c0 c1 c2 c3 c4 c5 c6
  by_cases h2 : ce=0
  rotate_left
  ·have d2 : (ce != 0)=true:=by simpa using h2
   clear h2
   go_wp2_with fail
   go_meet
   exact ⟨⟨true,rfl,λh=>by cases h⟩,hB3⟩
  have d2 : (ce != 0)=false:=by simpa using h2
  have Hc0:=Lib.hid h2
  clear h2
  obtain ⟨c0,c1,c2,c3,c4,c5,c6⟩:=HS.out w3 hB3
  by_cases h3 : 100<nx
  ·have d3 : decide (100<nx)=true:=by simpa using h3
   have d3' : decide ((100 : Int)<(nx : Int))=true:=by simp;omega
   go_wp2_with fail
   go_meet
   exact ⟨⟨true,rfl,λh=>by cases h⟩,hB3⟩
  have d3 : decide (100<nx)=false:=by simp;omega
  have d3' : decide ((100 : Int)<(nx : Int))=false:=by simp;omega
  go_wp2_with fail
  refine (HF2.out w3 (Below.next HbW.out hB3)).mono ?_
  rintro e w4 ⟨z,rfl,hb4⟩
  have hB4:=Below.next hB3 hb4
  clear c0 c1 c2 c3 c4 c5 c6
  cases z
  ·go_wp2_with fail
   go_meet
   exact ⟨⟨true,rfl,λh=>by cases h⟩,hB4⟩
  by_cases h4 : 64<nv
  ·have d4 : decide (64<nv)=true:=by simpa using h4
   have d4' : decide ((64 : Int)<(nv : Int))=true:=by simp;omega
   go_wp2_with fail
   go_meet
   exact ⟨⟨true,rfl,λh=>by cases h⟩,hB4⟩
  have d4 : decide (64<nv)=false:=by simp;omega
  have d4' : decide ((64 : Int)<(nv : Int))=false:=by simp;omega
  go_wp2_with fail
  go_meet
  exact ⟨⟨false,rfl,λ_=>Hc0.out⟩,hB4⟩
 obtain ⟨⟨z,rfl,hz⟩,hB⟩:=hcut
 generalize wc=Y at *
 cases z
 rotate_left
 ·clear hz
  go_wp2_with fail
  refine (awake27_any Y).mono ?_
  rintro e w3 ⟨rfl,hb3⟩
  have hF:=Below.next HbW.out (Below.next hB hb3)
  go_wp2_with fail
  go_ret
  exact ⟨rfl,hF⟩
 have hE : codeE P M mod N L=0:=by rw [Hce.out];exact hz rfl
 clear hz
 obtain ⟨m,rfl,hm1,hm64,F,hR⟩:=codeE_fld hE
 have HE:=Lib.hid hE
 have Hmz:=Lib.hid (λh=>mch_zero (x:=x) (ts:=ts) hE h)
 have HMV : Hid (mchV P M mod m L x ts=if mchE P M mod m L x ts=0 then (wtL x : Int) else 0):=rfl
 obtain ⟨me,hme⟩ : ∃me,mchE P M mod m L x ts=me:=⟨_,rfl⟩
 obtain ⟨mv,hmv⟩ : ∃mv,mchV P M mod m L x ts=mv:=⟨_,rfl⟩
 rw [hme] at HMV Hmz H1
 rw [hmv] at HMV H1
 clear hE hme hmv F hR
 obtain ⟨c0,c1,c2,c3,c4,c5,c6⟩:=HS.out Y hB
 go_wp2_with fail
 refine (H1.out Y (Below.next HbW.out hB)).mono ?_
 rintro e Y1 ⟨rfl,hb1⟩
 have hB1:=Below.next hB hb1
 clear c0 c1 c2 c3 c4 c5 c6
 by_cases h5 : me=0
 rotate_left
 ·have d5 : (me != 0)=true:=by simpa using h5
  have hmv0 : mv=0:=by rw [HMV.out,if_neg h5]
  have hF:=Below.next HbW.out hB1
  subst hmv0
  clear h5 HMV Hmz
  go_wp2_with fail
  go_ret
  exact ⟨rfl,hF⟩
 obtain ⟨q1,q2,q3,q4⟩:=Hmz.out h5
 have hmvd : mv=(wtL x : Int):=by rw [HMV.out,if_pos h5]
 subst h5
 obtain ⟨d,hd⟩ : ∃d,wtL x=d:=⟨_,rfl⟩
 have Hq4:=Lib.hid q4
 rw [q1,q2] at H2
 rw [hd] at hmvd q3 HWx Hq4
 subst hmvd
 clear HMV Hmz q1 q2 q4 hd
 obtain ⟨c0,c1,c2,c3,c4,c5,c6⟩:=HS.out Y1 hB1
 go_wp2_with fail
 refine (H2.out Y1 (Below.next HbW.out hB1)).mono ?_
 rintro e Y2 ⟨rfl,hb2⟩
 have hB2:=Below.next hB1 hb2
 clear c0 c1 c2 c3 c4 c5 c6
 obtain ⟨c0,c1,c2,c3,c4,c5,c6⟩:=HS.out Y2 hB2
 have e1 : decide ((d : Int)<1)=false:=by simp;omega
 have e1' : decide (d<1)=false:=by simp;omega
 have e2 : ((d : Int) != (d : Int))=false:=by simp
 go_wp2_with fail
 refine (HWx.out Y2 (Below.next HbW.out hB2)).mono ?_
 rintro e w' ⟨rfl,hw'⟩
 obtain rfl:=hw'.symm
 go_wp2_with fail
 refine (HEn.out m rfl HE.out Y2 (Below.next HbW.out hB2)).mono ?_
 have hq : ((tblOf P M.toNat mod).q : Int)=orderS P M:=by
  obtain ⟨m1,e1,_,h1,_⟩:=eq_ops (codeE_zero HE.out).1
  rw [show M.toNat=m1 by omega];exact h1
 rintro e Y3 ⟨hb3,⟨h6,rfl⟩ | ⟨h6,a1,c1',rfl,hI⟩⟩
 ·have hB3:=Below.next hB2 hb3
  clear c0 c1 c2 c3 c4 c5 c6
  obtain ⟨c0,c1,c2,c3,c4,c5,c6⟩:=HS.out Y3 hB3
  have hli:=HLi.out Y3 (Below.next HbW.out hB3)
  rw [<- hq] at hli
  have Hli:=Lib.hid hli
  have d6 : (lstE (tblOf P M.toNat mod).q v n != 0)=true:=by simpa using h6
  clear hli hq h6
  generalize lstE (tblOf P M.toNat mod).q v n=le at *
  go_wp2_with fail
  refine Hli.out.mono ?_
  rintro e Y4 ⟨rfl,hb4⟩
  have hF:=Below.next HbW.out (Below.next hB3 hb4)
  go_wp2_with fail
  go_ret
  exact ⟨rfl,hF⟩
 ·have hB3:=Below.next hB2 hb3
  obtain ⟨hvl,hve⟩:=els_nt h6
  have hdl:=dist_law Hq4.out (v:=v) (by rw [Hn.out];exact hvl) (λk hk=>hve k (by rw [<- Hn.out];exact hk))
  rw [Hn.out] at hdl
  have hWy:=rWeight25_any a1 m c1' _ Y3 hI
  have hWv:=HWv.out Y3 (Below.next HbW.out hB3)
  obtain ⟨dy,hdy⟩ : ∃dy,wtL (cmbTo (tblOf P M.toNat mod).ops m v L n)=dy:=⟨_,rfl⟩
  obtain ⟨dv,hdv⟩ : ∃dv,wtL v=dv:=⟨_,rfl⟩
  rw [hdy] at hdl hWy
  rw [hdv] at hdl hWv
  have HWy:=Lib.hid hWy
  have HWv2:=Lib.hid hWv
  have hF:=Below.next HbW.out hB3
  clear hI hWy hWv hdy hdv hq h6 hvl hve c0 c1 c2 c3 c4 c5 c6 HEn HLi HWv
  go_wp2_with fail
  refine HWv2.out.mono ?_
  rintro e w' ⟨rfl,hw'⟩
  obtain rfl:=hw'.symm
  by_cases h7 : dv=0
  ·have d7 : ((dv : Int) == 0)=true:=by simp;omega
   clear h7 hdl
   go_wp2_with fail
   go_ret
   exact ⟨rfl,hF⟩
  ·have d7 : ((dv : Int) == 0)=false:=by simp;omega
   have h8 : (d : Int)<=(dy : Int):=hdl.resolve_left h7
   have d8 : decide ((d : Int)<=(dy : Int))=true:=by simpa using h8
   have d8' : decide (d<=dy)=true:=by simp;omega
   clear h7 hdl h8
   go_wp2_with fail
   refine HWy.out.mono ?_
   rintro e w' ⟨rfl,hw'⟩
   obtain rfl:=hw'.symm
   go_wp2_with fail
   go_ret
   exact ⟨rfl,hF⟩
end

end Go.Proofs.YtcfmiocdlcapoaaGreat
