/-  -/
import Derived.Test.YtcfmiocdlcapoaaGreatK34
import Derived.Test.YtcfmiocdlcapoaaGreatMEX4
import Derived.Test.YtcfmiocdlcapoaaGreatMEX5
import Derived.Test.YtcfmiocdlcapoaaGreatMEX2
import Derived.Test.YtcfmiocdlcapoaaGreatMEX3
import Derived.Test.YtcfmiocdlcapoaaGreatMEX1
import Derived.Test.YtcfmiocdlcapoaaGreatK28
import Derived.Test.YtcfmiocdlcapoaaGreatK17
import Derived.Test.YtcfmiocdlcapoaaGreatK19
import Derived.Test.YtcfmiocdlcapoaaGreatK32
namespace Go.Proofs.YtcfmiocdlcapoaaGreat
set_option linter.unusedVariables false
set_option linter.unusedSimpArgs false
set_option linter.unusedSectionVars false

section
set_option maxRecDepth 100000
set_option maxHeartbeats 16000000

open Go.RowKit
theorem els_all {q : Nat} {l : List Int} {n : Nat} (h : lstE q l n=0) : l.length=n/\∀k,k<n->0<=nth l k/\nth l k<q:=by
 unfold lstE at h
 split at h
 ·rename_i hl
  unfold elsE at h
  split at h
  ·rename_i hq
   refine ⟨hl,λk hk=>?_⟩
   have h1:=List.all_eq_true.1 hq (nth l k) (nth_mem (by omega))
   simpa [isQ] using h1
  ·cases h
 ·cases h
def seenB (x : List Int) (W : Int) (T : List (List Int × Int)) (j : Nat) : Bool:=(T.take j).any λt=>decide ((wtL (pickL t.1 x) : Int)<=W)
theorem seenB_zero (x : List Int) (W : Int) (T : List (List Int × Int)) : seenB x W T 0=false:=by simp [seenB]
theorem seenB_succ (x : List Int) (W : Int) (T : List (List Int × Int)) {j : Nat} (h : j<T.length) : seenB x W T (j+1)=(seenB x W T j || decide ((wtL (pickL T[j].1 x) : Int)<=W)):=by
 unfold seenB
 rw [List.take_succ_eq_append_getElem h,List.any_append]
 simp
theorem seenB_law {x : List Int} {W Best Floor : Int} {T : List (List Int × Int)} {wt : Int} (h1 : (∃t ∈ T,(wtL (pickL t.1 x) : Int)<=W)->Best<=wt) (h2 : (∀t ∈ T,W<(wtL (pickL t.1 x) : Int))->Floor<=wt) :
  (seenB x W T T.length=true->Best<=wt)/\(seenB x W T T.length=false->Floor<=wt):=by
 unfold seenB
 rw [List.take_length]
 refine ⟨λh=>h1 ?_,λh=>h2 λt ht=>?_⟩
 ·obtain ⟨t,ht,hd⟩:=List.any_eq_true.1 h
  exact ⟨t,ht,of_decide_eq_true hd⟩
 ·have:=List.any_eq_false.1 h t ht
  simpa using this
theorem mLawExam_any (P M : Int) (am : Option Addr) (mn cm : Nat) (mod : List Int) (N : Int) (a : Option Addr) (n c : Nat) (L : List (List Int)) (av : Option Addr) (nv cv : Nat) (v : List Int) (w : World)
  (hmod : Ints w am mn mod) (hi : Mat w a n L) (hv : Ints w av nv v) :
  Calls Tryz.prog 6 #[.agg #[.int .i64 P,.int .i64 M,.slice am mn cm,.int .i64 N,.slice a n c],.slice av nv cv] w λe w'=>e = .returned (.bool true)/\Below w.heap.size w w':=by
 have hn : L.length=n:=hi.len
 have HSm:=Lib.hid (λV (hV : Below w.heap.size w V)=>rSmall27_any P M am mn cm mod N a n c L V (hmod.keep hV) (hi.keep hV))
 obtain ⟨ce,hce⟩ : ∃ce,codeE P M mod N L=ce:=⟨_,rfl⟩
 have HCk : Hid (∀V,Below w.heap.size w V->Calls Tryz.prog 22 #[.agg #[.int .i64 P,.int .i64 M,.slice am mn cm,.int .i64 N,.slice a n c]] V λe w'=>e = .returned (.int .i64 ce)/\Below V.heap.size V w'):=λV hV=>by
  rw [<- hce];exact rCheck_any P M am mn cm mod N a n c L V (hmod.keep hV) (hi.keep hV)
 have Hmi:=Lib.hid (And.intro hmod (And.intro hi hv))
 have Hn:=Lib.hid hn
 have Hce:=Lib.hid hce
 clear hmod hi hn hv hce
 go_enter Tryz.func6,Tryz.ntmps6
 go_upto_region 1 with fail
 obtain ⟨W,hW⟩ : ∃W : World,W=w.alloc (.cells #[.int .i64 P,.int .i64 M,.slice am mn cm,.int .i64 N,.slice a n c] 27):=⟨_,rfl⟩
 rw [<- hW]
 have hbW : Below w.heap.size w W:=by rw [hW];exact below1 _ _
 have x0 : Box W w.heap.size [.int .i64 P,.int .i64 M,.slice am mn cm,.int .i64 N,.slice a n c]:=by rw [hW];exact Box.new _ _ _ rfl
 have HS : Hid (∀V,Below W.heap.size W V->V.cell? ⟨w.heap.size,0,none⟩=some (.int .i64 P)/\V.cell? ⟨w.heap.size,1,none⟩=some (.int .i64 M)/\V.cell? ⟨w.heap.size,2,none⟩=some (.slice am mn cm)/\V.cell? ⟨w.heap.size,3,none⟩=some (.int .i64 N)/\V.cell? ⟨w.heap.size,4,none⟩=some (.slice a n c)):=λV hV=>by
  have x1:=x0.keep hV
  exact ⟨x1.cell 0 rfl,x1.cell 1 rfl,x1.cell 2 rfl,x1.cell 3 rfl,x1.cell 4 rfl⟩
 have HbW:=Lib.hid hbW
 clear hW x0 hbW
 go_cut [32] (λv wx=>SomeBC (ce=0) v/\Below W.heap.size W wx)
 case first =>
  go_wp2_with fail
  refine (awake27_any W).mono ?_
  rintro e w1 ⟨rfl,hb1⟩
  obtain ⟨c0,c1,c2,c3,c4⟩:=HS.out w1 hb1
  go_wp2_with fail
  refine (HSm.out w1 (Below.next HbW.out hb1)).mono ?_
  rintro e w2 ⟨z,rfl,_,hb2⟩
  have hB2:=Below.next hb1 hb2
  clear c0 c1 c2 c3 c4
  cases z
  ·go_wp2_with fail
   go_meet
   exact ⟨⟨true,rfl,λh=>by cases h⟩,hB2⟩
  obtain ⟨c0,c1,c2,c3,c4⟩:=HS.out w2 hB2
  go_wp2_with fail
  refine (HCk.out w2 (Below.next HbW.out hB2)).mono ?_
  rintro e w3 ⟨rfl,hb3⟩
  have hB3:=Below.next hB2 hb3
  clear c0 c1 c2 c3 c4
  by_cases h2 : ce=0
  rotate_left
  ·have d2 : (ce != 0)=true:=by simpa using h2
   clear h2
   go_wp2_with fail
   go_meet
   exact ⟨⟨true,rfl,λh=>by cases h⟩,hB3⟩
  have d2 : (ce != 0)=false:=by simpa using h2
  have Hc0:=Lib.hid h2
  clear h2
  by_cases h4 : 64<nv
  ·have d4 : decide (64<nv)=true:=by simpa using h4
   have d4' : decide ((64 : Int)<(nv : Int))=true:=by simp;omega
   go_wp2_with fail
   go_meet
   exact ⟨⟨true,rfl,λh=>by cases h⟩,hB3⟩
  have d4 : decide (64<nv)=false:=by simp;omega
  have d4' : decide ((64 : Int)<(nv : Int))=false:=by simp;omega
  go_wp2_with fail
  go_meet
  exact ⟨⟨false,rfl,λ_=>Hc0.out⟩,hB3⟩
 obtain ⟨⟨z,rfl,hz⟩,hB⟩:=hcut
 generalize wc=Y at *
 cases z
 rotate_left
 ·clear hz
  go_wp2_with fail
  refine (awake27_any Y).mono ?_
  rintro e w3 ⟨rfl,hb3⟩
  have hF:=Below.next HbW.out (Below.next hB hb3)
  go_wp2_with fail
  go_ret
  exact ⟨rfl,hF⟩
 have hE : codeE P M mod N L=0:=by rw [Hce.out];exact hz rfl
 clear hz
 obtain ⟨m,rfl,hm1,hm64,F,hR⟩:=codeE_fld hE
 have hn64 : n<=64:=by have:=code_le hE;have:=Hn.out;omega
 have hall:=λt ht=>chain_mem (fam_all hE).1 t ht
 have hTl:=(fam_all hE).2
 have HX : Hid (∀o b,runR P M mod m L=(o,b,0)->lstE (tblOf P M.toNat mod).q v n=0->wtL v ≠ 0->CW P M mod m L (cmbTo (tblOf P M.toNat mod).ops m v L n)/\(∀r ∈ o,RndOk P M mod m L r)/\1<=o.length):=λo b hr hl h0=>by
  obtain ⟨hvl,hve⟩:=els_all hl
  have hc:=cw_msg hE (by rw [hvl,Hn.out]) (λk hk=>hve k (by rw [<- Hn.out];exact hk)) h0
  rw [Hn.out] at hc
  refine ⟨hc,?_⟩
  have hk1 : 1<=L.length:=by
   refine Nat.pos_of_ne_zero λh=>?_
   have h5 : runR P M mod m L=([],[],11):=by unfold runR;rw [if_neg (by rw [hE];decide),if_pos h]
   rw [h5] at hr;simp at hr
  rcases run_law hE hk1 with h | ⟨o',b',h,_,_,h4,h5⟩
  ·rw [h] at hr;simp at hr
  ·rw [h] at hr
   obtain ⟨rfl,rfl,_⟩ : o'=o/\b'=b/\True:=by simpa using hr
   exact ⟨h4,h5⟩
 obtain ⟨T,hT⟩ : ∃T,famL (tblOf P M.toNat mod).ops L m=T:=⟨_,rfl⟩
 rw [hT] at hall hTl
 obtain ⟨kf,hkf⟩ : ∃kf,T.length=kf:=⟨_,rfl⟩
 have HFa : Hid (∀V,Below w.heap.size w V->Calls Tryz.prog 31 #[.agg #[.int .i64 P,.int .i64 M,.slice am mn cm,.int .i64 m,.slice a n c]] V λe w'=>∃a1 c1,e = .returned (.tuple #[.slice a1 kf c1,.int .i64 0])/\StR w' a1 kf T/\Below V.heap.size V w'):=λV hV=>by
  refine (family_any P M am mn cm mod m a n c L V (Hmi.out.1.keep hV) (Hmi.out.2.1.keep hV)).mono ?_
  rintro e w' ⟨hb,⟨h1,_⟩ | ⟨_,m2,e2,k,a1,c1,R,T2,h3,rfl,hO⟩⟩
  ·exact absurd hE h1
  ·obtain rfl : m=m2:=by omega
   rw [hT] at h3
   subst h3
   obtain rfl : k=kf:=by rw [<- hkf];exact hO.tl.symm
   exact ⟨a1,c1,rfl,hO.str,hb⟩
 have HRd:=Lib.hid (λV (hV : Below w.heap.size w V)=>mRounds_any P M am mn cm mod m a n c L V (Hmi.out.1.keep hV) (Hmi.out.2.1.keep hV))
 have HEn:=Lib.hid (λV (hV : Below w.heap.size w V)=>encode_any P M am mn cm mod m a n c L av nv cv v V (Hmi.out.1.keep hV) (Hmi.out.2.1.keep hV) (Hmi.out.2.2.keep hV) hE)
 have HWv:=Lib.hid (λV (hV : Below w.heap.size w V)=>rWeight25_any av nv cv v V (Hmi.out.2.2.keep hV))
 have Hall:=Lib.hid hall
 have HT:=Lib.hid hT
 have Hkf:=Lib.hid hkf
 have hkl : kf<=64:=by omega
 obtain ⟨⟨o,b,er⟩,hr⟩ : ∃r,runR P M mod m L=r:=⟨_,rfl⟩
 rw [hr] at HRd
 have Hr:=Lib.hid hr
 obtain ⟨le,hle⟩ : ∃le,lstE (tblOf P M.toNat mod).q v n=le:=⟨_,rfl⟩
 obtain ⟨x,hx⟩ : ∃x,cmbTo (tblOf P M.toNat mod).ops m v L n=x:=⟨_,rfl⟩
 obtain ⟨dv,hdv⟩ : ∃dv,wtL v=dv:=⟨_,rfl⟩
 rw [hle,hx] at HEn
 rw [hle,hdv,hx] at HX
 rw [hdv] at HWv
 clear hE hT hkf hTl hall F hR hr hle hx hdv Hce
 obtain ⟨c0,c1,c2,c3,c4⟩:=HS.out Y hB
 go_wp2_with fail
 refine (HRd.out Y (Below.next HbW.out hB)).mono ?_
 rintro e Y1 ⟨ar,nr,cr,rfl,hRn,hb1⟩
 have hB1:=Below.next hB hb1
 clear c0 c1 c2 c3 c4
 obtain ⟨c0,c1,c2,c3,c4⟩:=HS.out Y1 hB1
 have HRn:=Lib.hid hRn
 clear hRn
 go_wp2_with fail
 refine (HFa.out Y1 (Below.next HbW.out hB1)).mono ?_
 rintro e Y2 ⟨af,cf,rfl,hSt,hb2⟩
 have hB2:=Below.next hB1 hb2
 clear c0 c1 c2 c3 c4
 obtain ⟨c0,c1,c2,c3,c4⟩:=HS.out Y2 hB2
 have HSt:=Lib.hid hSt
 clear hSt
 go_wp2_with fail
 refine (HEn.out Y2 (Below.next HbW.out hB2)).mono ?_
 rintro e Y3 ⟨hb3,⟨h6,rfl⟩ | ⟨h6,a1,c1',rfl,hI⟩⟩
 ·have hF:=Below.next HbW.out (Below.next hB2 hb3)
  have d6 : (le != 0)=true:=by simpa using h6
  clear h6 c0 c1 c2 c3 c4
  by_cases h7 : er=0
  ·have d7 : (er != 0)=false:=by simpa using h7
   clear h7
   go_wp2_with fail
   go_ret
   exact ⟨rfl,hF⟩
  ·have d7 : (er != 0)=true:=by simpa using h7
   clear h7
   go_wp2_with fail
   go_ret
   exact ⟨rfl,hF⟩
 have hB3:=Below.next hB2 hb3
 have hF:=Below.next HbW.out hB3
 clear c0 c1 c2 c3 c4
 by_cases h7 : er=0
 rotate_left
 ·have d7 : (er != 0)=true:=by simpa using h7
  clear h7
  go_wp2_with fail
  go_ret
  exact ⟨rfl,hF⟩
 have d7 : (er != 0)=false:=by simpa using h7
 have hwv:=HWv.out Y3 hF
 have Hwv:=Lib.hid hwv
 clear hwv
 by_cases h8 : dv=0
 ·have d8 : ((dv : Int) == 0)=true:=by simp;omega
  clear h7 h8
  go_wp2_with fail
  refine Hwv.out.mono ?_
  rintro e w' ⟨rfl,hw'⟩
  obtain rfl:=hw'.symm
  go_wp2_with fail
  go_ret
  exact ⟨rfl,hF⟩
 have d8 : ((dv : Int) == 0)=false:=by simp;omega
 subst h7
 subst h6
 obtain ⟨hX1,hX2,hX3⟩:=HX.out o b Hr.out rfl h8
 have hxl:=hX1.1.1
 have HX1:=Lib.hid (And.intro hX1 hX2)
 have HI:=Lib.hid hI
 clear hX1 hX2 hI h8 HX
 obtain ⟨c0,c1,c2,c3,c4⟩:=HS.out Y3 hB3
 go_wp2_with fail
 refine Hwv.out.mono ?_
 rintro e w' ⟨rfl,hw'⟩
 obtain rfl:=hw'.symm
 have eNN : ((m : Int) != (m : Int))=false:=by simp
 have hplR:=HRn.out.pl
 have hmxR:=HRn.out.max
 unfold maxLen at hmxR
 have hplT:=HSt.out.pl
 have hbR:=Lib.hid (Below.next hb2 hb3)
 have hbT:=Lib.hid hb3
 have hnr : o.length=nr:=HRn.out.len
 have hnr1 : 1<=nr:=by omega
 have HWx:=Lib.hid (λV (hV : Below Y3.heap.size Y3 V)=>rWeight25_any a1 m c1' x V (HI.out.keep hV))
 have Hnr:=Lib.hid hnr
 obtain ⟨wx,hwx⟩ : ∃wx,wtL x=wx:=⟨_,rfl⟩
 have HL : Hid (∀i,i<nr->((∃t ∈ T,(wtL (pickL t.1 x) : Int)<=nth (nthR o i) 0)->nth (nthR o i) 2<=wx)/\((∀t ∈ T,nth (nthR o i) 0<(wtL (pickL t.1 x) : Int))->nth (nthR o i) 3<=wx)):=λi hi=>by
  have h:=HX1.out.2 (nthR o i) (by rw [nthR_getElem (by rw [Hnr.out];exact hi)];exact List.getElem_mem _) x HX1.out.1
  rw [HT.out,hwx] at h
  exact h
 rw [hwx] at HWx
 clear hnr hX3 hwx Hwv HWv hb1 hb2 hb3 hxl
 go_wp2_with fail
 go_loopw [72] (λiv wr=>∃i : Nat,i<=nr/\iv = .int .i64 i/\Below Y3.heap.size Y3 wr) (λiv _=>nr - (intOf iv).toNat)
 case atStart=>exact ⟨0,Nat.zero_le _,rfl,Below.refl _ _⟩
 case round =>
  obtain ⟨i,hik,rfl,hbV⟩:=hrel
  generalize wr=V at *
  by_cases hlt : i<nr
  ·have r1:=((HRn.out.keep hbR.out).keep hbV).cell i hlt
   have p0:=r1 0 (by omega)
   have p1:=r1 1 (by omega)
   have p2:=r1 2 (by omega)
   have p3:=r1 3 (by omega)
   rw [Nat.add_zero] at p0
   obtain ⟨q1,q2⟩:=HL.out i hlt
   have hlaw:=seenB_law q1 q2
   clear r1 q1 q2
   generalize nth (nthR o i) 0=r0 at *
   generalize nth (nthR o i) 1=r1 at *
   generalize nth (nthR o i) 2=r2 at *
   generalize nth (nthR o i) 3=r3 at *
   have Hlaw:=Lib.hid hlaw
   obtain ⟨U,hU⟩ : ∃U,V.alloc (.cells #[.int .i64 r0,.int .i64 r1,.int .i64 r2,.int .i64 r3] 62)=U:=⟨_,rfl⟩
   have hbU : Below V.heap.size V U:=by rw [<- hU];exact below1 _ _
   have xU : Box U V.heap.size [.int .i64 r0,.int .i64 r1,.int .i64 r2,.int .i64 r3]:=by rw [<- hU];exact Box.new _ _ _ rfl
   obtain ⟨gR,hgR⟩ : ∃gR,V.heap.size=gR:=⟨_,rfl⟩
   have hb3U:=Below.next hbV hbU
   rw [hgR] at xU
   have HxU:=Lib.hid xU
   have Hb3U:=Lib.hid hb3U
   clear hlaw xU hbU hb3U
   go_upto_region 13 with fail
   try rw [hU]
   try rw [hgR]
   clear hU hgR p0 p1 p2 p3
   go_wp2_with fail
   go_loopw [13,78] (λsv jv wr=>∃j : Nat,j<=kf/\jv = .int .i64 j/\sv = .bool (seenB x r0 T j)/\Below U.heap.size U wr) (λ_ jv _=>kf - (intOf jv).toNat)
   case atStart=>exact ⟨0,Nat.zero_le _,rfl,by rw [seenB_zero],Below.refl _ _⟩
   case round =>
    obtain ⟨j,hjk,rfl,rfl,hbX⟩:=hrel
    generalize wr=X at *
    by_cases hltj : j<kf
    ·have hjT : j<T.length:=by rw [Hkf.out];exact hltj
     have hb3X:=Below.next Hb3U.out hbX
     obtain ⟨sa,sc,p0,p1,hIS⟩:=((HSt.out.keep hbT.out).keep hb3X).cell j hjT
     have hok:=(Hall.out _ (List.getElem_mem hjT)).1
     have hsu:=seenB_succ x r0 T hjT
     obtain ⟨S,hS⟩ : ∃S,T[j].1=S:=⟨_,rfl⟩
     obtain ⟨r,hr⟩ : ∃r,T[j].2=r:=⟨_,rfl⟩
     rw [hS] at p0 hIS hok hsu
     rw [hr] at p1
     obtain ⟨Sn,hSn⟩ : ∃Sn,S.length=Sn:=⟨_,rfl⟩
     rw [hSn] at p0 hIS
     have hSm : Sn<=m:=by have h1:=okSet_len hok (by omega);omega
     have hSin:=okSet_rng hok
     have HSu:=Lib.hid hsu
     obtain ⟨X1,hX1⟩ : ∃X1,X.alloc (.cells #[.slice sa Sn sc,.int .i64 r] 64)=X1:=⟨_,rfl⟩
     have hbX1 : Below X.heap.size X X1:=by rw [<- hX1];exact below1 _ _
     have xX1 : Box X1 X.heap.size [.slice sa Sn sc,.int .i64 r]:=by rw [<- hX1];exact Box.new _ _ _ rfl
     obtain ⟨gS,hgS⟩ : ∃gS,X.heap.size=gS:=⟨_,rfl⟩
     rw [hgS] at xX1
     have hIS1:=hIS.keep hbX1
     have hri:=rising_any m sa Sn sc S X1 hIS1
     rw [hok] at hri
     have Hri:=Lib.hid hri
     have Hb1:=Lib.hid (Below.next hbX hbX1)
     have HIS:=Lib.hid hIS1
     have HxX1:=Lib.hid xX1
     have HSin:=Lib.hid hSin
     have HSn:=Lib.hid hSn
     clear hS hr hok hsu hSin hIS hIS1 hri hSn hjT hb3X
     go_upto_region 17 with fail
     try rw [hX1]
     try rw [hgS]
     clear hX1 hgS p0 p1 hbX1 xX1
     have e0:=HxX1.out.cell 0 rfl
     have e1:=HxX1.out.cell 1 rfl
     obtain ⟨c0,c1,c2,c3,c4⟩:=HS.out X1 (Below.next hB3 (Below.next Hb3U.out Hb1.out))
     go_wp2_with fail
     refine Hri.out.mono ?_
     rintro e X2 ⟨rfl,hdr⟩
     have hb2 : Below X1.heap.size X1 X2:=hdr.below
     have HIS2:=Lib.hid (HIS.out.keep hb2)
     have hx2:=HxX1.out.keep hb2
     have hr2:=(HxU.out.keep Hb1.out).keep hb2
     have e0:=hx2.cell 0 rfl
     have e1:=hx2.cell 1 rfl
     have f0:=hr2.cell 0 rfl
     have Hb2:=Lib.hid (Below.next Hb1.out hb2)
     clear c0 c1 c2 c3 c4 hdr hx2 hr2
     have HK : Hid (∀V,Below X2.heap.size X2 V->V.cell? ⟨gS,0,none⟩=some (.slice sa Sn sc)/\V.cell? ⟨gR,0,none⟩=some (.int .i64 r0)):=λV hV=>⟨cell_keep hV e0,cell_keep hV f0⟩
     have hpk : ∀V, Below X2.heap.size X2 V -> Calls Tryz.prog 34 #[.slice a1 m c1', .slice sa Sn sc] V λe w' => ∃a7 k7, e = .returned (.slice a7 Sn k7) /\ Hid (∀Z, Below w'.heap.size w' Z -> Calls Tryz.prog 20 #[.slice a7 Sn k7] Z λe w'' => e = .returned (.int .i64 (wtL (pickL S x))) /\ Below Z.heap.size Z w'') /\ Below V.heap.size V w' := λV hV => by
      have hb3V:=Below.next (Below.next Hb3U.out Hb2.out) hV
      refine (rPick_any a1 m c1' x sa Sn sc S V (HI.out.keep hb3V) (HIS2.out.keep hV) HSin.out (by omega)).mono ?_
      rintro e w' ⟨a7,k7,rfl,hown,hb⟩
      have hpl : (pickL S x).length=Sn:=by simp [pickL,HSn.out]
      rw [hpl] at hown ⊢
      refine ⟨a7,k7,rfl,λZ hZ=>?_,hb⟩
      refine (rWeight25_any a7 Sn k7 (pickL S x) Z ((Ints.own hown).1.keep hZ)).mono ?_
      rintro e w'' ⟨rfl, hw''⟩
      exact ⟨rfl, by rw [hw'']; exact Below.refl _ _⟩
     have Hpk:=Lib.hid hpk
     obtain ⟨ss,hss⟩ : ∃ss,seenB x r0 T j=ss:=⟨_,rfl⟩
     rw [hss] at HSu ⊢
     obtain ⟨t,ht⟩ : ∃t,wtL (pickL S x)=t:=⟨_,rfl⟩
     rw [ht] at HSu
     simp only [ht] at Hpk
     clear hpk hss ht Hri HIS HxX1
     cases ss
     ·go_upto_region 19 with fail
      go_region_law ((first
       | (go_simp;go_at_call 34;((with_reducible refine (Hpk.out _ (by first | exact Below.refl _ _ | exact (Below.refl _ _).drew)).mono ?_);rintro e w7 ⟨a7,k7,rfl,HW7,hb7⟩;have f7:=(HK.out w7 (by first | exact hb7 | exact Below.next (Below.refl _ _).drew hb7)).2))
       | (go_simp;go_at_call 20;((with_reducible refine (HW7.out _ (by first | exact Below.refl _ _ | exact (Below.refl _ _).drew)).mono ?_);rintro e w8 ⟨rfl,hb8⟩;have f8:=(HK.out w8 (by first | exact Below.next hb7 hb8 | exact Below.next (Below.next (Below.refl _ _).drew hb7) hb8)).2))))
      all_goals (
       have hbZ : Below X2.heap.size X2 w8:=(by first | exact Below.next hb7 hb8 | exact Below.next (Below.next (Below.refl _ _).drew hb7) hb8)
       have Hb3:=Lib.hid (Below.next Hb2.out hbZ)
       go_wp2_with fail
       go_roundw
       case rel=>exact ⟨j+1,by omega,by go_num,by rw [HSu.out];simp,Hb3.out⟩
       case measure=>simp [intOf] <;> omega)
     ·go_wp2_with fail
      go_quiet (fail)
      go_wp2_with fail
      go_roundw
      case rel=>exact ⟨j+1,by omega,by go_num,by rw [HSu.out];simp,Below.next Hb2.out (Drawn.below ⟨_,rfl⟩)⟩
      case measure=>simp [intOf] <;> omega
    ·
     obtain rfl : j=kf:=by omega
     have hlw:=Hlaw.out
     rw [Hkf.out] at hlw
     have hWX:=HWx.out X (Below.next Hb3U.out hbX)
     have hrX:=HxU.out.keep hbX
     have f2:=hrX.cell 2 rfl
     have f3:=hrX.cell 3 rfl
     have HWX:=Lib.hid hWX
     have Hb4:=Lib.hid (Below.next Hb3U.out hbX)
     obtain ⟨ss,hss⟩ : ∃ss,seenB x r0 T j=ss:=⟨_,rfl⟩
     rw [hss] at hlw ⊢
     clear hWX hrX hss Hlaw
     cases ss
     ·have h9:=hlw.2 rfl
      have d1 : decide ((wx : Int)<r3)=false:=by simp;omega
      clear hlw h9
      go_wp2_with fail
      go_quiet ((go_at_call 20;exact Calls.quiet_of_same (HWx.out _ (Below.next Hb4.out (Drawn.below ⟨_,rfl⟩)))))
      go_wp2_with fail
      go_roundw
      case rel=>exact ⟨i+1,by omega,by go_num,Below.next Hb4.out (Drawn.below ⟨_,rfl⟩)⟩
      case measure=>simp [intOf] <;> omega
     ·have h9:=hlw.1 rfl
      have d1 : decide ((wx : Int)<r2)=false:=by simp;omega
      clear hlw h9
      go_wp2_with fail
      go_quiet ((go_at_call 20;exact Calls.quiet_of_same (HWx.out _ (Below.next Hb4.out (Drawn.below ⟨_,rfl⟩)))))
      go_wp2_with fail
      go_roundw
      case rel=>exact ⟨i+1,by omega,by go_num,Below.next Hb4.out (Drawn.below ⟨_,rfl⟩)⟩
      case measure=>simp [intOf] <;> omega
  ·obtain rfl : i=nr:=by omega
   have hF2:=Below.next hF hbV
   have d1 : decide ((0 : Int)<(i : Int))=true:=by simp;omega
   have d1' : decide ((i : Int) > (0 : Int))=true:=by simp;omega
   have dn : decide (0<i)=true:=by simp;omega
   go_wp2_with fail
   go_ret
   exact ⟨rfl,hF2⟩
end

end Go.Proofs.YtcfmiocdlcapoaaGreat
