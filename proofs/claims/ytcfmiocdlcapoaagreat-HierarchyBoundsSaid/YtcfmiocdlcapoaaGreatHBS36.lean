import Derived.Test.YtcfmiocdlcapoaaGreatHBS34
import Derived.Test.YtcfmiocdlcapoaaGreatHBS35
namespace Go.Proofs.YtcfmiocdlcapoaaGreat
set_option linter.all false
set_option maxRecDepth 100000
set_option maxHeartbeats 16000000
open Go.RowKit Go.Proofs.Tryz
structure LK (q m k d u : Nat) (D : Lz) : Prop where
 len : D.length=k
 first : nth D 0=d
 lo : ∀t,t<k->1<=nth D t
 hi : ∀t : Nat,t<k->nth D t<=(m : Int) - k+((t : Int)+1)
 top : ∀t,t<k->nth D t<=m
 asc : ∀t,t+1<k->nth D t<nth D (t+1)
 rat : ∀t,t+1<k->((q : Int) ^ (t+2) - 1) * nth D t<=((q : Int) ^ (t+2) - q) * nth D (t+1)
 last : nth D (k - 1)=u
theorem La {P M : Int} {mod : Lz} {m : Nat} {L : ZZ} (hE : aH P M mod m L=0) (hk : 1<=L.length) (hf : m * (aa P M.toNat mod).q ^ L.length<=65536) :
  (iw P M mod m L).2.2=0/\LK (aa P M.toNat mod).q m L.length (cw (iw P M mod m L).2.1) (eC L m).length (lu (aa P M.toNat mod).ops L m L.length):=by
 obtain ⟨o,b,hr,hb,hle,_⟩:=Gk hE hk hf;rw [hr];refine ⟨rfl,?_⟩;have hlen : (lu (aa P M.toNat mod).ops L m L.length).length=L.length:=by simp [lu]
 have hat : ∀t,t<L.length->nth (lu (aa P M.toNat mod).ops L m L.length) t=((dM (aa P M.toNat mod).ops L m ((t : Int)+1)).length : Nat):=λt ht=>by unfold lu;rw [ek _ _ _ ht]
 have hg:=FU hE;have hasc:=CC hE;have hlo : ∀t,t<L.length->1<=nth (lu (aa P M.toNat mod).ops L m L.length) t:=λt ht=>(hg t (by rw [hlen];exact ht)).1;have htop : ∀t,t<L.length->nth (lu (aa P M.toNat mod).ops L m L.length) t<=m:=λt ht=>(hg t (by rw [hlen];exact ht)).2.1;refine ⟨hlen,?_,hlo,λt ht=>?_,htop,λt ht=>?_,λt ht=>?_,?_⟩
 ·rw [hat 0 (by omega),<- DD hE hk hb hle];rfl
 ·have h1:=xF hasc (L.length - 1 - t) t (by rw [hlen];omega);rw [show t+(L.length - 1 - t)=L.length - 1 by omega] at h1;have h2:=htop (L.length - 1) (by omega);omega
 ·have h1:=xF hasc 1 t (by rw [hlen];omega);omega
 ·have h1:=Eg hE (r:=t+2) (by omega) (by omega);rw [hat t (by omega),hat (t+1) ht];rw [show ((t+2 : Nat) : Int) - 1=(t : Int)+1 by omega,show ((t+2 : Nat) : Int)=((t+1 : Nat) : Int)+1 by omega] at h1;exact h1
 ·rw [hat (L.length - 1) (by omega),show ((L.length - 1 : Nat) : Int)+1=(L.length : Int) by omega,GV hE]
theorem tU (P M : Int) (am : OA) (mn cm : Nat) (mod : Lz) (N : Int) (a : OA) (n c : Nat) (L : ZZ) (w : World)
  (hmod : Ints w am mn mod) (hi : cU w a n L) :
  Calls prog 11 #[.agg #[.int .i64 P,.int .i64 M,.slice am mn cm,.int .i64 N,.slice a n c]] w λe w'=>e = .returned (.bool true)/\Rs w w':=by
 have HSm : Hid (∀V,Rs w V->Calls prog 43 #[.agg #[.int .i64 P,.int .i64 M,.slice am mn cm,.int .i64 N,.slice a n c]] V (lX V)):=λV hV=>wj P M am mn cm mod N a n c L V (hmod.ah hV) (hi.ah hV);have HCn:=Z5 (λV (hV : Rs w V)=>yQ 3000 P M am mn cm mod N a n c L V (hmod.ah hV) (hi.ah hV));have HWt:=Z5 (λV (hV : Rs w V)=>DB P M am mn cm mod N a n c L V (hmod.ah hV) (hi.ah hV));have HDi:=Z5 (λV (hV : Rs w V)=>uB P M am mn cm mod N a n c L V (hmod.ah hV) (hi.ah hV));have HOr:=Z5 (λV=>jz P M am mn cm V);have Hln:=Z5 hi.len;have hplL:=hi.pl;have Hi:=Z5 hi;clear hmod hi;go_enter func11,ntmps11;go_wp2_with fail;obtain ⟨W,hW⟩ : ∃W : World,W=w.alloc (.cells #[.int .i64 P,.int .i64 M,.slice am mn cm,.int .i64 N,.slice a n c] 27):=⟨_,rfl⟩
 rw [<- hW];have hbW : Rs w W:=by rw [hW];exact aB _ _
 have x0 : bf W w.heap.size [.int .i64 P,.int .i64 M,.slice am mn cm,.int .i64 N,.slice a n c]:=by rw [hW];exact QS _ _ _ rfl
 have HS : Hid (∀V,Rs W V->V.cell? ⟨w.heap.size,0,none⟩=some (.int .i64 P)/\V.cell? ⟨w.heap.size,1,none⟩=some (.int .i64 M)/\V.cell? ⟨w.heap.size,2,none⟩=some (.slice am mn cm)/\V.cell? ⟨w.heap.size,3,none⟩=some (.int .i64 N)/\V.cell? ⟨w.heap.size,4,none⟩=some (.slice a n c)):=λV hV=>by have x1:=x0.ah hV;exact ⟨x1.cell 0 rfl,x1.cell 1 rfl,x1.cell 2 rfl,x1.cell 3 rfl,x1.cell 4 rfl⟩
 have HbW:=Z5 hbW;clear hW x0 hbW;refine (iT W).mono ?_;rintro e w1 ⟨rfl,hb1⟩;obtain ⟨c0,c1,c2,c3,c4⟩:=HS.out w1 hb1;go_wp2_with fail;refine (HSm.out w1 (QQ HbW.out hb1)).mono ?_;rintro e w2 ⟨z,rfl,hb2⟩;have hB2:=QQ hb1 hb2;clear c0 c1 c2 c3 c4 HSm;cases z
 ·go_wp2_with fail;refine (iT w2).mono ?_;rintro e w3 ⟨rfl,hb3⟩;have hF:=QQ HbW.out (QQ hB2 hb3);go_wp2_with fail;go_ret;exact ⟨rfl,hF⟩
 obtain ⟨c0,c1,c2,c3,c4⟩:=HS.out w2 hB2;by_cases h9 : 9<N
 ·have d1 : decide ((9 : Int)<N)=true:=by simpa using h9
  clear h9;go_wp2_with fail;refine (iT w2).mono ?_;rintro e w4 ⟨rfl,hb4⟩;have hF:=QQ HbW.out (QQ hB2 hb4);go_wp2_with fail;go_ret;exact ⟨rfl,hF⟩
 have d1 : decide ((9 : Int)<N)=false:=by simpa using h9
 have H9:=Z5 h9;clear h9;go_wp2_with fail;refine (HCn.out w2 (QQ HbW.out hB2)).mono ?_;rintro e w3 ⟨rfl,hb3⟩;have hB3:=QQ hB2 hb3;clear c0 c1 c2 c3 c4 HCn hb1 hb2 hb3 d1;by_cases hc : wJ 3000 P M mod N L=0
 ·rw [hc];clear hc;go_wp2_with fail;refine (iT w3).mono ?_;rintro e w4 ⟨rfl,hb4⟩;have hF:=QQ HbW.out (QQ hB3 hb4);go_wp2_with fail;go_ret;exact ⟨rfl,hF⟩
 obtain ⟨hE,hq3,-⟩:=Jb hc;have d2 : (wJ 3000 P M mod N L == 0)=false:=by simpa using hc
 generalize wJ 3000 P M mod N L=cn at *;obtain ⟨c0,c1,c2,c3,c4⟩:=HS.out w3 hB3;rcases Na n with hn0 | hn1
 ·have d3 : ((n : Int) == 0)=true:=by simp;omega
  clear hc;go_wp2_with fail;refine (iT w3).mono ?_;rintro e w4 ⟨rfl,hb4⟩;have hF:=QQ HbW.out (QQ hB3 hb4);go_wp2_with fail;go_ret;exact ⟨rfl,hF⟩
 have d3 : ((n : Int) == 0)=false:=by simp;omega
 obtain ⟨m,rfl,hm1,hm64,F,hR⟩:=aS hE;have hm9 : m<=9:=by have:=H9.out;omega
 have hln:=Hln.out;have hf : m * (aa P M.toNat mod).q ^ L.length<=65536:=by
  have h1 : (aa P M.toNat mod).q ^ L.length<=3000:=by omega
  have h2:=Pp hm9 h1;omega
 obtain ⟨hr0,hOk⟩:=La hE (by omega) hf;have hoq : aU P M=((aa P M.toNat mod).q : Int):=by obtain ⟨m1,e1,_,h1,_⟩:=tL (bL hE).1;rw [show M.toNat=m1 by omega];exact h1.symm
 have hq2:=(x7 hE).2.1;have hq6:=(x7 hE).2.2;have hwx : KF P M mod m L=lu (aa P M.toNat mod).ops L m L.length/\gh P M mod m L=0:=by
  have h0 : gh P M mod m L=0:=by rw [gh,Mg hE,Mh (by omega)]
  refine ⟨?_,h0⟩;rw [KF,Mg h0,Mm]
 rw [hwx.1,hwx.2] at HWt;rw [hr0] at HDi;rw [hoq] at HOr;obtain ⟨D,hD⟩ : ∃D,lu (aa P M.toNat mod).ops L m L.length=D:=⟨_,rfl⟩
 obtain ⟨d,hd⟩ : ∃d,cw (iw P M mod m L).2.1=d:=⟨_,rfl⟩
 rw [hD,hd,hln] at hOk;rw [hD] at HWt;rw [hd] at HDi;obtain ⟨q,hq⟩ : ∃q,(aa P M.toNat mod).q=q:=⟨_,rfl⟩
 rw [hq] at HOr hq2 hq6 hOk hq3;rw [hln] at hq3;have Hq3:=Z5 hq3;have HOk:=Z5 hOk;have HrL:=Z5 hR;unfold Df at HWt;have hn64 : n<=64:=by have:=wh hE;omega
 clear hr0 hOk hoq hwx hD hd hq hE F hR hf hln hc hq3;go_wp2_with fail;refine (HWt.out w3 (QQ HbW.out hB3)).mono ?_;rintro e w4 ⟨hb4,aD,nD,cD,rfl,hD4⟩;have hnD : nD=n:=by rw [<- hD4.len];exact HOk.out.len
 subst hnD;have hB4:=QQ hB3 hb4;have HD4:=Z5 hD4;clear c0 c1 c2 c3 c4 hD4 HWt;obtain ⟨c0,c1,c2,c3,c4⟩:=HS.out w4 hB4;go_wp2_with fail;refine (HDi.out w4 (QQ HbW.out hB4)).mono ?_;rintro e w5 ⟨rfl,hb5⟩;have hB5:=QQ hB4 hb5;clear c0 c1 c2 c3 c4 HDi hb4;have HDk : Hid (∀V,Rs w5 V->Ints V aD nD D):=λV hV=>HD4.out.ah (QQ hb5 hV);have hplD:=HD4.out.pl;clear HD4 hb5;obtain ⟨c0,c1,c2,c3,c4⟩:=HS.out w5 hB5;have hD0:=(HDk.out w5 (Mi _ _)).cell 0 (by omega);rw [HOk.out.first,Pm] at hD0;have e1 : ((nD : Int) != (nD : Int))=false:=by simp
 have e2 : ((d : Int) != (d : Int))=false:=by simp
 have hpl0 : (0 : Int)<(nD : Int):=by omega
 go_wp2_with fail;have HS5:=Z5 (λV (hV : Rs w5 V)=>HS.out V (QQ hB5 hV));clear c0 c1 c2 c3 c4 hD0;have HM5 : Hid (∀V,Rs w5 V->cU V a nD L):=λV hV=>Hi.out.ah (QQ (QQ HbW.out hB5) hV);go_loopw [8,73] (λsv iv wr=>∃i : Nat,i<=m/\iv = .int .i64 i/\sv = .int .i64 ((eC L i).length : Nat)/\Rs w5 wr) (λ_ iv _=>m - (intOf iv).toNat);case atStart=>exact ⟨0,Mj _,rfl,rfl,Mi _ _⟩
 case round =>
  obtain ⟨i,hi,rfl,rfl,hbr2⟩:=hrel
  generalize wr=V3 at *
  obtain ⟨s0,s1,s2,s3,s4⟩:=HS5.out V3 hbr2
  obtain ⟨sl,hsl⟩ : ∃sl,(eC L i).length=sl:=⟨_,rfl⟩
  have hsl9 : sl<=9:=by have:=vo L i;omega
  by_cases hlt2 : i<m
  ·have Hyes : Hid (uD L i=true->(eC L (i+1)).length=sl+1):=λh=>by rw [eC,Mg h,Mp,Mz,hsl]
   have Hno : Hid (uD L i=false->(eC L (i+1)).length=sl):=λh=>by rw [eC,Mh (by rw [h];decide),hsl]
   rw [hsl]
   clear hsl
   go_wp2_with fail
   go_loopw [8,79] (λsv jv ws=>∃j : Nat,j<=nD/\jv = .int .i64 j/\sv = .int .i64 (sl : Nat)/\Hid (∀t,t<j->nth (ai L t) i=0)/\Rs V3 ws) (λ_ jv _=>nD - (intOf jv).toNat)
   case atStart=>exact ⟨0,Mj _,rfl,rfl,λt ht=>by omega,Mi _ _⟩
   case round =>
    clear s0 s1 s2 s3 s4
    obtain ⟨j,hj,rfl,rfl,hall,hbj⟩:=hrel
    generalize wr=V4 at *
    have hB4:=QQ hbr2 hbj
    obtain ⟨s0,s1,s2,s3,s4⟩:=HS5.out V4 hB4
    have hD4:=HM5.out V4 hB4
    by_cases hltj : j<nD
    ·obtain ⟨rb,rm,rk,hcR,hRw⟩:=hD4.cell j hltj
     have hrm : rm=m:=by rw [<- hRw.len];exact (HrL.out.row (by rw [Hln.out];exact hltj)).1
     rw [hrm] at hcR hRw
     have hplr2:=hRw.pl
     have hce:=hRw.cell i hlt2
     by_cases hz : nth (ai L j) i=0
     ·have hz' : (nth (ai L j) i != 0)=false:=by simpa using hz
      have Hz:=Z5 hz
      clear hz hD4 hRw
      go_wp2_with fail
      go_roundw
      case rel=>exact ⟨j+1,by omega,by go_num,rfl,λt ht=>by
       rcases MU t j with h | h
       ·exact hall.out t h
       ·rw [show t=j by omega];exact Hz.out,hbj⟩
      case measure=>simp [intOf] <;> omega
     ·have hz' : (nth (ai L j) i != 0)=true:=by simpa using hz
      have Hy:=Z5 (Hyes.out (by unfold uD;exact List.any_eq_true.2 ⟨ai L j,dj (by rw [Hln.out];exact hltj),hz'⟩))
      clear hz hD4 hRw
      go_wp2_with fail
      go_roundw
      case rel=>exact ⟨i+1,by omega,by go_num,by rw [Hy.out];go_num,hB4⟩
      case measure=>simp [intOf] <;> omega
    ·obtain rfl : j=nD:=by omega
     have Hn : Hid ((eC L (i+1)).length=sl):=Hno.out (by unfold uD;rw [List.any_eq_false];intro r hr;obtain ⟨t,ht,rfl⟩:=List.mem_iff_getElem.1 hr;have h:=hall.out t (by rw [<- Hln.out];exact ht);rw [aF ht] at h;simpa using h)
     clear hD4
     go_wp2_with fail
     go_roundw
     case rel=>exact ⟨i+1,by omega,by go_num,by rw [Hn.out],hB4⟩
     case measure=>simp [intOf] <;> omega
  ·obtain rfl : m=i:=by omega
   have HOr3:=Z5 (HOr.out V3)
   have HDl : Hid (nth D (nD - 1)=(sl : Int)):=by show _=_;rw [<- hsl];exact HOk.out.last
   rw [hsl]
   clear hsl HOr
   go_wp2_with fail
   refine HOr3.out.mono ?_
   rintro e w6 ⟨rfl,hb6⟩
   have hB6:=QQ hbr2 hb6
   clear s0 s1 s2 s3 s4 HOr3
   go_wp2_with fail
   go_loopw [13,14] (λpv rv wr=>∃(r R pw : Nat),Hid (R=r+1)/\r<=nD/\R<=nD+1/\1<=R/\rv = .int .i64 (R : Nat)/\pv = .int .i64 (pw : Nat)/\Hid (pw=q ^ R)/\Rs w6 wr) (λ_ rv _=>nD+2 - (intOf rv).toNat)
   case atStart=>exact ⟨0,1,q,rfl,Mj _,by omega,by omega,rfl,rfl,by show _=_;simp,Mi _ _⟩
   case round =>
    obtain ⟨r,R,pw,HRr,hr,hR1,hR0,rfl,rfl,Hpw,hbr⟩:=hrel
    generalize wr=X at *
    have hBX:=QQ hB6 hbr
    obtain ⟨s0,s1,s2,s3,s4⟩:=HS5.out X hBX
    have hDX:=HDk.out X hBX
    by_cases hlt : R<=nD
    ·have hrn : r<nD:=by have:=HRr.out;omega
     have d4 : decide ((R : Int)<=(nD : Int))=true:=by simp;omega
     have hx:=hDX.cell r hrn
     have h1:=HOk.out.lo r hrn
     have h2:=HOk.out.hi r hrn
     have h3:=HOk.out.top r hrn
     rw [show (r : Int)+1=R by have:=HRr.out;omega] at h2
     have hpw : pw<=3000:=by rw [Hpw.out];have h4:=Ns (show 0<q by omega) hlt;have h5 : ((q ^ nD : Nat) : Int)<=3000:=Hq3.out;omega
     have hpq : (pw : Int) * (q : Int)<=3000 * 256:=Nh (by omega) (by omega) (by omega) (by omega)
     have hpq0 : 0<=(pw : Int) * (q : Int):=NB (by omega) (by omega)
     have Hs : Hid (pw * q=q ^ (R+1)):=by show _=_;rw [NJ,<- Hpw.out]
     have HR : Hid (∀t,r=t+1->nth D t<nth D r/\((pw : Int) - 1) * nth D t<=((pw : Int) - q) * nth D r/\1<=nth D t/\q<=pw):=λt ht=>by
      subst ht;have h4:=HOk.out.rat t hrn;have h5 : ((q : Int) ^ (t+2))=(pw : Int):=by rw [Hpw.out,HRr.out];simp
      rw [h5] at h4;refine ⟨HOk.out.asc t hrn,h4,HOk.out.lo t (by omega),?_⟩;rw [Hpw.out,HRr.out,NJ];exact OU _ (Qe (by omega))
     have HDc:=Z5 (λt (ht : t<nD)=>hDX.cell t ht)
     obtain ⟨x,hxe⟩ : ∃x,nth D r=x:=⟨_,rfl⟩
     rw [hxe] at hx h1 h2 h3 HR
     clear hxe hDX
     have d5 : decide (x<1)=false:=by simp;omega
     have d6 : decide ((m : Int) - (nD : Int)+(R : Int)<x)=false:=by simp;omega
     have k1 : IntKind.i64.wrap ((R : Int) - 1)=r:=by rw [Mq _ (by have:=HRr.out;omega)];have:=HRr.out;omega
     have k2 : IntKind.i64.wrap ((m : Int) - (nD : Int))=(m : Int) - nD:=Mq _ (by omega)
     have k3 : IntKind.i64.wrap ((m : Int) - (nD : Int)+(R : Int))=(m : Int) - nD+(R : Int):=Mq _ (by omega)
     have k4 : IntKind.i64.wrap ((pw : Int) * (q : Int))=(pw : Int) * (q : Int):=Mq _ (by omega)
     have hri : (r : Int)<(nD : Int):=by omega
     clear hpq hpq0
     rcases Na r with hr0 | hr1
     ·have d7 : decide (1<(R : Int))=false:=by have:=HRr.out;simp;omega
      clear hr0
      go_wp2_with fail
      go_quiet (fail)
      go_wp2_with fail
      go_quiet (fail)
      go_wp2_with fail
      go_roundw
      case rel=>exact ⟨r+1,R+1,pw * q,by show _=_;have:=HRr.out;omega,by omega,by omega,by omega,by go_num,by go_num,Hs,QQ hbr (Q1 ⟨_,rfl⟩)⟩
      case measure=>simp [intOf] <;> omega
     ·obtain ⟨t,ht⟩ : ∃t,r=t+1:=⟨r - 1,by omega⟩
      obtain ⟨r1,r2,r3,r4⟩:=HR.out t ht
      have htn : t<nD:=by omega
      have hti : (t : Int)<(nD : Int):=by omega
      have hy:=HDc.out t htn
      obtain ⟨y,hye⟩ : ∃y,nth D t=y:=⟨_,rfl⟩
      rw [hye] at hy r1 r2 r3
      have d7 : decide (1<(R : Int))=true:=by have:=HRr.out;simp;omega
      have d8 : decide (x<=y)=false:=by simp;omega
      have k5 : IntKind.i64.wrap ((R : Int) - 2)=t:=by rw [Mq _ (by have:=HRr.out;omega)];have:=HRr.out;omega
      have k6 : IntKind.i64.wrap ((pw : Int) - 1)=(pw : Int) - 1:=Mq _ (by omega)
      have k7 : IntKind.i64.wrap ((pw : Int) - (q : Int))=(pw : Int) - q:=Mq _ (by omega)
      have b1 : ((pw : Int) - 1) * y<=3000 * 9:=Nh (by omega) (by omega) (by omega) (by omega)
      have b2 : 0<=((pw : Int) - 1) * y:=NB (by omega) (by omega)
      have b3 : ((pw : Int) - q) * x<=3000 * 9:=Nh (by omega) (by omega) (by omega) (by omega)
      have b4 : 0<=((pw : Int) - q) * x:=NB (by omega) (by omega)
      have k8 : IntKind.i64.wrap (((pw : Int) - 1) * y)=((pw : Int) - 1) * y:=Mq _ (by omega)
      have k9 : IntKind.i64.wrap (((pw : Int) - q) * x)=((pw : Int) - q) * x:=Mq _ (by omega)
      have d9 : decide (((pw : Int) - q) * x<((pw : Int) - 1) * y)=false:=by simp;omega
      clear hye ht b1 b2 b3 b4 r2
      go_wp2_with fail
      go_quiet (fail)
      go_wp2_with fail
      go_quiet (fail)
      go_wp2_with fail
      go_roundw
      case rel=>exact ⟨r+1,R+1,pw * q,by show _=_;have:=HRr.out;omega,by omega,by omega,by omega,by go_num,by go_num,Hs,QQ hbr (Q1 ⟨_,rfl⟩)⟩
      case measure=>simp [intOf] <;> omega
    ·have hct:=hDX.cell (nD - 1) (by omega)
     obtain ⟨t,ht⟩ : ∃t,nD - 1=t:=⟨_,rfl⟩
     rw [HDl.out,ht] at hct
     have hF:=QQ HbW.out (QQ hB5 hBX)
     have d4 : decide ((R : Int)<=(nD : Int))=false:=by simp;omega
     have k1 : IntKind.i64.wrap ((nD : Int) - 1)=t:=by rw [Mq _ (by omega)];omega
     have e3 : ((sl : Int) == (sl : Int))=true:=by simp
     have hti : (t : Int)<(nD : Int):=by omega
     clear ht hDX
     go_wp2_with fail
     go_ret
     exact ⟨rfl,hF⟩
end Go.Proofs.YtcfmiocdlcapoaaGreat
