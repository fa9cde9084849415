import Derived.Test.YthglbncgemdcbaaGreatS20
import Derived.Test.YthglbncgemdcbaaGreatS22
namespace Go.Proofs.YthglbncgemdcbaaGreat
set_option linter.all false
set_option maxRecDepth 100000
set_option maxHeartbeats 8000000
open Go.RowKit Go.Proofs.Tryz
theorem IN {w : World} {B : Nat} {e : TypeId} {a : OA} {n c k : Nat} {xs : List Value} (h : w.ownsRow B e 1 (.slice a n c) n xs) (hk : k<=n) : w.ownsRow B e 1 (.slice a k c) k (xs.take k):=by
 have hl:=kS h;refine ⟨by rw [NG];omega,?_⟩;rcases h.2 with ⟨hv,h0⟩ | ⟨g,cap,cur,hv,hg,hh,hle,hm,hs,ht⟩
 ·cases hv
  obtain rfl : k=0:=by omega
  exact .inl ⟨rfl,rfl⟩
 ·cases hv
  refine .inr ⟨g,c,cur,rfl,hg,hh,by omega,hm,hs,?_⟩;rw [<- ht,List.take_take];congr 1;omega
theorem aT.take {B : Nat} {w : World} {a : OA} {n c k : Nat} {R : Z4} {L : ZZ} (h : aT w B a n c R L) (hk : k<=n) : aT w B a k c (R.take k) (L.take k):=by
 have hr:=h.rl;have hl:=h.ll;have eR : ∀ {i},i<k->aV (R.take k) i=aV R i:=λ{i} hi=>by rw [i5 (show i<(R.take k).length by rw [NG];omega),i5 (by omega),QG]
 have eL : ∀ {i},i<k->ai (L.take k) i=ai L i:=λ{i} hi=>by rw [aC (show i<(L.take k).length by rw [NG];omega),aC (by omega),QG]
 refine ⟨by rw [NG];omega,by rw [NG];omega,?_,λi hi=>?_,λi hi=>?_,λi j hi hj=>?_⟩
 ·rw [<- QC];exact IN h.own hk
 ·rw [eR hi,eL hi];exact h.row i (by omega)
 ·rw [eR hi];exact h.sL i (by omega)
 ·rw [eR hi,eR hj];exact h.sep i j (by omega) (by omega)
def pH (G : dn) (L : ZZ) (m : Nat) (w : World) (e : Ending) (w' : World) : Prop :=
 ∃a c R ap cp,e = .returned (.tuple #[.slice a (bw G L m).length c,.slice ap (bw G L m).length cp])/\aT w' w.heap.size a (bw G L m).length c R (dc G L m)/\cR w.heap.size w' ap (bw G L m).length (bw G L m)/\SW w w'
def Bu (O : aL) (L : ZZ) (m : Nat) (w : World) (e : Ending) (w' : World) : Prop :=
 ∃a c R ap cp,e = .returned (.tuple #[.slice a (aD O L m).2.length c,.slice ap (aD O L m).2.length cp])/\aT w' w.heap.size a (aD O L m).2.length c R ((aD O L m).1.take (aD O L m).2.length)/\cR w.heap.size w' ap (aD O L m).2.length (aD O L m).2/\SW w w'
theorem um (P M : Int) (am : OA) (mn cm : Nat) (mod : Lz) (a : OA) (n c cols : Nat) (L : ZZ) (w : World) (hmod : Ints w am mn mod) (hi : br w a n L)
  (hB : bA P M mod=true) (hR : bp (af P M.toNat mod).El cols L) (hlen : cols<=1000000) (hn : n<=1000000) :
  Calls prog 124 #[.agg #[.int .i64 P,.int .i64 M,.slice am mn cm],.slice a n c,.int .i64 cols] w (pH (af P M.toNat mod) L cols w):=by
 have hinv:=iQ (P:=P) (M:=M) (mod:=mod) (by rw [bP];exact hB);obtain ⟨k,rfl,hel,_,hF,hA,_⟩:=dB hB;obtain ⟨k',e2,hrf,hmods⟩:=dm (by rw [bP];exact hB);obtain rfl : k=k':=by omega
 rw [Nb] at hR hinv ⊢;rw [<- hel] at hR;have hE:=(iN hA hF.cl hR cols (Na _)).1;have Hlen:=Z5 hi.len;have Hc : Hid (∀V,SW w V->Calls prog 179 #[.agg #[.int .i64 P,.int .i64 k,.slice am mn cm],.slice a n c,.int .i64 cols] V (nc (af P k mod).ops L cols V)):=λV hV=>by have h:=qt P k am mn cm mod a n c cols cols L V ⟨hrf,hmods V am mn (hmod.ah hV)⟩ (hi.ah hV) hR (Na _) hlen hn hinv;unfold nc at h ⊢;rw [hE];exact h
 show Calls prog 124 _ w (Bu (af P k mod).ops L cols w);obtain ⟨O,hO⟩ : ∃O,(af P k mod).ops=O:=⟨_,rfl⟩
 rw [hO] at Hc ⊢;clear hO hinv hR hel hF hA e2 hrf hmods hE hB;go_enter func124,ntmps124;go_wp2_with fail;obtain ⟨W,hW⟩ : ∃W : World,W=w.alloc (.cells #[.int .i64 P,.int .i64 k,.slice am mn cm] 24):=⟨_,rfl⟩
 rw [<- hW];have hbW : SW w W:=by rw [hW];exact an _ _
 clear hW;refine (Hc.out W hbW).mono ?_;rintro e w1 ⟨a1,c1,R1,ap,cp,rfl,hO1,hp1,hb1⟩;have hpl:=fh O L cols;have hcap:=ox hO1.own;have hpv:=(SP hp1).mono hbW.size;have hmt:=(hO1.take (k:=(aD O L cols).2.length) hpl.2).mono hbW.size;have HF : Hid (Bu O L cols w (.returned (.tuple #[.slice a1 (aD O L cols).2.length c1,.slice ap (aD O L cols).2.length cp])) w1):=⟨a1,c1,_,ap,cp,rfl,hmt,hpv,RZ hbW hb1⟩
 have hle : (aD O L cols).2.length<=c1:=Nr hpl.2 hcap;clear hpv hmt hp1 hcap hpl;generalize (aD O L cols).2.length=k at *;go_wp2_with fail;go_ret2;simpa using HF.out
def ldTo (P : Lz) (m : Nat) : Nat->Lz
 | 0=>(List.range m).map λ_=>-1
 | i+1=>(ldTo P m i).set (nth P i).toNat i
def tN (m k : Nat) : Lz:=(List.range m).map λi=>if i<k then -1 else 0
theorem CW (P : Lz) (m : Nat) : ∀i,(ldTo P m i).length=m
 | 0=>by simp [ldTo]
 | i+1=>by rw [ldTo,N9];exact CW P m i
theorem JO {P : Lz} {m : Nat} (hP : ∀j,j<P.length->0<=nth P j/\nth P j<m) {c : Nat} (hc : c<m) : ∀i,i<=P.length->(0<=nth (ldTo P m i) c ↔ ∃j,j<i/\nth P j=c)
 | 0,_=>by
  rw [ldTo,eO _ _ _ hc];constructor
  ·intro h;omega
  ·rintro ⟨j,hj,_⟩;omega
 | i+1,hi=>by
  have ih:=JO hP hc i (by omega);have hb:=hP i (by omega);rw [ldTo,eh _ _ _ _ (by rw [CW];omega)];by_cases e : c=(nth P i).toNat
  ·rw [Nd e];exact ⟨λ_=>⟨i,by omega,by omega⟩,λ_=>by omega⟩
  ·rw [Nf e,ih];constructor
   ·rintro ⟨j,h1,h2⟩;exact ⟨j,by omega,h2⟩
   ·rintro ⟨j,h1,h2⟩;by_cases e2 : j=i
    ·subst e2;omega
    ·exact ⟨j,by omega,h2⟩
theorem Mi {P : Lz} {m : Nat} (hP : ∀j,j<P.length->0<=nth P j/\nth P j<m) {c : Nat} (hc : c<m) : (0<=nth (ldTo P m P.length) c ↔ (c : Int) ∈ P):=by
 rw [JO hP hc _ (Na _)];constructor
 ·rintro ⟨j,h1,h2⟩;rw [<- h2];exact aH h1
 ·intro h;obtain ⟨j,hj,e⟩:=List.mem_iff_getElem.1 h;exact ⟨j,hj,by rw [aj hj];exact e⟩
theorem Me {m k : Nat} (hk : k<m) : (tN m k).set k (-1)=tN m (k+1):=by
 refine Ov (by simp [tN]) λi h1 h2=>?_;simp only [tN,RE,NZ,O0];by_cases e : k=i
 ·subst e;rw [Nd rfl,Nd (by omega)]
 ·rw [Nf e];by_cases h : i<k
  ·rw [Nd h,Nd (by omega)]
  ·rw [Nf h,Nf (by omega)]
def iZ (G : dn) (L : ZZ) (m : Nat) (w : World) (e : Ending) (w' : World) : Prop :=
 ∃a c R,e = .returned (.slice a (aS G L m).length c)/\aT w' w.heap.size a (aS G L m).length c R (aS G L m)/\SW w w'
theorem mQ (P M : Int) (am : OA) (mn cm : Nat) (mod : Lz) (m : Nat) (a : OA) (n c : Nat) (L : ZZ) (w : World) (hmod : Ints w am mn mod) (hi : br w a n L)
  (hB : bA P M mod=true) (hR : bp (af P M.toNat mod).El m L) (hm : m<=1000) (hn : n<=1000000) :
  Calls prog 157 #[.agg #[.int .i64 P,.int .i64 M,.slice am mn cm],.slice a n c,.int .i64 m] w (iZ (af P M.toNat mod) L m w):=by
 have F:=dM hB;have hmo:=hmod;have HC1 : Hid (∀V,SW w V->Calls prog 124 #[.agg #[.int .i64 P,.int .i64 M,.slice am mn cm],.slice a n c,.int .i64 m] V (pH (af P M.toNat mod) L m V)):=λV hV =>
  um P M am mn cm mod a n c m L V (hmod.ah hV) (hi.ah hV) hB hR (by omega) hn
 have HC2 : Hid (∀V a1 n1 c1 L1,SW w V->br V a1 n1 L1->bp (af P M.toNat mod).El m L1->n1<=1000000->Calls prog 124 #[.agg #[.int .i64 P,.int .i64 M,.slice am mn cm],.slice a1 n1 c1,.int .i64 m] V (pH (af P M.toNat mod) L1 m V)):=λV a1 n1 c1 L1 hV h1 h2 h3 =>
  um P M am mn cm mod a1 n1 c1 m L1 V (hmod.ah hV) h1 hB h2 (by omega) h3
 obtain ⟨k0,rfl,hel,_,_,hA,_⟩:=dB hB;obtain ⟨k',e2,hrf,_⟩:=dm (by rw [bP];exact hB);obtain rfl : k0=k':=by omega
 rw [Nb] at hR F HC1 HC2 ⊢;have HNg : Hid (∀(V : World) (x : Int),(af P k0 mod).El x->Calls prog 107 #[.agg #[.int .i64 P,.int .i64 k0,.slice am mn cm],.int .i64 x] V λe w'=>e = .returned (.int .i64 ((af P k0 mod).ops.neg x))/\SW V w'):=λV x hx =>
  qf P k0 am mn cm x V hrf (hrf.jR (by rw [hel];exact hx))
 obtain ⟨hPv,hLd⟩:=bG F hR;have hRc : bp (af P k0 mod).El m (dc (af P k0 mod) L m):=bL F hR;have hcl : (dc (af P k0 mod) L m).length=(bw (af P k0 mod) L m).length:=eo _ L m;have HPv : Hid (mg (dc (af P k0 mod) L m) (bw (af P k0 mod) L m) m):=hPv;have hrws : ∀k,k<=m->bp (af P k0 mod).El m (cZ (af P k0 mod).ops m (dc (af P k0 mod) L m) (bw (af P k0 mod) L m) k):=by
  intro k;induction k with
  | zero=>intro _ r hr;simp [cZ] at hr
  | succ k ih =>
   intro hk r hr
   rw [cZ] at hr
   split at hr
   ·exact ih (by omega) r hr
   ·rw [Ol,N6] at hr
    rcases hr with hr | rfl
    ·exact ih (by omega) r hr
    ·exact mX F hRc hPv hcl (by omega) _ (Na _)
 have Hrws:=Z5 hrws;have Hdl : Hid (aS (af P k0 mod) L m=dc (af P k0 mod) (cZ (af P k0 mod).ops m (dc (af P k0 mod) L m) (bw (af P k0 mod) L m) m) m):=rfl;have Hcp : Hid (∀c,c<m->∀i,i<(bw (af P k0 mod) L m).length->(af P k0 mod).El (nth (ai (dc (af P k0 mod) L m) i) c)):=λc hc i hi=>Sc (hRc.row (by rw [hcl];exact hi)) hc;have Hrl : Hid (∀i,i<(bw (af P k0 mod) L m).length->(ai (dc (af P k0 mod) L m) i).length=m):=λi hi=>(hRc.row (by rw [hcl];exact hi)).1;have Hkp : Hid (∀c i,kerTo (af P k0 mod).ops m (dc (af P k0 mod) L m) (bw (af P k0 mod) L m) c (i+1)=(kerTo (af P k0 mod).ops m (dc (af P k0 mod) L m) (bw (af P k0 mod) L m) c i).set (nth (bw (af P k0 mod) L m) i).toNat ((af P k0 mod).ops.neg (nth (ai (dc (af P k0 mod) L m) i) c))):=λc i=>rfl;have Hk0 : Hid (∀c,kerTo (af P k0 mod).ops m (dc (af P k0 mod) L m) (bw (af P k0 mod) L m) c 0=(List.replicate m 0).set c 1):=λc=>rfl;have Hplt : Hid (∀j,j<(bw (af P k0 mod) L m).length->0<=nth (bw (af P k0 mod) L m) j/\nth (bw (af P k0 mod) L m) j<m):=HPv.out.lt;have Hld : Hid (∀c,c<m->(0<=nth (ldTo (bw (af P k0 mod) L m) m (bw (af P k0 mod) L m).length) c ↔ (c : Int) ∈ bw (af P k0 mod) L m)):=λc hc=>Mi HPv.out.lt hc;unfold pH at HC1;unfold iZ;obtain ⟨G,hGG⟩ : ∃G,af P k0 mod=G:=⟨_,rfl⟩
 rw [hGG] at HC1 HC2 HNg Hrws Hdl Hcp Hrl Hkp Hk0 Hplt Hld hcl ⊢;obtain ⟨D,hD⟩ : ∃D,aS G L m=D:=⟨_,rfl⟩
 rw [hD] at Hdl ⊢;obtain ⟨R,hRR⟩ : ∃R,dc G L m=R:=⟨_,rfl⟩
 obtain ⟨Pv,hPP⟩ : ∃Pv,bw G L m=Pv:=⟨_,rfl⟩
 rw [hRR,hPP] at HC1 Hrws Hdl Hcp Hkp Hk0 Hrl;rw [hPP] at Hplt Hld hcl;rw [hRR] at hcl;obtain ⟨t,ht⟩ : ∃t,Pv.length=t:=⟨_,rfl⟩
 have Ht:=Z5 ht;rw [ht] at HC1 Hcp Hrl Hplt Hld hcl;clear hB hel hA e2 hrf hPv hLd hRc HPv hrws hR F hGG hD hRR hPP hmod ht;go_enter func157,ntmps157;go_wp2_with fail;obtain ⟨W,hW⟩ : ∃W : World,W=w.alloc (.cells #[.int .i64 P,.int .i64 k0,.slice am mn cm] 24):=⟨_,rfl⟩
 rw [<- hW];have hbW : SW w W:=by rw [hW];exact an _ _
 have x0 : aN W w.heap.size [.int .i64 P,.int .i64 k0,.slice am mn cm]:=by rw [hW];exact R9 _ _ _ rfl
 have HX:=Z5 x0;have HbW:=Z5 hbW;clear hW x0;refine (HC1.out W hbW).mono ?_;rintro e U ⟨a2,c2,R2,ap,cp,rfl,hO2,hp2,hbU⟩;have hMM:=hO2.jt;have hII:=hp2.ints;have hplP:=hII.pl;have hplR:=hMM.pl;have hmaxP:=hII.max;have hmaxR:=hMM.max;unfold maxLen at hmaxP hmaxR;have hbwU:=RZ hbW hbU;clear hO2 hp2 HC1 hbW;go_wp2_with (at_make;refine bS rfl _ _ 22 3 rfl (.int .i64 0) 8 underlying22 aU rfl m rfl rfl (by omega) (by unfold maxLen;omega) ?_;intro a4 w4 hown4 hb4 hge4 hlt4);have hown4' : w4.ownsRow U.heap.size 3 1 (.slice a4 m m) m ((tN m 0).map (Value.int .i64)):=by
  have e : tN m 0=List.replicate m 0:=by refine Ov (by simp [tN]) λi h1 h2=>?_;simp [tN]
  rw [e];simpa using hown4
 clear hown4;go_loopw [10] (λiv wr=>∃k : Nat,k<=m/\iv = .int .i64 k/\wr.ownsRow U.heap.size 3 1 (.slice a4 m m) m ((tN m k).map (Value.int .i64))/\SW U wr) (λiv _=>m - (intOf iv).toNat);case atStart=>exact ⟨0,Ni _,rfl,hown4',hb4⟩
 case round =>
  clear hown4' hb4 hge4 hlt4
  obtain ⟨k,hk,rfl,hown,hbr⟩:=hrel
  by_cases hlt : k<m
  ·obtain ⟨hi4,hm4⟩:=R6 hown
   have hpl4:=hi4.pl
   have c4:=hi4.cell k hlt
   have f4:=(hm4 (by omega)).2 k hlt
   have hB4:=(hm4 (by omega)).1
   have Hown:=Z5 hown
   clear hown hi4 hm4
   go_wp2_with fail
   go_roundw
   case rel =>
    have h1:=bK Hown.out k hlt (.int .i64 (-1))
    rw [<- NF,Me hlt] at h1
    exact ⟨k+1,by omega,by go_num,h1,hbr.setCell hB4 _⟩
   case measure=>simp [intOf] <;> omega
  ·obtain rfl : k=m:=by omega
   have hown0 : wr.ownsRow U.heap.size 3 1 (.slice a4 k k) k ((ldTo Pv k 0).map (Value.int .i64)):=by
    have e : tN k k=ldTo Pv k 0:=by refine Ov (by simp [tN,ldTo]) λi h1 h2=>?_;simp only [tN,ldTo,NZ,O0];rw [Nd (by simpa [tN] using h1)]
    rw [<- e];exact hown
   clear hown
   go_wp2_with fail
   go_loopw [11] (λiv wr=>∃i : Nat,i<=t/\iv = .int .i64 i/\wr.ownsRow U.heap.size 3 1 (.slice a4 k k) k ((ldTo Pv k i).map (Value.int .i64))/\SW U wr) (λiv _=>t - (intOf iv).toNat)
   case atStart=>exact ⟨0,Ni _,rfl,hown0,hbr⟩
   case round =>
    clear hown0 hbr
    obtain ⟨i,hi',rfl,hown,hbr⟩:=hrel
    by_cases hlt : i<t
    ·have cpi:=(hII.ah hbr).cell i hlt
     have hpb:=Hplt.out i hlt
     obtain ⟨z,hz⟩ : ∃z : Nat,nth Pv i=z:=⟨(nth Pv i).toNat,by omega⟩
     have hzm : z<k:=by omega
     have Hst : Hid (ldTo Pv k (i+1)=(ldTo Pv k i).set z i):=by show _=_;rw [ldTo,hz,Nb]
     rw [hz] at cpi
     obtain ⟨hi4,hm4⟩:=R6 hown
     have hpl4:=hi4.pl
     have c4:=hi4.cell z hzm
     have f4:=(hm4 (by omega)).2 z hzm
     have hB4:=(hm4 (by omega)).1
     have Hown:=Z5 hown
     clear hown hi4 hm4 hz hpb
     go_wp2_with fail
     go_roundw
     case rel =>
      have h1:=bK Hown.out z hzm (.int .i64 i)
      rw [<- NF,<- Hst.out] at h1
      exact ⟨i+1,by omega,by go_num,h1,hbr.setCell hB4 _⟩
     case measure=>simp [intOf] <;> omega
    ·obtain rfl : i=t:=by omega
     obtain ⟨LD,hLD⟩ : ∃LD,ldTo Pv k i=LD:=⟨_,rfl⟩
     rw [hLD] at hown Hld
     clear hLD
     obtain ⟨hi4,_⟩:=R6 hown
     have hpl4:=hi4.pl
     have hU:=hMM.ah hbr
     have hIU:=hII.ah hbr
     have hbwr:=RZ hbwU hbr
     have HY : Hid (∀V,SW wr V->V.cell? ⟨w.heap.size,0,none⟩=some (.int .i64 P)/\V.cell? ⟨w.heap.size,1,none⟩=some (.int .i64 k0)/\V.cell? ⟨w.heap.size,2,none⟩=some (.slice am mn cm)):=λV hV=>by have x1:=HX.out.ah (RZ (RZ hbU hbr) hV);exact ⟨x1.cell 0 rfl,x1.cell 1 rfl,x1.cell 2 rfl⟩
     have hsW:=hbwr.size
     have Hbwr:=Z5 hbwr
     generalize wr=X at *
     clear hown hMM hII hbr hbU hbwU hbwr
     go_wp2_with fail
     go_loopw [12,13] (λov iv wr=>∃(j : Nat) (a1 : OA) (c1 : Nat),j<=k/\iv = .int .i64 j/\ov = .slice a1 (dK Pv j).length c1/\(∃Rr,aT wr X.heap.size a1 (dK Pv j).length c1 Rr (cZ G.ops k R Pv j))/\SW X wr) (λ_ iv _=>k - (intOf iv).toNat)
     case atStart=>exact ⟨0,none,0,Ni _,rfl,rfl,⟨[],aT.B4 X X.heap.size⟩,Nc _ _⟩
     case round =>
      obtain ⟨j,a1,c1,hj,rfl,rfl,⟨Rr,hO⟩,hbr⟩:=hrel
      have hnk:=wY Pv j
      by_cases hlt2 : j<k
      ·have cld:=(hi4.ah hbr).cell j hlt2
       have hiff:=Hld.out j hlt2
       obtain ⟨v,hv⟩ : ∃v,nth LD j=v:=⟨_,rfl⟩
       rw [hv] at cld hiff
       clear hv
       by_cases hmem : (j : Int) ∈ Pv
       ·have hN : Hid (dK Pv (j+1)=dK Pv j):=by show _=_;rw [dK,Nd hmem]
        have hKk : Hid (cZ G.ops k R Pv (j+1)=cZ G.ops k R Pv j):=by show _=_;rw [cZ,Nd hmem]
        have hv0 : decide (0<=v)=true:=by simpa using hiff.2 hmem
        clear hmem hiff
        go_wp2_with fail
        go_roundw
        case rel=>exact ⟨j+1,a1,c1,by omega,by go_num,by rw [hN.out],⟨Rr,by rw [hN.out,hKk.out];exact hO⟩,hbr⟩
        case measure=>simp [intOf] <;> omega
       ·have hN : Hid (dK Pv (j+1)=dK Pv j ++ [j]):=by show _=_;rw [dK,Nf hmem]
        have hKk : Hid (cZ G.ops k R Pv (j+1)=cZ G.ops k R Pv j ++ [kerTo G.ops k R Pv j i]):=by show _=_;rw [cZ,Nf hmem,Ht.out]
        have hv0 : decide (0<=v)=false:=by simpa using λh=>hmem (hiff.1 h)
        clear hmem hiff
        generalize wr=Y at *
        go_wp2_with (at_make;refine bS rfl _ _ 22 3 rfl (.int .i64 0) 8 underlying22 aU rfl k rfl rfl (by omega) (by unfold maxLen;omega) ?_;intro a5 w5 hown5 hbel5 hge5 hlt5;obtain ⟨hi5,hm5⟩:=R6 (l:=List.replicate k 0) (by simpa using hown5);have hc5:=hi5.cell j hlt2;have hf5:=(hm5 (by omega)).2 j hlt2;have hpl5:=hi5.pl)
        have hB5:=(hm5 (by omega)).1
        have hx0:=bK hown5 j hlt2 (.int .i64 1)
        have hx0' : (w5.setCell ⟨ablk a5,aK a5+j,none⟩ (.int .i64 1)).ownsRow Y.heap.size 3 1 (.slice a5 k k) k ((kerTo G.ops k R Pv j 0).map (Value.int .i64)):=by rw [Hk0.out,NF,OF];exact hx0
        have hbx0:=hbel5.setCell (p:=⟨ablk a5,aK a5+j,none⟩) hB5 (.int .i64 1)
        clear hx0 hown5 hbel5 hge5 hlt5 hi5 hm5 hc5 hf5
        go_loopw [15] (λiv wx=>∃q : Nat,q<=i/\iv = .int .i64 q/\wx.ownsRow Y.heap.size 3 1 (.slice a5 k k) k ((kerTo G.ops k R Pv j q).map (Value.int .i64))/\SW Y wx) (λiv _=>i - (intOf iv).toNat)
        case atStart=>exact ⟨0,Ni _,rfl,hx0',hbx0⟩
        case round =>
         clear hx0' hbx0
         obtain ⟨q,hq',rfl,hown,hbx⟩:=hrel
         by_cases hlq : q<i
         ·have hpb:=Hplt.out q hlq
          obtain ⟨z,hz⟩ : ∃z : Nat,nth Pv q=z:=⟨(nth Pv q).toNat,by omega⟩
          have hzm : z<k:=by omega
          obtain ⟨ra,rn,rc,hcell,hrow⟩:=(hU.ah hbr).cell q hlq
          have hrn : rn=k:=by rw [<- hrow.len];exact Hrl.out q hlq
          subst hrn
          have hpr:=hrow.pl
          have hel:=Hcp.out j hlt2 q hlq
          have Hst : Hid (kerTo G.ops rn R Pv j (q+1)=(kerTo G.ops rn R Pv j q).set z (G.ops.neg (nth (ai R q) j))):=by show _=_;rw [Hkp.out,hz,Nb]
          obtain ⟨x9,hx9⟩ : ∃x,nth (ai R q) j=x:=⟨_,rfl⟩
          rw [hx9] at hel Hst
          have Hng : Hid (∀V,Calls prog 107 #[.agg #[.int .i64 P,.int .i64 k0,.slice am mn cm],.int .i64 x9] V λe w'=>e = .returned (.int .i64 (G.ops.neg x9))/\SW V w'):=λV=>HNg.out V x9 hel
          have HS : Hid (∀V,SW Y V->V.cell? ⟨w.heap.size,0,none⟩=some (.int .i64 P)/\V.cell? ⟨w.heap.size,1,none⟩=some (.int .i64 k0)/\V.cell? ⟨w.heap.size,2,none⟩=some (.slice am mn cm)/\V.cell? ⟨ablk ap,aK ap+q,none⟩=some (.int .i64 z)/\V.cell? ⟨ablk a2,aK a2+q,none⟩=some (.slice ra rn rc)/\V.cell? ⟨ablk ra,aK ra+j,none⟩=some (.int .i64 x9)):=λV hV=>by
           obtain ⟨y1,y2,y3⟩:=HY.out V (RZ hbr hV);refine ⟨y1,y2,y3,?_,?_,?_⟩
           ·have h:=(hIU.ah (RZ hbr hV)).cell q hlq;rwa [hz] at h
           ·exact aB hV hcell
           ·have h:=(hrow.ah hV).cell j hlt2;rwa [hx9] at h
          obtain ⟨hi6,hm6⟩:=R6 hown
          have hpl6:=hi6.pl
          have HB6:=Z5 (hm6 (by omega)).1
          have HK : Hid (∀V,SW wr V->(∃u,V.cell? ⟨ablk a5,aK a5+z,none⟩=some u)/\V.frozen? ⟨ablk a5,aK a5+z,none⟩=false/\V.ownsRow Y.heap.size 3 1 (.slice a5 rn rn) rn ((kerTo G.ops rn R Pv j q).map (Value.int .i64))):=λV hV=>by have o:=bd hown hV;obtain ⟨h1,h2⟩:=R6 o;exact ⟨⟨_,h1.cell z hzm⟩,(h2 (by omega)).2 z hzm,o⟩
          have Hbx:=Z5 hbx
          clear hz hpb hx9 hel hown hi6 hm6 hrow hcell hbx
          go_wp2_with fail
          go_region_held3 (λV=>V.cell? ⟨w.heap.size,0,none⟩=some (.int .i64 P)/\V.cell? ⟨w.heap.size,1,none⟩=some (.int .i64 k0)/\V.cell? ⟨w.heap.size,2,none⟩=some (.slice am mn cm)/\V.cell? ⟨ablk ap,aK ap+q,none⟩=some (.int .i64 z)/\V.cell? ⟨ablk a2,aK a2+q,none⟩=some (.slice ra rn rc)/\V.cell? ⟨ablk ra,aK ra+j,none⟩=some (.int .i64 x9))
           ((refine HS.out _ ?_;first | exact Hbx.out.drew | exact RZ Hbx.out hb7 | exact (RZ Hbx.out hb7).setCell HB6.out _))
           (first
            | (go_at_call 107;((with_reducible refine (Hng.out _).mono ?_);rintro e w6 ⟨rfl,hb6⟩;have hb7 : SW wr w6:=RZ (Nc _ _).drew hb6;obtain ⟨⟨v9,k9⟩,f9,o9⟩:=HK.out w6 hb7)))
          clear k9 f9
          go_wp2_with fail
          go_roundw
          case rel =>
           have h:=bK o9 z hzm (.int .i64 (G.ops.neg x9))
           rw [<- NF,<- Hst.out] at h
           exact ⟨q+1,by omega,by go_num,h,(RZ Hbx.out hb7).setCell HB6.out _⟩
          case measure=>simp [intOf] <;> omega
         ·obtain rfl : q=i:=by omega
          obtain ⟨Z,hZ⟩ : ∃Z,kerTo G.ops k R Pv j q=Z:=⟨_,rfl⟩
          have hZl : Z.length=k:=by rw [<- hZ];exact jy _ _ _ _ _ _
          rw [hZ] at hown hKk
          have HZl:=Z5 hZl
          have hO3:=hO.ah (RZ hbx (an wr (.cells #[.slice a5 k k] 22)))
          have hsz:=hbr.size
          have hsx:=hbx.size
          have hs3 : X.heap.size<=(wr.alloc (.cells #[.slice a5 k k] 22)).heap.size:=by simp;omega
          have hcn:=ba wr (.slice a5 k k) 22
          clear hZ hZl
          go_wp2_with (at_builtin;refine aO rfl _ _ 25 22 rfl (.slice none 0 0) 24 underlying25 df rfl X.heap.size a1 (dK Pv j).length c1 _ rfl hO3.own ⟨wr.heap.size,0,none⟩ 1 (.slice a5 k k) rfl hcn rfl (by omega) (by unfold maxLen;omega) hs3 ?_;intro a7 c7 w7 hown7 hgr7 hap7)
          go_roundw
          case rel =>
           have hb4' : SW Y (wr.alloc (.cells #[.slice a5 k k] 22)):=RZ hbx (an _ _)
           have hown4 : (wr.alloc (.cells #[.slice a5 k k] 22)).ownsRow X.heap.size 3 1 (.slice a5 Z.length k) Z.length (Z.map (Value.int .i64)):=by rw [HZl.out];exact aX (bd hown (an _ _)) hsz
           have hra : a5 ≠ none->¬ cU a1 Rr (ablk a5):=λh0 hI=>by have h1:=(aY hown h0).1;have h2:=(hO.lt _ hI).2;omega
           have hP:=Sk hO3 hown4 hra (by rw [HZl.out];exact hown7) hgr7 hap7
           have hb5 : SW X w7:=Sa (RZ hbr hb4') hO3.own hgr7 (Na _) (Nr hsz hb4'.size)
           exact ⟨j+1,a7,c7,by omega,by go_num,by rw [hN.out];simp,⟨_,by rw [hN.out,hKk.out,Nl];exact hP⟩,hb5⟩
          case measure=>simp [intOf] <;> omega
      ·obtain rfl : j=k:=by omega
       obtain ⟨y1,y2,y3⟩:=HY.out wr hbr
       have hcan:=HC2.out wr a1 (dK Pv j).length c1 (cZ G.ops j R Pv j) (RZ Hbwr.out hbr) hO.jt (Hrws.out j (Na _)) (by omega)
       unfold pH at hcan
       have hlen8 : (bw G (cZ G.ops j R Pv j) j).length=D.length:=by rw [Hdl.out,eo]
       rw [hlen8,<- Hdl.out] at hcan
       obtain ⟨d,hd⟩ : ∃d,D.length=d:=⟨_,rfl⟩
       rw [hd] at hcan
       have Hd:=Z5 hd
       have Hcan:=Z5 hcan
       have hbF:=RZ Hbwr.out hbr
       clear hcan hlen8 hd
       go_wp2_with fail
       refine Hcan.out.mono ?_
       rintro e w8 ⟨a8,c8,R8,ap8,cp8,rfl,hO8,hp8,hb8⟩
       have HF : Hid (aT w8 w.heap.size a8 d c8 R8 D/\SW w w8):=⟨hO8.mono hbF.size,RZ hbF hb8⟩
       clear hO8 hp8 Hcan
       go_wp2_with fail
       go_ret
       rw [Hd.out]
       exact ⟨a8,c8,R8,rfl,HF.out.1,HF.out.2⟩
end Go.Proofs.YthglbncgemdcbaaGreat
