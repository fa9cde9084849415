import Derived.Test.YtjfiflldinnhmaaGreatHSO28
namespace Go.Proofs.YtjfiflldinnhmaaGreat
set_option linter.all false
set_option maxRecDepth 100000
set_option maxHeartbeats 8000000
open Go.RowKit Go.Proofs.Tryz
theorem bX.Eo {A : Nat->Prop} {B : Nat} {w : World} {a : OA} {n : Nat} {L : LL} (h : bX B w a n L) (hA : ∀b,A b->b<B) : fZ A w a n L :=
 ⟨h.len,h.pl,h.max,λhn hc=>Gr _ (Fc (hA _ hc) (h.lo hn)),λi hi=>by obtain ⟨b,m,c,h1,h2⟩:=h.cell i hi;exact ⟨b,m,c,h1,h2.ints,λhm hc=>Gr _ (Fc (hA _ hc) (h2.lo hm))⟩⟩
def pV (P M : Int) (mod : LI) (N : Int) (L : LL) (k : Nat) : Int × LL:=i9 P M mod N L ((L.length : Int) - ((k : Int)+1)+1) (((jy (an P M.toNat mod).ops L N.toNat ((k : Int)+1)).length : Int) - 1)
def gu (P M : Int) (mod : LI) (N : Int) (L : LL) : Nat->Int
 | 0=>0
 | k+1=>if gu P M mod N L k=0 then (pV P M mod N L k).1 else gu P M mod N L k
theorem nS {P M : Int} {mod : LI} {N : Int} {L : LL} {k : Nat} {e : Int} (h : gu P M mod N L k=e) (he : e ≠ 0) : ∀d,gu P M mod N L (k+d)=e
 | 0=>h
 | d+1=>by have ih:=nS h he d;show (if gu P M mod N L (k+d)=0 then _ else gu P M mod N L (k+d))=e;rw [ih,EG he]
def kN (P M : Int) (mod : LI) (N : Int) (L : LL) : Int:=if fF P M mod N L=0 then gu P M mod N L L.length else fF P M mod N L
def mS (P M : Int) (mod : LI) (N : Int) (L : LL) (k : Nat) : LL:=(List.range k).map λ(r : Nat)=>jy (an P M.toNat mod).ops L N.toNat ((r : Int)+1)
def mV (P M : Int) (mod : LI) (N : Int) (L : LL) (k : Nat) : List LL:=(List.range k).map λ(r : Nat)=>(pV P M mod N L r).2
def nL (P M : Int) (mod : LI) (N : Int) (n : Nat) (L : LL) (w : World) (e : Ending) (w' : World) : Prop :=
 JA w w'/\((kN P M mod N L ≠ 0/\e = .returned (.tuple #[.agg #[.slice none 0 0,.slice none 0 0],.int .i64 (kN P M mod N L)])) \/
  (kN P M mod N L=0/\∃as' cs at' ct,e = .returned (.tuple #[.agg #[.slice as' n cs,.slice at' n ct],.int .i64 0])/\bY w' as' n (mS P M mod N L n)/\eJ w' at' n (mV P M mod N L n)))
theorem zr {O : aL} {L : LL} {m : Nat} {r : Int} (hm : m<=16) : (jy O L m r).length<=65536:=by
 unfold jy;cases h : (nT m).find? (pD O L m r) with
 | none=>exact EL _
 | some t =>
  have h1:=List.mem_of_find?_eq_some h
  have h2:=xb (lz.1 h1) (EL m)
  show t.length<=65536
  omega
theorem ld {w w' : World} {ao : OA} {m c : Nat} {ad : Addr} (hg : w.grownBy w' (Value.slice ao m c).ownBlock) (hlt : ad.block<w.heap.size) (h : w.frozen? ad=false) (hne : db ao ad.block) : w'.frozen? ad=false :=
 (E5 (w:=w) (a:=ad) (hg.block _ hlt λe=>hne.own m c e.symm)).trans h
theorem ru (P M : Int) (am : OA) (mn cm : Nat) (mod : LI) (N : Int) (a : OA) (n c : Nat) (L : LL) (w : World) (hmod : Ints w am mn mod) (hi : bY w a n L) :
  Calls prog 53 #[.agg #[.int .i64 P,.int .i64 M,.slice am mn cm,.int .i64 N,.slice a n c]] w (nL P M mod N n L w):=by
 have Hil:=Z5 hi.len;go_enter func53,ntmps53;go_wp2_with fail;obtain ⟨U,hU⟩ : ∃U : World,U=(w.alloc (.cells #[.int .i64 P,.int .i64 M,.slice am mn cm,.int .i64 N,.slice a n c] 27)).alloc (.cells #[.slice none 0 0,.slice none 0 0] 30):=⟨_,rfl⟩
 rw [<- hU];have hbU : JA w U:=by rw [hU];exact fI _ _ _
 have hsU : U.heap.size=w.heap.size+2:=by rw [hU];simp
 have x0 : ba U w.heap.size [.int .i64 P,.int .i64 M,.slice am mn cm,.int .i64 N,.slice a n c]:=by rw [hU];exact (Ja _ _ _ rfl).alloc _
 have z0 : ba U (w.heap.size+1) [.slice none 0 0,.slice none 0 0]:=by rw [hU];exact Ja _ _ _ (by simp)
 have HS : Hid (∀V,JA U V->V.cell? ⟨w.heap.size,0,none⟩=some (.int .i64 P)/\V.cell? ⟨w.heap.size,1,none⟩=some (.int .i64 M)/\V.cell? ⟨w.heap.size,2,none⟩=some (.slice am mn cm)/\V.cell? ⟨w.heap.size,3,none⟩=some (.int .i64 N)/\V.cell? ⟨w.heap.size,4,none⟩=some (.slice a n c) /\
   V.cell? ⟨w.heap.size+1,0,none⟩=some (.slice none 0 0)/\V.cell? ⟨w.heap.size+1,1,none⟩=some (.slice none 0 0)/\V.frozen? ⟨w.heap.size+1,0,none⟩=false/\V.frozen? ⟨w.heap.size+1,1,none⟩=false):=λV hV=>by have x1:=x0.aa hV;have z1:=z0.aa hV;exact ⟨x1.cell 0 rfl,x1.cell 1 rfl,x1.cell 2 rfl,x1.cell 3 rfl,x1.cell 4 rfl,z1.cell 0 rfl,z1.cell 1 rfl,z1.frozen 0,z1.frozen 1⟩
 have HErr : Hid (∀V er,kN P M mod N L=er->er ≠ 0->JA U V->nL P M mod N n L w (.returned (.tuple #[.agg #[.slice none 0 0,.slice none 0 0],.int .i64 er])) ((V.setCell ⟨w.heap.size+1,0,none⟩ (.slice none 0 0)).setCell ⟨w.heap.size+1,1,none⟩ (.slice none 0 0))):=λV er h1 h2 hV =>
  ⟨((I8 hbU hV).setCell (p:=⟨w.heap.size+1,0,none⟩) (by simp) _).setCell (p:=⟨w.heap.size+1,1,none⟩) (by simp) _,.inl ⟨by rw [h1];exact h2,by rw [h1]⟩⟩
 have HbU:=Z5 hbU;have HsU:=Z5 hsU;clear hU x0 z0 hsU;refine (oM P M am mn cm mod N a n c L U (hmod.aa hbU) (hi.aa hbU)).mono ?_;rintro e w1 ⟨hb1,⟨hE,rfl⟩ | ⟨hE,a1,c1,rfl,hown⟩⟩
 ·have HE : Hid (kN P M mod N L=fF P M mod N L):=EG hE;obtain ⟨_,_,_,_,_,z3,z4,f3,f4⟩:=HS.out w1 hb1;have HR:=Z5 (HErr.out w1 _ HE.out hE hb1);have hE' : (fF P M mod N L != 0)=true:=by simpa using hE
  clear hE;generalize fF P M mod N L=er at *;go_wp2_with fail;exact bodyPost_ret (v:=.tuple #[.agg #[.slice none 0 0,.slice none 0 0],.int .i64 er]) (by simp [results,results53,go_sem,z3,z4]) rfl HR.out
 obtain ⟨hC,hN1,hN16⟩:=j7 hE;obtain ⟨m,rfl⟩ : ∃m : Nat,N=m:=⟨N.toNat,by omega⟩
 have hm16 : m<=16:=by omega
 rw [EM] at hown;have Hdi:=Z5 (I9 hown).1;clear hown;have Hm16:=Z5 hm16;have hn256 : n<=256:=by rw [<- hi.len];exact (eE hC).choose_spec.2.2.2.1
 obtain ⟨N',em,hm1,hm64,F,hR⟩:=dk hC;obtain rfl : m=N':=by omega
 have hb01:=hb1;have Hb1:=Z5 hb1;have hbw1:=I8 hbU hb1;have HBld : Hid (∀V mm WW,JA w V->Calls prog 117 #[.agg #[.int .i64 P,.int .i64 M,.slice am mn cm,.int .i64 m,.slice a n c],.int .i64 mm,.int .i64 WW] V (CR (if (i9 P M mod m L mm WW).1=0 then (i9 P M mod m L mm WW).2 else []) (i9 P M mod m L mm WW).1 V)):=λV mm WW hV =>
  (nm P M am mn cm mod m a n c L mm WW V (hmod.aa hV) (hi.aa hV)).mono λe w' h=>h.Ep
 have HFir : Hid (∀V r,JA w1 V->Calls prog 113 #[.slice a1 (2 ^ m) c1,.int .i64 r] V λe w'=>∃a3 c3,e = .returned (.slice a3 (jy (an P M.toNat mod).ops L m r).length c3)/\cQ V.heap.size w' a3 (jy (an P M.toNat mod).ops L m r).length (jy (an P M.toNat mod).ops L m r)/\(jy (an P M.toNat mod).ops L m r).length<=65536/\JA V w'):=λV r hV=>by have h:=mK a1 c1 m (gj (an P M.toNat mod).ops m L) r V hm16 (Hdi.out.aa hV);have hf : (bS (gj (an P M.toNat mod).ops m L) m r (2 ^ m)).2=jy (an P M.toNat mod).ops L m r:=B7 F hR hm64 r;rw [hf] at h;refine h.mono ?_;rintro e w' ⟨a3,c3,rfl,ho,hb⟩;exact ⟨a3,c3,rfl,cQ.own ho,zr hm16,hb⟩
 have HT0 : Hid (gu P M mod m L 0=0):=rfl;have HTs : Hid (∀k,k<n->gu P M mod m L k=0->gu P M mod m L (k+1)=(i9 P M mod m L ((n : Int) - ((k : Int)+1)+1) (((jy (an P M.toNat mod).ops L m ((k : Int)+1)).length : Int) - 1)).1):=λk hk h=>by rw [gu,EH h,pV,Hil.out,EM]
 have HTn : Hid (∀k er,k<=n->gu P M mod m L k=er->er ≠ 0->kN P M mod m L=er):=λk er hk h1 h2=>by show kN _ _ _ _ _=er;unfold kN;rw [EH hE,Hil.out];have h3:=nS h1 h2 (n - k);rw [show k+(n - k)=n by omega] at h3;exact h3
 have HTe : Hid (gu P M mod m L n=0->kN P M mod m L=0):=λh=>by show kN _ _ _ _ _=0;unfold kN;rw [EH hE,Hil.out];exact h
 have HSS : Hid (∀k,mS P M mod m L (k+1)=mS P M mod m L k ++ [jy (an P M.toNat mod).ops L m ((k : Int)+1)]):=λk=>by unfold mS;rw [FW,EM];simp
 have HTT : Hid (∀k,mV P M mod m L (k+1)=mV P M mod m L k ++ [(i9 P M mod m L ((n : Int) - ((k : Int)+1)+1) (((jy (an P M.toNat mod).ops L m ((k : Int)+1)).length : Int) - 1)).2]):=λk=>by unfold mV;rw [FW];simp only [FD,HZ,IB,pV,Hil.out,EM]
 have HPost : Hid (∀as' cs at' ct V,kN P M mod m L=0->bY V as' n (mS P M mod m L n)->eJ V at' n (mV P M mod m L n)->JA w V->nL P M mod m n L w (.returned (.tuple #[.agg #[.slice as' n cs,.slice at' n ct],.int .i64 0])) V):=λas' cs at' ct V h0 h1 h2 h3=>⟨h3,.inr ⟨h0,as',cs,at',ct,rfl,h1,h2⟩⟩
 obtain ⟨bl,hbl⟩ : ∃bl,i9 P M mod m L=bl:=⟨_,rfl⟩
 obtain ⟨fr,hfr⟩ : ∃fr,jy (an P M.toNat mod).ops L m=fr:=⟨_,rfl⟩
 obtain ⟨CT,hCT⟩ : ∃CT,gu P M mod m L=CT:=⟨_,rfl⟩
 obtain ⟨SS,hSS⟩ : ∃SS,mS P M mod m L=SS:=⟨_,rfl⟩
 obtain ⟨TT,hTT⟩ : ∃TT,mV P M mod m L=TT:=⟨_,rfl⟩
 obtain ⟨ce,hce⟩ : ∃ce,kN P M mod m L=ce:=⟨_,rfl⟩
 rw [hbl] at HBld HTs HTT;rw [hfr] at HTs HSS HTT HFir;rw [hCT] at HT0 HTs HTn HTe;rw [hSS] at HSS HPost;rw [hTT] at HTT HPost;rw [hce] at HTn HTe HPost HErr;have HSS0 : Hid (SS 0=[]):=by show _=_;rw [<- hSS];rfl
 have HTT0 : Hid (TT 0=[]):=by show _=_;rw [<- hTT];rfl
 clear hbl hfr hCT hSS hTT hce F hR em hC hE;unfold CR at HBld;go_upto_region 5 with fail;obtain ⟨X,hX⟩ : ∃X,w1.alloc (.cells #[.slice none 0 0,.slice none 0 0] 30)=X:=⟨_,rfl⟩
 rw [hX];have hbX : JA w1 X:=by rw [<- hX];exact aA _ _
 have hC0 : gO w1.heap.size X w1.heap.size none 0 none 0 [] []:=gO.start (EF _) (by rw [<- hX];exact Ja _ _ _ rfl);clear hX;have HSw : Hid (∀V,JA w1 V->V.cell? ⟨w.heap.size,0,none⟩=some (.int .i64 P)/\V.cell? ⟨w.heap.size,1,none⟩=some (.int .i64 M)/\V.cell? ⟨w.heap.size,2,none⟩=some (.slice am mn cm)/\V.cell? ⟨w.heap.size,3,none⟩=some (.int .i64 m)/\V.cell? ⟨w.heap.size,4,none⟩=some (.slice a n c) /\
   V.cell? ⟨w.heap.size+1,0,none⟩=some (.slice none 0 0)/\V.cell? ⟨w.heap.size+1,1,none⟩=some (.slice none 0 0)/\V.frozen? ⟨w.heap.size+1,0,none⟩=false/\V.frozen? ⟨w.heap.size+1,1,none⟩=false):=λV hV=>HS.out V (I8 hb1 hV)
 have Hbw1:=Z5 hbw1;have hsw1 : w.heap.size+2<=w1.heap.size:=by have h1:=hb1.size;have h2:=HsU.out;omega
 have HEr1 : Hid (∀V er,ce=er->er ≠ 0->JA w1 V->nL P M mod m n L w (.returned (.tuple #[.agg #[.slice none 0 0,.slice none 0 0],.int .i64 er])) ((V.setCell ⟨w.heap.size+1,0,none⟩ (.slice none 0 0)).setCell ⟨w.heap.size+1,1,none⟩ (.slice none 0 0))):=λV er h1 h2 hV=>HErr.out V er h1 h2 (I8 hb1 hV);clear HS HErr hb1 hb01 hbU hbw1;go_wp2_with fail;go_loopw [7] (λiv wr=>∃(k : Nat) (as' : OA) (cs : Nat) (at' : OA) (ct : Nat) (ss : List RX) (tt : List TX),k<=n/\iv = .int .i64 ((k : Int)+1)/\gO w1.heap.size wr w1.heap.size as' cs at' ct ss tt/\Hid (ss.length=k)/\Hid (tt.length=k)/\Hid (ss.map RX.l=SS k)/\Hid (tt.map TX.T=TT k)/\Hid (CT k=0)/\JA w1 wr) (λiv _=>n+1 - (intOf iv).toNat);case atStart=>exact ⟨0,none,0,none,0,[],[],EL _,rfl,hC0,rfl,rfl,HSS0.out.symm,HTT0.out.symm,HT0.out,hbX⟩
 case round =>
  clear hC0 hbX
  obtain ⟨k,as',cs,at',ct,ss,tt,hk,rfl,hI,Hsl,Htl,Hss,Htt,Hct,hbr⟩:=hrel
  obtain ⟨c0,c1,c2,c3,c4,z3,z4,f3,f4⟩:=HSw.out wr hbr
  by_cases hlt : k<n
  ·obtain ⟨r,hr⟩ : ∃r : Int,(k : Int)+1=r:=⟨_,rfl⟩
   have hr1 : 1<=r:=by omega
   have hrn : r<=n:=by omega
   have d1 : decide (r<=(n : Int))=true:=by simp;omega
   have HFr:=Z5 (HFir.out wr r hbr)
   have HTsk:=Z5 (HTs.out k hlt Hct.out)
   have HSSk:=Z5 (HSS.out k)
   have HTTk:=Z5 (HTT.out k)
   rw [hr] at HTsk HSSk HTTk ⊢
   have Hr:=Z5 hr
   obtain ⟨S,hS⟩ : ∃S,fr r=S:=⟨_,rfl⟩
   rw [hS] at HFr HTsk HSSk HTTk
   obtain ⟨v,hv⟩ : ∃v,S.length=v:=⟨_,rfl⟩
   rw [hv] at HFr HTsk HTTk
   have Hv:=Z5 hv
   have HI:=Z5 hI
   have Hbr:=Z5 hbr
   clear hS hv hr hI hbr
   go_wp2_with fail
   refine HFr.out.mono ?_
   rintro e w3 ⟨a3,c3',rfl,hN3,hv16,hb3⟩
   clear c0 c1 c2 c3 c4 z3 z4 f3 f4 HFr
   have hbr3:=I8 Hbr.out hb3
   obtain ⟨c0,c1,c2,c3,c4,z3,z4,f3,f4⟩:=HSw.out w3 hbr3
   have k1 : (0 : Int)<=(v : Int):=by omega
   have HB3:=Z5 (HBld.out w3 ((n : Int) - r+1) ((v : Int) - 1) (I8 Hbw1.out hbr3))
   obtain ⟨bv,hbv⟩ : ∃bv,bl ((n : Int) - r+1) ((v : Int) - 1)=bv:=⟨_,rfl⟩
   rw [hbv] at HB3 HTsk HTTk
   obtain ⟨er,T⟩:=bv
   have HN3:=Z5 hN3
   have Hb3:=Z5 hb3
   have Hbr3:=Z5 hbr3
   clear hbv hN3 hb3 hbr3
   go_wp2_with fail
   refine HB3.out.mono ?_
   rintro e w4 ⟨ar,nr,cr,R4,rfl,hO4,hb4⟩
   clear c0 c1 c2 c3 c4 z3 z4 f3 f4 HB3
   have hbr4:=I8 Hbr3.out hb4
   by_cases her : er=0
   rotate_left
   ·have hbr5:=I8 hbr4 (aA w4 (.cells #[.slice ar nr cr] 84))
    obtain ⟨_,_,_,_,_,z3,z4,f3,f4⟩:=HSw.out _ hbr5
    have HR:=Z5 (HEr1.out _ er (HTn.out (k+1) er (by omega) HTsk.out her) her hbr5)
    have he' : (er != 0)=true:=by simpa using her
    clear hO4
    go_upto_region 10 with fail
    obtain ⟨V,hV⟩ : ∃V,w4.alloc (.cells #[.slice ar nr cr] 84)=V:=⟨_,rfl⟩
    rw [hV] at z3 z4 f3 f4 HR ⊢
    clear hV hbr5 her
    go_wp2_with fail
    exact bodyPost_ret (v:=.tuple #[.agg #[.slice none 0 0,.slice none 0 0],.int .i64 er]) (by simp [results,results53,go_sem,z3,z4]) rfl HR.out
   ·subst her
    have hTe : (if (0 : Int)=0 then T else [])=T:=EH rfl
    have hO4' : aN w4 w3.heap.size ar nr cr R4 T:=by simpa using hO4
    have hcap:=nE hO4'.own
    obtain rfl : T.length=nr:=hO4'.ll
    have Hct1 : Hid (CT (k+1)=0):=HTsk.out
    have hTTk : TT (k+1)=TT k ++ [T]:=HTTk.out
    have HTTe:=Z5 hTTk
    have hb5 : JA w4 (w4.alloc (.cells #[.slice ar T.length cr] 84)):=aA _ _
    have hI5:=((HI.out.aa Hb3.out).aa hb4).aa hb5
    have hlt3 : ∀b,CA w1.heap.size w1.heap.size as' at' b->b<wr.heap.size:=λb hb=>HI.out.lt b hb
    have hsz3:=Hb3.out.size
    have hMT:=(hO4'.DX.Eo (A:=CA w1.heap.size w1.heap.size as' at') (λb hb=>by have:=hlt3 b hb;omega)).aa hb5
    have hbw5:=I8 hb4 hb5
    have hSx:=HN3.out.ints.aa hbw5
    have hSn : 0<v->¬ CA w1.heap.size w1.heap.size as' at' (ah a3):=λh0 hc=>by have h1:=hlt3 _ hc;have h2:=HN3.out.lo h0;omega
    have hbr5:=I8 hbr4 hb5
    have hy5 : ba (w4.alloc (.cells #[.slice ar T.length cr] 84)) w4.heap.size [.slice ar T.length cr]:=Ja _ _ _ rfl
    have hg3 : ∀b,CA w1.heap.size w1.heap.size as' at' b->b ≠ w4.heap.size:=λb hb e=>by have h1:=hlt3 b hb;have h2:=hb4.size;omega
    obtain ⟨q,hq⟩ : ∃q,w4.heap.size=q:=⟨_,rfl⟩
    go_upto_region 10 with fail
    obtain ⟨V,hV⟩ : ∃V,w4.alloc (.cells #[.slice ar T.length cr] 84)=V:=⟨_,rfl⟩
    rw [hV] at hI5 hMT hSx hbr5 hy5 ⊢
    rw [hq] at hy5 hg3
    try rw [hq]
    clear hV hb5 hbw5 hb4 hbr4 hO4 hO4' hq hTTk hTe hsz3
    have b0:=hI5.box.cell 0 rfl
    have g0:=hI5.box.frozen 0
    have hslk : ss.length=k:=Hsl.out
    have htlk : tt.length=k:=Htl.out
    have hso:=(hI5.aa (aA V (.cells #[.slice a3 v c3'] 22))).so
    have hcn:=bk V (.slice a3 v c3') 22
    have b0':=aJ b0 (.cells #[.slice a3 v c3'] 22)
    have hIc:=hI5
    rw [hslk] at b0 b0' hso
    have hs8 : w1.heap.size<=(V.alloc (.cells #[.slice a3 v c3'] 22)).heap.size:=by have:=hbr5.size;simp;omega
    have hlt5 : w1.heap.size<V.heap.size:=hI5.box.1
    have HI5:=Z5 (E6 hI5 (E6 hMT (E6 hSx (E6 hSn (E6 hbr5 (E6 hy5 (E6 hg3 hcap)))))))
    have Hlt5:=Z5 hlt5
    have Hasb:=Z5 hI5.as1
    clear hI5 hMT hSx hSn hbr5 hy5 hg3 hIc hlt3 hcap hlt5
    go_upto_region 13 with (at_builtin;refine aX rfl _ _ 25 22 rfl (.slice none 0 0) 24 underlying25 eh rfl w1.heap.size as' k cs _ rfl hso ⟨V.heap.size,0,none⟩ 1 (.slice a3 v c3') rfl hcn rfl (by omega) (by unfold maxLen;omega) hs8 ?_;intro a5 c5 w5 hown5 hgr5 hap5;have b5:=bF (ad:=⟨w1.heap.size,0,none⟩) hgr5 b0' Hasb.out;have g5 : w5.frozen? ⟨w1.heap.size,0,none⟩=false:=ld hgr5 (by simp;have:=Hlt5.out;omega) (bV Hlt5.out g0 _) Hasb.out)
    obtain ⟨hI5,hMT,hSx,hSn,hbr5,hy5,hg3,hcap⟩:=HI5.out
    have erx : CG ⟨a3,c3',S⟩ = .slice a3 v c3':=by show Value.slice _ _ _=_;rw [Hv.out]
    have hown5' : w5.ownsRow w1.heap.size 22 1 (.slice a5 (ss.length+1) c5) (ss.length+1) (ss.map CG ++ [CG ⟨a3,c3',S⟩]):=by rw [hslk,erx];exact hown5
    obtain ⟨hI6,hM6,hbp⟩:=gO.DY hI5 (x:=⟨a3,c3',S⟩) (by show Ints V a3 S.length S;rw [Hv.out];exact hSx) (by show 0<S.length->_;rw [Hv.out];exact hSn) hown5' (by rw [hslk];exact hgr5) hap5
    have hbr6:=hbp _ hbr5
    rw [hslk] at hI6 hM6 hbr6
    have hMT6:=hMT.ob hM6
    have hy6:=hM6.cell (hy5.cell 0 rfl) (λh=>hg3 _ h rfl)
    obtain ⟨V6,hV6⟩ : ∃V6,w5.setCell ⟨w1.heap.size,0,none⟩ (.slice a5 (k+1) c5)=V6:=⟨_,rfl⟩
    rw [hV6] at hI6 hbr6 hMT6 hy6 ⊢
    clear hV6 hown5 hown5' hgr5 hap5 hI5 hMT hSx hSn hbr5 hy5 hg3 hM6 hbp b0 b0' g0 hso hcn hs8 b5 g5 HI5 erx
    have b1:=hI6.box.cell 1 rfl
    have g1:=hI6.box.frozen 1
    have hto:=(hI6.aa (aA V6 (.cells #[.slice ar T.length cr] 84))).tow
    have hcn2:=bk V6 (.slice ar T.length cr) 84
    have b1':=aJ b1 (.cells #[.slice ar T.length cr] 84)
    rw [htlk] at b1 b1' hto
    have hs9 : w1.heap.size<=(V6.alloc (.cells #[.slice ar T.length cr] 84)).heap.size:=by have:=hbr6.size;simp;omega
    have hlt6 : w1.heap.size<V6.heap.size:=hI6.box.1
    have HI6:=Z5 (E6 hI6 (E6 hMT6 (E6 hbr6 hcap)))
    have Hlt6:=Z5 hlt6
    have Hatb:=Z5 hI6.at1
    clear hI6 hMT6 hbr6 hcap hlt6
    go_wp2_with (at_builtin;refine sO rfl _ _ 28 84 rfl (.agg #[.slice none 0 0]) 24 underlying28 BJ rfl w1.heap.size at' k ct _ rfl hto ⟨V6.heap.size,0,none⟩ 1 (.slice ar T.length cr) rfl hcn2 rfl (by omega) (by unfold maxLen;omega) hs9 ?_;intro a6 c6 w6 hown6 hgr6 hap6;have b6:=bF (ad:=⟨w1.heap.size,1,none⟩) hgr6 b1' Hatb.out;have g6 : w6.frozen? ⟨w1.heap.size,1,none⟩=false:=ld hgr6 (by simp;have:=Hlt6.out;omega) (bV Hlt6.out g1 _) Hatb.out)
    go_roundw
    case rel =>
     obtain ⟨hI6,hMT6,hbr6,hcap⟩:=HI6.out
     have hown6' : w6.ownsRow w1.heap.size 84 1 (.slice a6 (tt.length+1) c6) (tt.length+1) (tt.map De ++ [De ⟨ar,cr,T⟩]):=by rw [htlk];exact hown6
     obtain ⟨hI7,_,hbp⟩:=gO.DE hI6 (x:=⟨ar,cr,T⟩) hMT6 hcap hown6' (by rw [htlk];exact hgr6) hap6
     have hbr7:=hbp _ hbr6
     rw [htlk] at hI7 hbr7
     refine ⟨k+1,a5,c5,a6,c6,ss ++ [⟨a3,c3',S⟩],tt ++ [⟨ar,cr,T⟩],by omega,?_,hI7,by show _=_;rw [ER,hslk];rfl,by show _=_;rw [ER,htlk];rfl,by show _=_;rw [FD,Hss.out,HSSk.out];rfl,by show _=_;rw [FD,Htt.out,HTTe.out];rfl,Hct1.out,hbr7⟩
     have:=Hr.out
     congr 1
     omega
    case measure =>
     have:=Hr.out
     simp [intOf] <;> omega
  ·obtain rfl : k=n:=by omega
   have d1 : decide ((k : Int)+1<=(k : Int))=false:=by simp;omega
   have b0:=hI.box.cell 0 rfl
   have b1:=hI.box.cell 1 rfl
   rw [Hsl.out] at b0
   rw [Htl.out] at b1
   have hI2:=(hI.set (p:=⟨w.heap.size+1,0,none⟩) (by show w.heap.size+1<w1.heap.size;omega) (.slice as' k cs)).set (p:=⟨w.heap.size+1,1,none⟩) (by show w.heap.size+1<w1.heap.size;omega) (.slice at' k ct)
   obtain ⟨q1,q2⟩:=hI2.pA
   rw [Hsl.out,Hss.out] at q1
   rw [Htl.out,Htt.out] at q2
   have HF:=Z5 (HPost.out as' cs at' ct _ (HTe.out Hct.out) q1 q2 (((I8 Hbw1.out hbr).setCell (p:=⟨w.heap.size+1,0,none⟩) (by simp) _).setCell (p:=⟨w.heap.size+1,1,none⟩) (by simp) _))
   clear hI hI2 q1 q2
   go_wp2_with fail
   exact bodyPost_ret (v:=.tuple #[.agg #[.slice as' k cs,.slice at' k ct],.int .i64 0]) (by simp [results,results53,go_sem,z3,z4]) rfl HF.out
def jI (P M : Int) (mod : LI) (m : Nat) (L SS : LL) (TT : List LL) (r : Nat) : Bool :=
 bI m (af SS r) && (decide ((r : Int)+1<=nq (an P M.toNat mod).ops L m (af SS r)) && decide (jr P M mod m L ((L.length : Int) - ((r : Int)+1)+1) (((af SS r).length : Int) - 1) (pJ TT r)=0))
def iF (P M : Int) (mod : LI) (m : Nat) (L SS : LL) (TT : List LL) : Nat->Bool
 | 0=>true
 | k+1=>iF P M mod m L SS TT k && jI P M mod m L SS TT k
theorem tR {P M : Int} {mod : LI} {m : Nat} {L SS : LL} {TT : List LL} {k : Nat} (h : jI P M mod m L SS TT k=false) : ∀d,iF P M mod m L SS TT (k+1+d)=false
 | 0=>by show (iF P M mod m L SS TT k && jI P M mod m L SS TT k)=false;rw [h,GB]
 | d+1=>by have ih:=tR h d;show (iF P M mod m L SS TT (k+1+d) && _)=false;rw [ih,I5]
def vf (P M : Int) (mod : LI) (N : Int) (L SS : LL) (TT : List LL) : Int :=
 if aZ P M mod N L=0 then (if SS.length=L.length/\TT.length=L.length/\iF P M mod N.toNat L SS TT L.length=true then 0 else 13) else aZ P M mod N L
def mf (SS : LL) (k : Nat) : LI:=(List.range k).map λr=>((af SS r).length : Int)
def fA (P M : Int) (mod : LI) (N : Int) (n : Nat) (L SS : LL) (TT : List LL) (w : World) (e : Ending) (w' : World) : Prop :=
 JA w w'/\((vf P M mod N L SS TT ≠ 0/\e = .returned (.tuple #[.slice none 0 0,.int .i64 (vf P M mod N L SS TT)])) \/
  (vf P M mod N L SS TT=0/\∃a c,e = .returned (.tuple #[.slice a n c,.int .i64 0])/\w'.ownsRow w.heap.size 3 1 (.slice a n c) n ((mf SS n).map (Value.int .i64))))
theorem oO (P M : Int) (am : OA) (mn cm : Nat) (mod : LI) (N : Int) (a : OA) (n c : Nat) (L : LL) (asx : OA) (nsx csx : Nat) (SS : LL) (atx : OA) (ntx ctx : Nat) (TT : List LL) (w : World)
  (hmod : Ints w am mn mod) (hi : bY w a n L) (hSS : bY w asx nsx SS) (hTT : eJ w atx ntx TT) :
  Calls prog 18 #[.agg #[.int .i64 P,.int .i64 M,.slice am mn cm,.int .i64 N,.slice a n c],.agg #[.slice asx nsx csx,.slice atx ntx ctx]] w (fA P M mod N n L SS TT w):=by
 have Hil:=Z5 hi.len;have HSl:=Z5 hSS.len;have HTl:=Z5 hTT.len;have hplS:=hSS.pl;have hplT:=hTT.pl;go_enter func18,ntmps18;go_wp2_with fail;obtain ⟨U,hU⟩ : ∃U : World,U=(w.alloc (.cells #[.int .i64 P,.int .i64 M,.slice am mn cm,.int .i64 N,.slice a n c] 27)).alloc (.cells #[.slice asx nsx csx,.slice atx ntx ctx] 30):=⟨_,rfl⟩
 rw [<- hU];have hbU : JA w U:=by rw [hU];exact fI _ _ _
 have x0 : ba U w.heap.size [.int .i64 P,.int .i64 M,.slice am mn cm,.int .i64 N,.slice a n c]:=by rw [hU];exact (Ja _ _ _ rfl).alloc _
 have z0 : ba U (w.heap.size+1) [.slice asx nsx csx,.slice atx ntx ctx]:=by rw [hU];exact Ja _ _ _ (by simp)
 have HS : Hid (∀V,JA U V->V.cell? ⟨w.heap.size,0,none⟩=some (.int .i64 P)/\V.cell? ⟨w.heap.size,1,none⟩=some (.int .i64 M)/\V.cell? ⟨w.heap.size,2,none⟩=some (.slice am mn cm)/\V.cell? ⟨w.heap.size,3,none⟩=some (.int .i64 N)/\V.cell? ⟨w.heap.size,4,none⟩=some (.slice a n c) /\
   V.cell? ⟨w.heap.size+1,0,none⟩=some (.slice asx nsx csx)/\V.cell? ⟨w.heap.size+1,1,none⟩=some (.slice atx ntx ctx)):=λV hV=>by have x1:=x0.aa hV;have z1:=z0.aa hV;exact ⟨x1.cell 0 rfl,x1.cell 1 rfl,x1.cell 2 rfl,x1.cell 3 rfl,x1.cell 4 rfl,z1.cell 0 rfl,z1.cell 1 rfl⟩
 have HbU:=Z5 hbU;have HErr : Hid (∀V er,vf P M mod N L SS TT=er->er ≠ 0->JA U V->fA P M mod N n L SS TT w (.returned (.tuple #[.slice none 0 0,.int .i64 er])) V):=λV er h1 h2 hV =>
  ⟨I8 hbU hV,.inl ⟨by rw [h1];exact h2,by rw [h1]⟩⟩
 clear hU x0 z0;refine (dU P M am mn cm mod N a n c L U (hmod.aa hbU) (hi.aa hbU)).mono ?_;rintro e w1 ⟨rfl,hb1⟩;by_cases hC : aZ P M mod N L=0;rotate_left
 ·have HR:=Z5 (HErr.out w1 _ (EG hC) hC hb1);have hE' : (aZ P M mod N L != 0)=true:=by simpa using hC
  clear hC;generalize aZ P M mod N L=er at *;go_wp2_with fail;go_ret2;exact HR.out
 obtain ⟨m,em,hm1,hm64,F,hR⟩:=dk hC;subst em;have hn256 : n<=256:=by rw [<- hi.len];exact (eE hC).choose_spec.2.2.2.1
 obtain ⟨d0,d1,d2,d3,d4,d5,d6⟩:=HS.out w1 hb1;have HRej : Hid (∀V,¬ (SS.length=L.length/\TT.length=L.length/\iF P M mod m L SS TT L.length=true)->JA U V->fA P M mod m n L SS TT w (.returned (.tuple #[.slice none 0 0,.int .i64 13])) V):=λV h hV =>
  HErr.out V 13 (by show vf _ _ _ _ _ _ _=13;unfold vf;rw [EH hC,EM,EG h]) (by decide) hV
 by_cases hs1 : nsx=n;rotate_left
 ·have HR:=Z5 (HRej.out w1 (λh=>hs1 (by rw [<- hSS.len,h.1,hi.len])) hb1);have e1 : ((nsx : Int) != (n : Int))=true:=by simpa using λh=>hs1 (by omega)
  rw [hC];clear hC hs1;go_wp2_with fail;go_ret2;exact HR.out
 subst hs1;by_cases ht1 : ntx=nsx;rotate_left
 ·have HR:=Z5 (HRej.out w1 (λh=>ht1 (by rw [<- hTT.len,h.2.1,hi.len])) hb1);have e1 : ((ntx : Int) != (nsx : Int))=true:=by simpa using λh=>ht1 (by omega)
  rw [hC];clear hC ht1;go_wp2_with fail;go_ret2;exact HR.out
 subst ht1;have hbw1:=I8 hbU hb1;have HRj : Hid (∀V k,k<ntx->jI P M mod m L SS TT k=false->JA U V->fA P M mod m ntx L SS TT w (.returned (.tuple #[.slice none 0 0,.int .i64 13])) V):=λV k hk hb hV =>
  HRej.out V (λh=>by have h1:=tR hb (ntx - (k+1));rw [show k+1+(ntx - (k+1))=L.length by rw [hi.len];omega] at h1;rw [h1] at h;exact absurd h.2.2 (by decide)) hV
 have HOk : Hid (∀a1 c1 V,iF P M mod m L SS TT ntx=true->V.ownsRow w1.heap.size 3 1 (.slice a1 ntx c1) ntx ((mf SS ntx).map (Value.int .i64))->JA w1 V->fA P M mod m ntx L SS TT w (.returned (.tuple #[.slice a1 ntx c1,.int .i64 0])) V):=λa1 c1 V h1 h2 h3 =>
  ⟨I8 hbw1 h3,.inr ⟨by unfold vf;rw [EH hC,EM,EH ⟨by rw [hSS.len,hi.len],by rw [hTT.len,hi.len],by rw [hi.len];exact h1⟩],a1,c1,rfl,aW h2 hbw1.size⟩⟩
 have HStep : Hid (∀k,iF P M mod m L SS TT k=true->jI P M mod m L SS TT k=true->iF P M mod m L SS TT (k+1)=true):=λk h1 h2=>by show (iF P M mod m L SS TT k && jI P M mod m L SS TT k)=true;rw [h1,h2];rfl
 have HB0 : Hid (∀k : Nat,bI m (af SS k)=false->jI P M mod m L SS TT k=false):=λk h=>by unfold jI;rw [h];rfl
 have HB1 : Hid (∀k : Nat,¬ (k : Int)+1<=nq (an P M.toNat mod).ops L m (af SS k)->jI P M mod m L SS TT k=false):=λk h=>by unfold jI;rw [FJ h,I5,GB]
 have HB2 : Hid (∀(k : Nat) er,jr P M mod m L ((ntx : Int) - ((k : Int)+1)+1) (((af SS k).length : Int) - 1) (pJ TT k)=er->er ≠ 0->jI P M mod m L SS TT k=false):=λk er h1 h2=>by unfold jI;rw [FJ (p:=jr _ _ _ _ _ _ _ _=0) (by rw [hi.len,h1];exact h2),GB,GB]
 have HB3 : Hid (∀k : Nat,bI m (af SS k)=true->(k : Int)+1<=nq (an P M.toNat mod).ops L m (af SS k)->jr P M mod m L ((ntx : Int) - ((k : Int)+1)+1) (((af SS k).length : Int) - 1) (pJ TT k)=0->jI P M mod m L SS TT k=true):=λk h1 h2 h3=>by unfold jI;rw [h1,Fz h2,hi.len,h3];rfl
 have HW : Hid (∀k,mf SS (k+1)=mf SS k ++ [((af SS k).length : Int)]):=λk=>by unfold mf;rw [FW];simp
 have HW0 : Hid (mf SS 0=[]):=rfl;have HCk : Hid (∀V mm WW ax nx cx ts,JA w V->bY V ax nx ts->nx<=cx->Calls prog 59 #[.agg #[.int .i64 P,.int .i64 M,.slice am mn cm,.int .i64 m,.slice a ntx c],.int .i64 mm,.int .i64 WW,.agg #[.slice ax nx cx]] V λe w'=>e = .returned (.int .i64 (jr P M mod m L mm WW ts))/\JA V w'):=λV mm WW ax nx cx ts hV h1 h2 =>
  nb P M am mn cm mod m a ntx c L mm WW ax nx cx ts V (hmod.aa hV) (hi.aa hV) h1
 have HRk1 : Hid (∀V ao no co Q,JA w V->Ints V ao no Q->Calls prog 19 #[.agg #[.int .i64 P,.int .i64 M,.slice am mn cm,.int .i64 m,.slice a ntx c],.slice ao no co] V λe w'=>((bI m Q=false/\e = .returned (.tuple #[.int .i64 0,.int .i64 6]))\/(bI m Q=true/\e = .returned (.tuple #[.int .i64 (lC (an P M.toNat mod).ops L Q : Nat),.int .i64 0])))/\JA V w'):=λV ao no co Q hV hQ=>by
  refine (th P M am mn cm mod m a ntx c L ao no co Q V (hmod.aa hV) (hi.aa hV) hQ).mono ?_;have he : iW P M mod m L Q=if bI m Q=true then 0 else 6:=by unfold iW;rw [EH hC,lT]
  rintro e w' ⟨hb,⟨h0,rfl⟩ | ⟨h0,rfl⟩⟩
  ·by_cases hq : bI m Q=true
   ·rw [he,EH hq] at h0;exact absurd rfl h0
   ·rw [he,EG hq];exact ⟨.inl ⟨by simpa using hq,rfl⟩,hb⟩
  ·by_cases hq : bI m Q=true
   ·exact ⟨.inr ⟨hq,rfl⟩,hb⟩
   ·rw [he,EG hq] at h0;cases h0
 have HDz : Hid (∀S,nq (an P M.toNat mod).ops L m S=(ntx : Int) - (lC (an P M.toNat mod).ops L (aP false S m) : Nat)):=λS=>by unfold nq;rw [hi.len]
 have HRb : Hid (∀S,lC (an P M.toNat mod).ops L (aP false S m)<=m):=λS=>ET (vW _ _ _) (fB _ _ _);have HOs : Hid (∀S,bI m (aP false S m)=true):=λS=>oh false S m;have HG1 : Hid (∀(S : LI) (k : Nat),decide ((k : Int) ∈ S)=false->aP false S (k+1)=aP false S k ++ [(k : Int)]):=λS k h=>by rw [aP,EH h]
 have HG2 : Hid (∀(S : LI) (k : Nat),decide ((k : Int) ∈ S)=true->aP false S (k+1)=aP false S k):=λS k h=>by rw [aP,EG (by rw [h];decide)]
 have HGl : Hid (∀(S : LI) k,(aP false S k).length<=k):=λS k=>fB _ _ _;obtain ⟨rk,hrk⟩ : ∃rk,lC (an P M.toNat mod).ops L=rk:=⟨_,rfl⟩
 rw [hrk] at HRk1 HDz HRb;clear hrk;obtain ⟨ck,hck⟩ : ∃ck,jr P M mod m L=ck:=⟨_,rfl⟩
 obtain ⟨dz,hdz⟩ : ∃dz,nq (an P M.toNat mod).ops L m=dz:=⟨_,rfl⟩
 obtain ⟨G,hG⟩ : ∃G,mf SS=G:=⟨_,rfl⟩
 obtain ⟨H,hH⟩ : ∃H,iF P M mod m L SS TT=H:=⟨_,rfl⟩
 obtain ⟨hb,hhb⟩ : ∃hb,jI P M mod m L SS TT=hb:=⟨_,rfl⟩
 rw [hck] at HCk HB2 HB3;rw [hdz] at HB1 HB3 HDz;rw [hG] at HW HW0 HOk;rw [hH] at HOk HStep;rw [hhb] at HRj HStep HB0 HB1 HB2 HB3;have HH0 : Hid (H 0=true):=by show _=_;rw [<- hH];rfl
 rw [hC];have HSw : Hid (∀V,JA w1 V->V.cell? ⟨w.heap.size,0,none⟩=some (.int .i64 P)/\V.cell? ⟨w.heap.size,1,none⟩=some (.int .i64 M)/\V.cell? ⟨w.heap.size,2,none⟩=some (.slice am mn cm)/\V.cell? ⟨w.heap.size,3,none⟩=some (.int .i64 m)/\V.cell? ⟨w.heap.size,4,none⟩=some (.slice a ntx c) /\
   V.cell? ⟨w.heap.size+1,0,none⟩=some (.slice asx ntx csx)/\V.cell? ⟨w.heap.size+1,1,none⟩=some (.slice atx ntx ctx)):=λV hV=>HS.out V (I8 hb1 hV)
 have Hbw1:=Z5 hbw1;have Hb1:=Z5 hb1;clear hck hdz hG hH hhb hC F hR HErr HRej HS hb1 hbU hbw1;go_wp2_with fail;go_loopw [8,9] (λov iv wr=>∃(k : Nat) (a1 : OA) (c1 : Nat),k<=ntx/\iv = .int .i64 ((k : Int)+1)/\ov = .slice a1 k c1/\wr.ownsRow w1.heap.size 3 1 (.slice a1 k c1) k ((G k).map (Value.int .i64))/\Hid (H k=true)/\JA w1 wr) (λ_ iv _=>ntx+1 - (intOf iv).toNat);case atStart=>exact ⟨0,none,0,EL _,rfl,rfl,by rw [HW0.out];exact bG,HH0.out,EI _ _⟩
 case round =>
  obtain ⟨k,a1,c1,hk,rfl,rfl,hown,Hk,hbr⟩:=hrel
  obtain ⟨d0,d1,d2,d3,d4,d5,d6⟩:=HSw.out wr hbr
  by_cases hlt : k<ntx
  ·obtain ⟨r,hr⟩ : ∃r : Int,(k : Int)+1=r:=⟨_,rfl⟩
   have hr1 : 1<=r:=by omega
   have hrn : r<=ntx:=by omega
   have g1 : decide (r<=(ntx : Int))=true:=by simp;omega
   have g2 : r - 1=(k : Int):=by omega
   have HRk:=Z5 (λV=>HRj.out V k hlt)
   have HB0k:=Z5 (HB0.out k)
   have HB1k:=Z5 (HB1.out k)
   have HB2k:=Z5 (HB2.out k)
   have HB3k:=Z5 (HB3.out k)
   have HStk:=Z5 (HStep.out k Hk.out)
   have HWk:=Z5 (HW.out k)
   rw [hr] at HB1k HB2k HB3k ⊢
   obtain ⟨rb,rn,rc,hcell,hrow⟩:=(hSS.aa (I8 Hbw1.out hbr)).cell k (by omega)
   obtain ⟨tb,tn,tc,htcell,htree,htc⟩:=(hTT.aa (I8 Hbw1.out hbr)).cell k (by omega)
   obtain ⟨S,hS⟩ : ∃S,af SS k=S:=⟨_,rfl⟩
   obtain ⟨ts,hts⟩ : ∃ts,pJ TT k=ts:=⟨_,rfl⟩
   rw [hS] at HB0k HB1k HB2k HB3k HWk hrow
   rw [hts] at HB2k HB3k htree
   have hrl:=hrow.len
   rw [hrl] at HB2k HB3k HWk
   have hrmax : rn<=maxLen:=hrow.max
   unfold maxLen at hrmax
   have Hr:=Z5 hr
   have Hown:=Z5 hown
   have Hbr:=Z5 hbr
   have Hrow:=Z5 hrow
   have Htree:=Z5 htree
   have Hrl:=Z5 hrl
   clear hr hown hbr hrow htree hS hts hrl
   have HG1:=Z5 (HG1.out S)
   have HG2:=Z5 (HG2.out S)
   have HGl:=Z5 (HGl.out S)
   have hRb:=HRb.out S
   have HDz:=Z5 (HDz.out S)
   have HOs:=Z5 (HOs.out S)
   obtain ⟨Z,hZ⟩ : ∃Z,aP false S=Z:=⟨_,rfl⟩
   rw [hZ] at HG1 HG2 HGl hRb HDz HOs
   have HZ0 : Hid (Z 0=[]):=by show _=_;rw [<- hZ];rfl
   have hbw:=I8 Hbw1.out Hbr.out
   have Hbw:=Z5 hbw
   have HSr : Hid (∀V,JA wr V->V.cell? ⟨w.heap.size,0,none⟩=some (.int .i64 P)/\V.cell? ⟨w.heap.size,1,none⟩=some (.int .i64 M)/\V.cell? ⟨w.heap.size,2,none⟩=some (.slice am mn cm)/\V.cell? ⟨w.heap.size,3,none⟩=some (.int .i64 m)/\V.cell? ⟨w.heap.size,4,none⟩=some (.slice a ntx c) /\
     V.cell? ⟨w.heap.size+1,0,none⟩=some (.slice asx ntx csx)/\V.cell? ⟨w.heap.size+1,1,none⟩=some (.slice atx ntx ctx)/\V.cell? ⟨ah atx,aG atx+k,none⟩=some (.slice tb tn tc)):=λV hV=>by obtain ⟨x0,x1,x2,x3,x4,x5,x6⟩:=HSw.out V (I8 Hbr.out hV);exact ⟨x0,x1,x2,x3,x4,x5,x6,aj hV htcell⟩
   have hU1:=I8 Hb1.out Hbr.out
   have HU1:=Z5 hU1
   clear hZ hbw htcell hU1
   generalize wr=X at *
   go_upto_region 14 with fail
   clear hcell
   go_loopw [11,50] (λov iv wr=>∃(k g : Nat) (a1 : OA) (c1 : Nat),k<=m/\iv = .int .i64 k/\Hid ((Z k).length=g)/\ov = .slice a1 g c1/\wr.ownsRow X.heap.size 3 1 (.slice a1 g c1) g ((Z k).map (Value.int .i64))/\JA X wr) (λ_ iv _=>m - (intOf iv).toNat)
   case atStart=>exact ⟨0,0,none,0,EL _,rfl,by show _=_;rw [HZ0.out];rfl,rfl,by rw [HZ0.out];exact bG,EI _ _⟩
   case round =>
    obtain ⟨j,g,a2,c2,hj,rfl,Hg2,rfl,hown,hbz⟩:=hrel
    by_cases hltj : j<m
    ·have hgk : g<=64:=by have h:=HGl.out j;rw [Hg2.out] at h;omega
     have hcont:=bJ rb rn rc S j wr (Hrow.out.aa hbz)
     have hG1:=HG1.out j
     have hG2:=HG2.out j
     obtain ⟨b2,hb2⟩ : ∃b2,decide ((j : Int) ∈ S)=b2:=⟨_,rfl⟩
     rw [hb2] at hcont hG1 hG2
     have Hcont:=Z5 hcont
     clear hb2 hcont
     cases b2
     ·have Hn:=Z5 (hG1 rfl)
      clear hG1 hG2
      have hsz:=hbz.size
      have hcn:=bk wr (.int .i64 j) 3
      go_wp2_with (first | (go_at_call 58;refine Hcont.out.mono ?_;rintro e w3 ⟨rfl,rfl⟩) | (at_builtin;refine aX rfl _ _ 22 3 rfl (.int .i64 0) 8 underlying22 bh rfl X.heap.size a2 g c2 _ rfl (hown.alloc _) ⟨w3.heap.size,0,none⟩ 1 (.int .i64 j) rfl hcn rfl (by omega) (by unfold maxLen;omega) (by simp;omega) ?_;intro a5 c5 w5 hown5 hgr5 hap5))
      go_roundw
      case rel =>
       refine ⟨j+1,g+1,a5,c5,by omega,by go_num,by show _=_;rw [Hn.out,ER,Hg2.out];rfl,rfl,by rw [Hn.out];simpa using hown5,Jb (Jh hbz _) (hown.alloc _) hgr5 (EF _) (Jh hbz _).size⟩
      case measure=>simp [intOf] <;> omega
     ·have Hn:=Z5 (hG2 rfl)
      clear hG1 hG2
      go_wp2_with (go_at_call 58;refine Hcont.out.mono ?_;rintro e w3 ⟨rfl,rfl⟩)
      go_roundw
      case rel=>exact ⟨j+1,g,a2,c2,by omega,by go_num,by show _=_;rw [Hn.out];exact Hg2.out,rfl,by rw [Hn.out];exact hown,hbz⟩
      case measure=>simp [intOf] <;> omega
    ·obtain rfl : j=m:=by omega
     have HIo:=Z5 (I9 hown).1
     rw [<- Hg2.out] at HIo
     have HR1:=Z5 (HRk1.out wr rb rn rc S (I8 Hbw.out hbz) (Hrow.out.aa hbz))
     have Hbz:=Z5 hbz
     obtain ⟨d0,d1,d2,d3,d4,d5,d6,_⟩:=HSr.out wr hbz
     generalize wr=Y at *
     clear hown hbz
     go_wp2_with fail
     refine HR1.out.mono ?_
     rintro e w4 ⟨⟨hq,rfl⟩ | ⟨hq,rfl⟩,hb4⟩
     ·have HR:=Z5 (HRk.out w4 (HB0k.out hq) (I8 HU1.out (I8 Hbz.out hb4)))
      clear hq d0 d1 d2 d3 d4 d5 d6
      go_wp2_with fail
      go_ret2
      exact HR.out
     have hb4X:=I8 Hbz.out hb4
     have HR2:=Z5 (HRk1.out w4 a2 (Z j).length c2 (Z j) (I8 Hbw.out hb4X) (HIo.out.aa hb4))
     rw [Hg2.out] at HR2
     have Hq:=Z5 hq
     clear hq d0 d1 d2 d3 d4 d5 d6 HR1
     obtain ⟨d0,d1,d2,d3,d4,d5,d6,_⟩:=HSr.out w4 hb4X
     obtain ⟨v1,hv1⟩ : ∃v1 : Nat,rk S=v1:=⟨_,rfl⟩
     rw [hv1]
     obtain ⟨v2,hv2⟩ : ∃v2 : Nat,rk (Z j)=v2:=⟨_,rfl⟩
     rw [hv2] at HR2 HDz hRb
     clear hv1 hv2
     go_wp2_with fail
     refine HR2.out.mono ?_
     rintro e w5 ⟨⟨hq,rfl⟩ | ⟨_,rfl⟩,hb5⟩
     ·rw [HOs.out] at hq;cases hq
     have hb5X:=I8 hb4X hb5
     clear d0 d1 d2 d3 d4 d5 d6 HR2
     obtain ⟨d0,d1,d2,d3,d4,d5,d6,d7⟩:=HSr.out w5 hb5X
     have Hb5X:=Z5 hb5X
     obtain ⟨v3,hv3⟩ : ∃v3 : Int,(ntx : Int) - v2=v3:=⟨_,rfl⟩
     have Hv3:=Z5 hv3
     have hwv3 : IntKind.i64.wrap v3=v3:=EU _ (by omega)
     have hw1 : IntKind.i64.wrap ((ntx : Int) - r)=(ntx : Int) - r:=EU _ (by omega)
     have hw2 : IntKind.i64.wrap ((ntx : Int) - r+1)=(ntx : Int) - r+1:=EU _ (by omega)
     have hw3 : IntKind.i64.wrap ((rn : Int) - 1)=(rn : Int) - 1:=EU _ (by omega)
     have hwk : IntKind.i64.wrap (k : Int)=(k : Int):=EU _ (by omega)
     have hkI : (k : Int)<(ntx : Int):=by omega
     have hkI0 : (0 : Int)<=(k : Int):=by omega
     by_cases hd : v3<r
     ·have HR : Hid (∀V,JA w5 V->fA P M mod j ntx L SS TT w (.returned (.tuple #[.slice none 0 0,.int .i64 13])) V):=λV hV=>HRk.out V (HB1k.out (by rw [HDz.out,Hv3.out];omega)) (I8 HU1.out (I8 Hb5X.out hV))
      have g5 : decide (v3<r)=true:=by simpa using hd
      clear hd d7
      go_wp2_with fail
      go_quiet (fail)
      go_wp2_with fail
      go_ret2
      exact HR.out _ (by first | exact EI _ _ | exact (EI _ _).drew | exact Jk ⟨_,rfl⟩)
     ·have g5 : decide (v3<r)=false:=by simpa using hd
      have HB3d : Hid (ck ((ntx : Int) - r+1) ((rn : Int) - 1) ts=0->hb k=true):=λh=>HB3k.out Hq.out (by rw [HDz.out,Hv3.out];omega) h
      have HCkk : Hid (∀V,JA X V->Calls prog 59 #[.agg #[.int .i64 P,.int .i64 M,.slice am mn cm,.int .i64 j,.slice a ntx c],.int .i64 ((ntx : Int) - r+1),.int .i64 ((rn : Int) - 1),.agg #[.slice tb tn tc]] V λe w'=>e = .returned (.int .i64 (ck ((ntx : Int) - r+1) ((rn : Int) - 1) ts))/\JA V w'):=λV hV =>
       HCk.out V _ _ tb tn tc ts (I8 Hbw.out hV) (Htree.out.aa hV) htc
      obtain ⟨er,her⟩ : ∃er,ck ((ntx : Int) - r+1) ((rn : Int) - 1) ts=er:=⟨_,rfl⟩
      have HB2d:=Z5 (HB2k.out er)
      rw [her] at HCkk HB3d HB2d
      clear her hd d0 d1 d2 d3 d4 d5 d6 d7
      by_cases h0 : er=0
      ·subst h0
       have HStn : Hid (H (k+1)=true):=HStk.out (HB3d.out rfl)
       go_wp2_with fail
       go_region_held3 (λV=>V.cell? ⟨w.heap.size,0,none⟩=some (.int .i64 P)/\V.cell? ⟨w.heap.size,1,none⟩=some (.int .i64 M)/\V.cell? ⟨w.heap.size,2,none⟩=some (.slice am mn cm)/\V.cell? ⟨w.heap.size,3,none⟩=some (.int .i64 j)/\V.cell? ⟨w.heap.size,4,none⟩=some (.slice a ntx c)/\V.cell? ⟨w.heap.size+1,0,none⟩=some (.slice asx ntx csx)/\V.cell? ⟨w.heap.size+1,1,none⟩=some (.slice atx ntx ctx)/\V.cell? ⟨ah atx,aG atx+k,none⟩=some (.slice tb tn tc))
        ((refine HSr.out _ ?_;first | exact Hb5X.out.drew | exact I8 Hb5X.out hb7))
        (first
         | (go_at_call 59;((with_reducible refine (HCkk.out _ Hb5X.out.drew).mono ?_);rintro e w6 ⟨rfl,hb6⟩;have hb7 : JA w5 w6:=I8 (EI _ _).drew hb6)))
       have hbX6:=I8 Hb5X.out hb7
       have hbm : JA w1 (w6.alloc (.cells #[.int .i64 rn] 3)):=I8 (I8 Hbr.out hbX6) (aA _ _)
       have hop:=aY Hown.out (I8 hbX6 (aA w6 (.cells #[.int .i64 rn] 3)))
       have hcn:=bk w6 (.int .i64 rn) 3
       have hs8:=hbm.size
       go_wp2_with (at_builtin;refine aX rfl _ _ 22 3 rfl (.int .i64 0) 8 underlying22 bh rfl w1.heap.size a1 k c1 _ rfl hop ⟨w6.heap.size,0,none⟩ 1 (.int .i64 rn) rfl hcn rfl (by omega) (by unfold maxLen;omega) hs8 ?_;intro a5 c5 w5 hown5 hgr5 hap5)
       go_roundw
       case rel =>
        refine ⟨k+1,a5,c5,by omega,?_,rfl,by rw [HWk.out];simpa using hown5,HStn.out,Jb hbm hop hgr5 (EF _) hs8⟩
        have:=Hr.out
        congr 1
        omega
       case measure =>
        have:=Hr.out
        simp [intOf] <;> omega
      ·have HR : Hid (∀V,JA X V->fA P M mod j ntx L SS TT w (.returned (.tuple #[.slice none 0 0,.int .i64 13])) V):=λV hV=>HRk.out V (HB2d.out rfl h0) (I8 HU1.out hV)
       have g6 : (er != 0)=true:=by simpa using h0
       clear h0
       go_wp2_with fail
       go_region_held3 (λV=>V.cell? ⟨w.heap.size,0,none⟩=some (.int .i64 P)/\V.cell? ⟨w.heap.size,1,none⟩=some (.int .i64 M)/\V.cell? ⟨w.heap.size,2,none⟩=some (.slice am mn cm)/\V.cell? ⟨w.heap.size,3,none⟩=some (.int .i64 j)/\V.cell? ⟨w.heap.size,4,none⟩=some (.slice a ntx c)/\V.cell? ⟨w.heap.size+1,0,none⟩=some (.slice asx ntx csx)/\V.cell? ⟨w.heap.size+1,1,none⟩=some (.slice atx ntx ctx)/\V.cell? ⟨ah atx,aG atx+k,none⟩=some (.slice tb tn tc))
        ((refine HSr.out _ ?_;first | exact Hb5X.out.drew | exact I8 Hb5X.out hb7))
        (first
         | (go_at_call 59;((with_reducible refine (HCkk.out _ Hb5X.out.drew).mono ?_);rintro e w6 ⟨rfl,hb6⟩;have hb7 : JA w5 w6:=I8 (EI _ _).drew hb6)))
       have HF:=Z5 (HR.out w6 (I8 Hb5X.out hb7))
       go_wp2_with fail
       go_ret2
       exact HF.out
  ·obtain rfl : k=ntx:=by omega
   have g1 : decide ((k : Int)+1<=(k : Int))=false:=by simp;omega
   have HF:=Z5 (HOk.out a1 c1 wr Hk.out hown hbr)
   clear hown hbr
   go_wp2_with fail
   go_ret2
   exact HF.out
theorem Cl : jx 2 1 [] 4 bQ 1=0:=by decide +kernel
theorem CZ : tB (an 2 1 []).ops 4 bQ 1=[0,2]:=by decide +kernel
theorem sB : fF 2 1 [] 4 bQ=0:=by decide +kernel
theorem B6 : z8 (an 2 1 []).ops 4 bQ=[2,4]:=by decide +kernel
theorem C6 : p6 (gj (an 2 1 []).ops 4 bQ) 4=[0,0,1,1,2]:=by decide +kernel
theorem Cc : na [2,4] 4=0:=by decide +kernel
theorem Dm : ye [2,4] 4=[2,4]:=by decide +kernel
theorem BC : xo 2 1 [] 4 bQ [0,2,3]=0:=by decide +kernel
theorem Dz : eK (an 2 1 []) 4 bQ [0,2,3]=[[1,0,1,0]]:=by decide +kernel
theorem wT : jy (an 2 1 []).ops bQ 4 1=[0,2]:=by decide +kernel
theorem wU : jy (an 2 1 []).ops bQ 4 2=[0,1,2,3]:=by decide +kernel
theorem Bm : fW 2 1 [] 4 bQ 1 3=0:=by decide +kernel
theorem BR : i9 2 1 [] 4 bQ 1 3=(0,[[0],[1],[2],[3]]):=by rw [i9,EH Bm,CI];decide +kernel
theorem xO : pV 2 1 [] 4 bQ 0=(0,[[0,1],[1,2],[0,2]]):=by have h : jy (an 2 (1 : Int).toNat []).ops bQ (4 : Int).toNat (((0 : Nat) : Int)+1)=[0,2]:=wT;unfold pV;rw [h];exact BP
theorem xj : pV 2 1 [] 4 bQ 1=(0,[[0],[1],[2],[3]]):=by have h : jy (an 2 (1 : Int).toNat []).ops bQ (4 : Int).toNat (((1 : Nat) : Int)+1)=[0,1,2,3]:=wU;unfold pV;rw [h];exact BR
theorem B3 : kN 2 1 [] 4 bQ=0:=by unfold kN;rw [EH sB];show gu 2 1 [] 4 bQ 2=0;simp only [gu,xO,xj,if_true]
theorem Cs : mS 2 1 [] 4 bQ 2=[[0,2],[0,1,2,3]]:=by unfold mS;show [_,_]=_;exact congr (congrArg List.cons wT) (congrArg (λx=>[x]) wU)
theorem Ce : mV 2 1 [] 4 bQ 2=[[[0,1],[1,2],[0,2]],[[0],[1],[2],[3]]]:=by unfold mV;show [(pV 2 1 [] 4 bQ 0).2,(pV 2 1 [] 4 bQ 1).2]=_;rw [xO,xj]
theorem Da : vf 2 1 [] 4 bQ [[0,2],[0,1,2,3]] [[[0,1],[1,2],[0,2]],[[0],[1],[2],[3]]]=0:=by decide +kernel
theorem Df : mf [[0,2],[0,1,2,3]] 2=[2,4]:=by decide +kernel
section
variable {O : aL} {El : Int->Prop} {m : Nat} {A L : LL}
theorem yO (F : bU O El) (hA : bx El m A) (hL : bx El m L) {Z : LN} (hZ : ∀z ∈ Z,z<m) (hiff : ∀f,(∀x,x<m->El (f x))->(RS O El m A f ↔ RS O El m L f/\∀z ∈ Z,f z=0)) {z : Nat} (hz : Rk (lQ O El L.length (aQ L)) Z z) :
  ∀ {l : LN} {s : Nat},(∀y ∈ l,y<m)->Rk (lQ O El A.length (aQ A)) l s->∀ {n},Rk (lQ O El L.length (aQ L)) (l ++ Z) n->s+z=n:=by
 intro l s hl hr;have hstep : ∀ {l : LN} {x : Nat},(∀y ∈ l,y<m)->x<m->(lQ O El L.length (aQ L) (l ++ Z) x ↔ lQ O El A.length (aQ A) l x):=λ{l x} hl hx=>by
  rw [wX (m:=m) hl hx,wX (m:=m) (λy hy=>by rcases List.mem_append.1 hy with h | h;exact hl y h;exact hZ y h) hx];constructor
  ·intro hc f hf hf0;obtain ⟨g1,g2⟩:=(hiff f λx hx=>hf.el F hA hx).1 hf;refine hc f g1 λy hy=>?_;rcases List.mem_append.1 hy with h | h
   ·exact hf0 y h
   ·exact g2 y h
  ·intro hc f hf hf0;exact hc f ((hiff f λx hx=>hf.el F hL hx).2 ⟨hf,λz hz=>hf0 z (by simp [hz])⟩) λy hy=>hf0 y (by simp [hy])
 induction hr with
 | nil=>intro n hn;rw [FV] at hn;rw [hz.uniq hn];omega
 | dep x hx _ ih =>
  intro n hn
  rw [Gd] at hn
  cases hn with
  | dep _ _ h2=>exact ih (λy hy=>hl y (by simp [hy])) h2
  | ind _ h1 h2=>exact absurd ((hstep (λy hy=>hl y (by simp [hy])) (hl x (by simp))).2 hx) h1
 | ind x hx _ ih =>
  intro n hn
  rw [Gd] at hn
  cases hn with
  | dep _ h1 h2=>exact absurd ((hstep (λy hy=>hl y (by simp [hy])) (hl x (by simp))).1 h1) hx
  | ind _ _ h2=>have:=ih (λy hy=>hl y (by simp [hy])) h2;omega
end
section
variable {P M : Int} {mod : LI} {m : Nat} {L : LL}
theorem BZ (hE : aZ P M mod m L=0) (S : LI) : ((eK (an P M.toNat mod) m L S).length : Int)=nq (an P M.toNat mod).ops L m S:=by
 obtain ⟨N',em,hm1,hm64,F,hR⟩:=dk hE;obtain rfl : m=N':=by omega
 have hT:=j6 (Z:=aP false S m) F hR;have hMr:=j9 (O:=(an P M.toNat mod).ops) F hR (gw F hT);have hrk:=xH F hMr;have hin : D8 m (aP false S m):=λz hz=>by obtain ⟨i,h1,h2,_⟩:=(eo m).1 hz;omega
 have hZ : ∀z ∈ gA (aP false S m),z<m:=λx hx=>by obtain ⟨y,hy,rfl⟩:=kF.1 hx;have:=hin y hy;omega
 have hA:=(qD hE S).1;obtain ⟨n,hn⟩:=Rk.ex (lQ (an P M.toNat mod).ops (an P M.toNat mod).El L.length (aQ L)) (List.range m ++ gA (aP false S m));have hnk : L.length=n:=Rk.same (lE F hR) (yu hE) hn λx=>by rw [FH,I6];exact ⟨λh=>.inl h,λh=>by rcases h with h | h;exact h;exact hZ x h⟩
 have h:=yO F hA hR hZ (λf hf=>by
  refine (nW F hR hin hf).trans ?_;constructor
  ·rintro ⟨h1,h2⟩;refine ⟨h1,λz hz=>?_⟩;obtain ⟨y,hy,rfl⟩:=kF.1 hz;exact h2 y hy
  ·rintro ⟨h1,h2⟩;exact ⟨h1,λz hz=>h2 _ (kF.2 ⟨z,hz,rfl⟩)⟩) (kE F hR (aP false S m)) (λy hy=>List.mem_range.1 hy) hrk hn
 have h2 : (eK (an P M.toNat mod) m L S).length+lC (an P M.toNat mod).ops L (aP false S m)=n:=h;unfold nq;omega
theorem uR {SS : LL} {TT : List LL} : ∀ {n : Nat},iF P M mod m L SS TT n=true->∀k,k<n->jI P M mod m L SS TT k=true
 | 0,_,k,hk=>by omega
 | n+1,h,k,hk=>by
  rw [iF,EW] at h;by_cases e : k=n
  ·rw [e];exact h.2
  ·exact uR h.1 k (by omega)
theorem CY {SS : LL} {TT : List LL} (h : vf P M mod m L SS TT=0) : SS.length=L.length/\TT.length=L.length/\∀k,k<L.length->bI m (af SS k)=true/\(k : Int)+1<=nq (an P M.toNat mod).ops L m (af SS k) /\
  ∀T : LI,T.length<(af SS k).length->(L.length : Int) - lC (an P M.toNat mod).ops L (aP false T m)<(k : Int)+1:=by
 unfold vf at h;by_cases hE : aZ P M mod m L=0
 ·rw [EH hE] at h;by_cases h0 : SS.length=L.length/\TT.length=L.length/\iF P M mod (m : Int).toNat L SS TT L.length=true
  ·obtain ⟨h1,h2,h3⟩:=h0;rw [EM] at h3;refine ⟨h1,h2,λk hk=>?_⟩;have h4:=uR h3 k hk;unfold jI at h4;rw [EW,EW,E3,E3] at h4;obtain ⟨g1,g2,g3⟩:=h4;refine ⟨g1,g2,λT hT=>?_⟩;have h5:=Bd g3 (T:=T) (Q:=aP false T m) (by omega) (λx hx0 hxm hn=>(eo m).2 ⟨x.toNat,by omega,by omega,by rw [decide_eq_false_iff_not,show ((x.toNat : Nat) : Int)=x by omega];exact hn⟩);have h6 : (mz (an P M.toNat mod).ops L (aP false T m)).length=lC (an P M.toNat mod).ops L (aP false T m):=rfl;omega
  ·rw [EG h0] at h;exact absurd h (by decide)
 ·rw [EG hE] at h;exact absurd h hE
end
section
open Go.RowKit
end
end Go.Proofs.YtjfiflldinnhmaaGreat
