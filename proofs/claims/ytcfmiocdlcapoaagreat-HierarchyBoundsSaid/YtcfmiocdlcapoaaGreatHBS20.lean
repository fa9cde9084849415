import Derived.Test.YtcfmiocdlcapoaaGreatHBS18
import Derived.OpenShut
import Derived.ShutString
import Derived.ChangeOld
import Derived.Deep.Matrix
namespace Go.Proofs.YtcfmiocdlcapoaaGreat
set_option linter.all false
set_option maxRecDepth 100000
set_option maxHeartbeats 4000000
open Go.RowKit Tryz
theorem yD (P M : Int) (am : OA) (mn cm : Nat) (mod : Lz) (m : Nat) (a : OA) (n c : Nat) (L : ZZ) (w : World) (hmod : Ints w am mn mod) (hi : cU w a n L) (h5 : ef P M mod m L=0) (hm64 : m<=256) :
  Calls prog 77 #[.agg #[.int .i64 P,.int .i64 M,.slice am mn cm],.agg #[.int .i64 m,.slice a n c]] w (Dj (aa P M.toNat mod) L m w):=by
 have Hlen:=Z5 hi.len;obtain ⟨hfB,h8⟩:=fF h5;have F:=jy hfB;obtain ⟨m0,em0,_,hL256,hR0⟩:=jr h8;obtain rfl : m=m0:=by omega
 have hR : bx (aa P M.toNat mod).El m L:=hR0;have hn : n<=256:=by rw [<- hi.len];exact hL256
 have HR:=Z5 hR;have HF:=Z5 F;clear h5 hR0 em0 hL256;go_enter func77,ntmps77;go_wp2_with fail;obtain ⟨W,hW⟩ : ∃W : World,W=((((w.alloc (.cells #[.int .i64 P,.int .i64 M,.slice am mn cm] 24)).alloc (.cells #[.int .i64 m,.slice a n c] 82)).alloc (.cells #[.int .i64 0,.slice none 0 0] 82)).alloc (.cells #[.int .i64 m,.slice a n c] 82)):=⟨_,rfl⟩
 rw [<- hW];have hbW : Rs w W:=by rw [hW];exact ((((Mi _ _).alloc (Mf _) _).alloc (by simp) _).alloc (by simp;omega) _).alloc (by simp;omega) _
 have hsW : W.heap.size=w.heap.size+4:=by rw [hW];simp
 have q1 : W.cell? ⟨w.heap.size+1,0,none⟩=some (.int .i64 m)/\W.cell? ⟨w.heap.size+1,1,none⟩=some (.slice a n c):=by rw [hW];exact ⟨aM (aM (aE _ _ _ (by simp) 0) _) _,aM (aM (aE _ _ _ (by simp) 1) _) _⟩
 have q2 : W.cell? ⟨w.heap.size+1+1,0,none⟩=some (.int .i64 0)/\W.cell? ⟨w.heap.size+1+1,1,none⟩=some (.slice none 0 0)/\W.frozen? ⟨w.heap.size+1+1,0,none⟩=false/\W.frozen? ⟨w.heap.size+1+1,1,none⟩=false:=by rw [hW];exact ⟨aM (aE _ _ _ (by simp) 0) _,aM (aE _ _ _ (by simp) 1) _,cR (by simp) (kN _ _ _ (by simp) 0) _,cR (by simp) (kN _ _ _ (by simp) 1) _⟩
 have q3 : W.cell? ⟨w.heap.size+1+1+1,0,none⟩=some (.int .i64 m)/\W.cell? ⟨w.heap.size+1+1+1,1,none⟩=some (.slice a n c):=by rw [hW];exact ⟨aE _ _ _ (by simp) 0,aE _ _ _ (by simp) 1⟩
 have hiW:=hi.ah hbW;have hMs : uE W (some ⟨w.heap.size+1+1+1,0,none⟩) 1 [((m : Int),L)]:=⟨rfl,λ_=>rfl,by unfold maxLen;omega,λi hi=>by
  have : i=0:=by simp at hi;omega
  subst this;exact ⟨a,n,c,by simpa using q3.1,by simpa using q3.2,hiW⟩⟩
 have HsW:=Z5 hsW;clear hW hsW;refine (kH P M am mn cm mod _ 1 1 _ W (hmod.ah hbW) hMs).mono ?_;rintro e w1 ⟨hb1,hcase⟩;have hbw1:=QQ hbW hb1;have hq : ∀V,Rs W V->V.cell? ⟨w.heap.size+1,0,none⟩=some (.int .i64 m)/\V.cell? ⟨w.heap.size+1,1,none⟩=some (.slice a n c)/\V.cell? ⟨w.heap.size+1+1,0,none⟩=some (.int .i64 0)/\V.cell? ⟨w.heap.size+1+1,1,none⟩=some (.slice none 0 0)/\V.frozen? ⟨w.heap.size+1+1,0,none⟩=false/\V.frozen? ⟨w.heap.size+1+1,1,none⟩=false:=by intro V hV;have hs:=HsW.out;exact ⟨aA hV q1.1,aA hV q1.2,aA hV q2.1,aA hV q2.2.1,(hV.frozen (p:=⟨w.heap.size+1+1,0,none⟩) (by simp [hs])).trans q2.2.2.1,(hV.frozen (p:=⟨w.heap.size+1+1,1,none⟩) (by simp [hs])).trans q2.2.2.2⟩
 have Hq:=Z5 hq;clear hq q1 q2 q3;rw [jq] at hcase;rcases hcase with ⟨hB,_⟩ | ⟨_,er,h0,h1,_⟩ | ⟨_,_,b,rfl,hG,hbl⟩
 ·rw [hfB] at hB;exact absurd hB (by decide)
 ·rw [h8] at h1;exact absurd h1.symm h0
 obtain ⟨r1,r2,r3,r4,r5,r6⟩:=Hq.out w1 hb1;have HPost : Hid (∀a c w',bX w.heap.size w' a (ei (aa P M.toNat mod) L m).length (ei (aa P M.toNat mod) L m)->Rs w w'->Dj (aa P M.toNat mod) L m w (.returned (.tuple #[.agg #[.int .i64 m,.slice a (ei (aa P M.toNat mod) L m).length c],.int .i64 0])) w'):=λa c w' h1 h2=>⟨a,c,rfl,h1,h2⟩
 obtain ⟨G,hGG⟩ : ∃G,aa P M.toNat mod=G:=⟨_,rfl⟩
 have HGG:=Z5 hGG;rw [hGG] at hG HR HF HPost hR F;clear h8 hGG hfB;have Hcan:=Z5 (o8 a n c m L hG (hiW.ah hb1) hR (by omega) (by omega));have hRc : bx G.El m (eW G L m):=dH F hR;obtain ⟨hPv,hLd⟩:=db F hR;have hcl : (eW G L m).length=(ee G L m).length:=iW G L m;have HPv : Hid (l8 (eW G L m) (ee G L m) m):=hPv;have hrws : ∀k,k<=m->bx G.El m (dO G.ops m (eW G L m) (ee G L m) k):=by
  intro k;induction k with
  | zero=>intro _ r hr;simp [dO] at hr
  | succ k ih =>
   intro hk r hr
   rw [dO] at hr
   split at hr
   ·exact ih (by omega) r hr
   ·rw [M0,MK] at hr
    rcases hr with hr | rfl
    ·exact ih (by omega) r hr
    ·exact ox F hRc hPv hcl (by omega) _ (Mf _)
 have Hrws:=Z5 hrws;have hdl : ei G L m=eW G (dO G.ops m (eW G L m) (ee G L m) m) m:=rfl;have Hdl:=Z5 hdl;have Hcp : Hid (∀c,c<m->∀i,i<(ee G L m).length->G.El (nth (ai (eW G L m) i) c)):=λc hc i hi=>QV (hRc.row (by rw [hcl];exact hi)) hc;have Hrl : Hid (∀i,i<(ee G L m).length->(ai (eW G L m) i).length=m):=λi hi=>(hRc.row (by rw [hcl];exact hi)).1;clear hR F hPv hLd hrws hdl;go_wp2_with fail;refine Hcan.out.mono ?_;rintro e w2 ⟨a2,c2,ap,cp,rfl,hM2,hp2,hb2⟩;have Hkp : Hid (∀c i,dG G.ops m (eW G L m) (ee G L m) c (i+1)=(dG G.ops m (eW G L m) (ee G L m) c i).set (nth (ee G L m) i).toNat (G.neg (nth (ai (eW G L m) i) c))):=λc i=>rfl;have Hk0 : Hid (∀c,dG G.ops m (eW G L m) (ee G L m) c 0=(List.replicate m 0).set c 1):=λc=>rfl;have Hplt : Hid (∀j,j<(ee G L m).length->0<=nth (ee G L m) j/\nth (ee G L m) j<m):=HPv.out.lt;obtain ⟨R,hRR⟩ : ∃R,eW G L m=R:=⟨_,rfl⟩
 obtain ⟨Pv,hPP⟩ : ∃Pv,ee G L m=Pv:=⟨_,rfl⟩
 rw [hRR,hPP] at Hrws Hdl Hcp Hkp Hk0 Hrl;rw [hPP] at Hplt hp2 hM2 hcl;rw [hRR] at hM2 hcl;rw [hPP];clear hRR hPP HPv Hcan;obtain ⟨t,ht⟩ : ∃t,Pv.length=t:=⟨_,rfl⟩
 have Ht:=Z5 ht;rw [ht] at hM2 hp2 Hcp Hplt hcl Hrl;rw [ht];have hMM:=hM2.rC;have hII:=hp2.ints;have hplP:=hII.pl;have hplR:=hMM.pl;have hbw2:=QQ hbw1 hb2;have hb12:=QQ hb1 hb2;have hG2:=hG.ah hb2;have hmaxP:=hII.max;unfold maxLen at hmaxP;obtain ⟨z1,z2,z3,z4,z5,z6⟩:=Hq.out w2 hb12;clear ht hM2 hp2 hG r1 r2 r3 r4 r5 r6;go_wp2_with fail;go_loopw [10,37] (λov iv wr=>∃(k : Nat) (a1 : OA) (c1 : Nat),k<=m/\iv = .int .i64 k/\ov = .slice a1 (gk Pv k).length c1/\(∃Rr,aY wr w2.heap.size a1 (gk Pv k).length c1 Rr (dO G.ops m R Pv k))/\Rs w2 wr) (λ_ iv _=>m - (intOf iv).toNat);case atStart=>exact ⟨0,none,0,Mj _,rfl,rfl,⟨[],aY.JB w2 w2.heap.size⟩,Mi _ _⟩
 case round =>
  clear z1 z2 z3 z4 z5 z6
  obtain ⟨k,a1,c1,hk,rfl,rfl,⟨Rr,hO⟩,hbr⟩:=hrel
  have hnk:=Fm Pv k
  by_cases hlt : k<m
  ·have hcont:=bI ap t cp Pv k wr (hII.ah hbr)
   obtain ⟨z1,_,_,_,_,_⟩:=Hq.out wr (QQ hb12 hbr)
   by_cases hmem : (k : Int) ∈ Pv
   ·have hN : Hid (gk Pv (k+1)=gk Pv k):=by show _=_;rw [gk,Mg hmem]
    have hKk : Hid (dO G.ops m R Pv (k+1)=dO G.ops m R Pv k):=by show _=_;rw [dO,Mg hmem]
    rw [show decide ((k : Int) ∈ Pv)=true by simpa using hmem] at hcont
    have Hcont:=Z5 hcont
    clear hmem hcont
    go_wp2_with fail
    refine Hcont.out.mono ?_
    rintro e w3 ⟨rfl,rfl⟩
    go_wp2_with fail
    go_roundw
    case rel=>exact ⟨k+1,a1,c1,by omega,by go_num,by rw [hN.out],⟨Rr,by rw [hN.out,hKk.out];exact hO⟩,hbr⟩
    case measure=>simp [intOf] <;> omega
   ·have hN : Hid (gk Pv (k+1)=gk Pv k ++ [k]):=by show _=_;rw [gk,Mh hmem]
    have hKk : Hid (dO G.ops m R Pv (k+1)=dO G.ops m R Pv k ++ [dG G.ops m R Pv k t]):=by show _=_;rw [dO,Mh hmem,Ht.out]
    rw [show decide ((k : Int) ∈ Pv)=false by simpa using hmem] at hcont
    have Hcont:=Z5 hcont
    clear hmem hcont
    go_wp2_with fail
    refine Hcont.out.mono ?_
    rintro e w3 ⟨rfl,rfl⟩
    go_wp2_with (at_make;refine b9 rfl _ _ 22 3 rfl (.int .i64 0) 8 underlying22 bt rfl m rfl rfl (by omega) (by unfold maxLen;omega) ?_;intro a5 w5 hown5 hbel5 hge5 hlt5;obtain ⟨hi5,hm5⟩:=QR (l:=List.replicate m 0) (by simpa using hown5);have hc5:=hi5.cell k hlt;have hf5:=(hm5 (by omega)).2 k hlt;have hpl5:=hi5.pl)
    have hx0:=bN hown5 k hlt (.int .i64 1)
    have hx0' : (w5.setCell ⟨an a5,aP a5+k,none⟩ (.int .i64 1)).ownsRow w3.heap.size 3 1 (.slice a5 m m) m ((dG G.ops m R Pv k 0).map (Value.int .i64)):=by rw [Hk0.out,MH,NR];exact hx0
    have hbx0:=hbel5.setCell (p:=⟨an a5,aP a5+k,none⟩) (hm5 (by omega)).1 (.int .i64 1)
    clear hx0 hown5 hbel5 hge5 hlt5 hi5 hm5 hc5 hf5 z1
    go_loopw [51] (λiv wx=>∃i : Nat,i<=t/\iv = .int .i64 i/\wx.ownsRow w3.heap.size 3 1 (.slice a5 m m) m ((dG G.ops m R Pv k i).map (Value.int .i64))/\Rs w3 wx) (λiv _=>t - (intOf iv).toNat)
    case atStart=>exact ⟨0,Mj _,rfl,hx0',hbx0⟩
    case round =>
     clear hx0' hbx0
     obtain ⟨i,hi',rfl,hown,hbx⟩:=hrel
     by_cases hli : i<t
     ·have hb2x:=QQ hbr hbx
      have cpi:=(hII.ah hb2x).cell i hli
      have hpb:=Hplt.out i hli
      obtain ⟨z,hz⟩ : ∃z : Nat,nth Pv i=z:=⟨(nth Pv i).toNat,by omega⟩
      have hzm : z<m:=by omega
      obtain ⟨ra,rn,rc,hcell,hrow⟩:=(hMM.ah hb2x).cell i hli
      have hrn : rn=m:=by rw [<- hrow.len];exact Hrl.out i hli
      subst hrn
      have ck:=hrow.cell k hlt
      have hpr:=hrow.pl
      have hel:=Hcp.out k hlt i hli
      have hst : dG G.ops rn R Pv k (i+1)=(dG G.ops rn R Pv k i).set z (G.neg (nth (ai R i) k)):=by rw [Hkp.out,hz,Mm]
      have Hst:=Z5 hst
      obtain ⟨x9,hx9⟩ : ∃x,nth (ai R i) k=x:=⟨_,rfl⟩
      rw [hx9] at ck hel Hst
      have Hng:=Z5 (Jp x9 (hG2.ah hb2x) hel)
      rw [hz] at cpi
      obtain ⟨hints,hmine⟩:=QR hown
      have hpl5':=hints.pl
      have cz:=hints.cell z hzm
      have fz:=(hmine (by omega)).2 z hzm
      have hB:=(hmine (by omega)).1
      clear hz hpb hst hx9 hel
      go_wp2_with fail
      refine Hng.out.mono ?_
      rintro e w6 ⟨nd,rfl,rfl⟩
      go_wp2_with fail
      go_roundw
      case rel =>
       have h:=bN (w:=wr.drewN nd) hown z hzm (.int .i64 (G.neg x9))
       rw [<- MH,<- Hst.out] at h
       exact ⟨i+1,by omega,by go_num,h,(below_drewN hbx nd).setCell hB _⟩
      case measure=>simp [intOf] <;> omega
     ·obtain rfl : i=t:=by omega
      obtain ⟨X,hX⟩ : ∃X,dG G.ops m R Pv k i=X:=⟨_,rfl⟩
      have hXl : X.length=m:=by rw [<- hX];exact iz _ _ _ _ _ _
      rw [hX] at hown hKk
      have HXl:=Z5 hXl
      have hO3:=hO.ah (QQ hbx (aB wr (.cells #[.slice a5 m m] 22)))
      have hsz:=hbr.size
      have hsx:=hbx.size
      have hs3 : w2.heap.size<=(wr.alloc (.cells #[.slice a5 m m] 22)).heap.size:=by simp;omega
      have hcn:=bm wr (.slice a5 m m) 22
      clear hX hXl
      go_wp2_with (at_builtin;refine bj rfl _ _ 25 22 rfl (.slice none 0 0) 24 underlying25 fg rfl w2.heap.size a1 (gk Pv k).length c1 _ rfl hO3.own ⟨wr.heap.size,0,none⟩ 1 (.slice a5 m m) rfl hcn rfl (by omega) (by unfold maxLen;omega) hs3 ?_;intro a7 c7 w7 hown7 hgr7 hap7)
      go_roundw
      case rel =>
       have hb4 : Rs w3 (wr.alloc (.cells #[.slice a5 m m] 22)):=QQ hbx (aB _ _)
       have hown4 : (wr.alloc (.cells #[.slice a5 m m] 22)).ownsRow w2.heap.size 3 1 (.slice a5 X.length m) X.length (X.map (Value.int .i64)):=by rw [HXl.out];exact bg (ba hown (aB _ _)) hsz
       have hra : a5 ≠ none->¬ bS a1 Rr (an a5):=λh0 hI=>by have h1:=(aZ hown h0).1;have h2:=(hO.lt _ hI).2;omega
       have hP:=Re hO3 hown4 hra (by rw [HXl.out];exact hown7) hgr7 hap7
       have hb5 : Rs w2 w7:=QT (QQ hbr hb4) hO3.own hgr7 (Mf _) (Mt hsz hb4.size)
       exact ⟨k+1,a7,c7,by omega,by go_num,by rw [hN.out];simp,⟨_,by rw [hN.out,hKk.out,Mp];exact hP⟩,hb5⟩
      case measure=>simp [intOf] <;> omega
  ·obtain rfl : k=m:=by omega
   have hbw:=QQ hbw2 hbr
   have hcan:=o8 a1 (gk Pv k).length c1 k (dO G.ops k R Pv k) (hG2.ah hbr) hO.rC (Hrws.out k (Mf _)) (by omega) (by omega)
   have Hcan:=Z5 hcan
   obtain ⟨z1,z2,z3,z4,z5,z6⟩:=Hq.out wr (QQ hb12 hbr)
   clear hcan hO
   go_wp2_with fail
   refine Hcan.out.mono ?_
   rintro e w8 ⟨a8,c8,ap8,cp8,rfl,hM8,hp8,hb8⟩
   have hlen8 : (ee G (dO G.ops k R Pv k) k).length=(ei G L k).length:=by rw [Hdl.out,iW]
   have hM8' : bX wr.heap.size w8 a8 (ei G L k).length (ei G L k):=by rw [<- hlen8,Hdl.out];exact hM8
   rw [hlen8]
   have hbw8:=QQ hbw hb8
   have hF:=HPost.out a8 c8 ((w8.setCell ⟨w.heap.size+1+1,0,none⟩ (.int .i64 k)).setCell ⟨w.heap.size+1+1,1,none⟩ (.slice a8 (ei G L k).length c8)) (by have hs:=HsW.out;have hs1:=(QQ hb12 hbr).size;exact ((hM8'.setCell (p:=⟨w.heap.size+1+1,0,none⟩) (by simp;omega) _).setCell (p:=⟨w.heap.size+1+1,1,none⟩) (by simp;omega) _).mono (by omega)) ((hbw8.setCell (by simp;omega) _).setCell (by simp;omega) _)
   have HF2:=Z5 hF
   clear hF hM8 hp8 hM8' Hcan z1 z2 z3 z4 z5 z6 hlen8
   obtain ⟨z1,z2,z3,z4,z5,z6⟩:=Hq.out w8 (QQ (QQ hb12 hbr) hb8)
   generalize (ei G L k).length=q at *
   go_wp2_with fail
   exact bodyPost_ret (v:=.tuple #[.agg #[.int .i64 k,.slice a8 q c8],.int .i64 0]) (by simp [results,results77,go_sem,z3,z4]) rfl (by rw [HGG.out];exact HF2.out)
def Kj (K : Int) (Q : Lz) (W : Int) : Bool:=decide (0<=K) && decide (K<=64) && decide (0<=W) && decide (W<=K) && decide (Q.length<=64)
def fU (K W : Int) (Q : Lz) : Nat->Int
 | 0=>0
 | k+1=>fU K W Q k+max 0 (W+1 - (K - nth Q k))
def Di (K : Int) (x : Int) : Bool:=decide (0<=x) && decide (x<=K)
def CG (K : Int) (Q : Lz) (W : Int) : Int × Int:=if Kj K Q W=true/\Q.all (Di K)=true then (fU K W Q Q.length,0) else (0,6)
theorem Dn {K W : Int} {Q : Lz} (hK : 0<=K/\K<=64) (hW : 0<=W/\W<=K) (hQ : Q.all (Di K)=true) : ∀k,k<=Q.length->0<=fU K W Q k/\fU K W Q k<=200 * k
 | 0,_=>by simp [fU]
 | k+1,h=>by have ih:=Dn hK hW hQ k (by omega);have hq:=List.all_eq_true.1 hQ _ (aN (i:=k) (by omega));unfold Di at hq;simp only [MC,MG] at hq;rw [fU];omega
theorem EG (K : Int) (a : OA) (n c : Nat) (Q : Lz) (X : Int) (w : World) (hi : Ints w a n Q) :
  Calls prog 102 #[.int .i64 K,.slice a n c,.int .i64 X] w λe w'=>e = .returned (.tuple #[.int .i64 (CG K Q X).1,.int .i64 (CG K Q X).2])/\w'=w:=by
 have Hl:=Z5 hi.len;have hpl:=hi.pl;have hmax:=hi.max;unfold maxLen at hmax;go_enter func102,ntmps102;go_upto_region 1 with fail;have bad : Kj K Q X=false->CG K Q X=(0,6):=λh=>by rw [CG,Mh (by rw [h];simp)]
 have Hbad:=Z5 bad;clear bad;have hfl : Kj K Q X=(decide (0<=K) && decide (K<=64) && decide (0<=X) && decide (X<=K) && decide (n<=64)):=by rw [Kj,Hl.out]
 by_cases h1 : K<0
 ·have d1 : decide (K<0)=true:=by simpa using h1
  have HV:=Z5 (Hbad.out (by rw [hfl];simp;omega));clear h1 hfl;go_wp2_with fail;go_ret2;exact ⟨by rw [HV.out];rfl,rfl⟩
 have d1 : decide (K<0)=false:=by simpa using h1
 by_cases h2 : 64<K
 ·have d2 : decide (64<K)=true:=by simpa using h2
  have HV:=Z5 (Hbad.out (by rw [hfl];simp;omega));clear h1 h2 hfl;go_wp2_with fail;go_ret2;exact ⟨by rw [HV.out];rfl,rfl⟩
 have d2 : decide (64<K)=false:=by simpa using h2
 by_cases h3 : X<0
 ·have d3 : decide (X<0)=true:=by simpa using h3
  have HV:=Z5 (Hbad.out (by rw [hfl];simp;omega));clear h1 h2 h3 hfl;go_wp2_with fail;go_ret2;exact ⟨by rw [HV.out];rfl,rfl⟩
 have d3 : decide (X<0)=false:=by simpa using h3
 by_cases h4 : K<X
 ·have d4 : decide (K<X)=true:=by simpa using h4
  have HV:=Z5 (Hbad.out (by rw [hfl];simp;omega));clear h1 h2 h3 h4 hfl;go_wp2_with fail;go_ret2;exact ⟨by rw [HV.out];rfl,rfl⟩
 have d4 : decide (K<X)=false:=by simpa using h4
 by_cases h5 : 64<n
 ·have d5 : decide ((64 : Int)<n)=true:=by simp;omega
  have HV:=Z5 (Hbad.out (by rw [hfl];simp;omega));clear h1 h2 h3 h4 h5 hfl;go_wp2_with fail;go_ret2;exact ⟨by rw [HV.out];rfl,rfl⟩
 have d5 : decide ((64 : Int)<n)=false:=by simp;omega
 have HB : Hid (Kj K Q X=true):=by show _=_;rw [hfl];simp;omega
 have HV2 : Hid (CG K Q X=if Q.all (Di K)=true then (fU K X Q n,0) else (0,6)):=by show _=_;rw [CG,HB.out,Hl.out];simp
 clear hfl;go_wp2_with fail;go_loop [8,33] (λsv iv=>∃k : Nat,k<=n/\iv = .int .i64 k/\sv = .int .i64 (fU K X Q k)/\Hid (∀j,j<k->Di K (nth Q j)=true)) (λ_ iv=>n - (intOf iv).toNat);case atStart=>exact ⟨0,Mj _,rfl,rfl,λj hj=>by omega⟩
 case round =>
  obtain ⟨k,hk,rfl,rfl,hall⟩:=hrel
  have hbd : 0<=fU K X Q k/\fU K X Q k<=200 * k:=by
   have h:=Dn (K:=K) (W:=X) (Q:=Q.take k) (by omega) (by omega) (by rw [MX];intro x hx;obtain ⟨j,hj,rfl⟩:=List.mem_iff_getElem.1 hx;rw [MJ] at hj;have:=hall.out j (by omega);rwa [OQ,<- aj (by omega)]) k (by rw [MJ];have:=Hl.out;omega);have he : ∀j,j<=k->fU K X (Q.take k) j=fU K X Q j:=λj=>by
    induction j with
    | zero=>intro _;rfl
    | succ j ih =>
     intro hj
     have e : nth (Q.take k) j=nth Q j:=by unfold nth;simp only [Mk,Nj];rw [Mg (by omega)]
     rw [fU,fU,ih (by omega),e]
   rwa [he k (Mf _)] at h
  by_cases hlt : k<n
  ·have ck:=hi.cell k hlt
   have Hst : Hid (fU K X Q (k+1)=fU K X Q k+max 0 (X+1 - (K - nth Q k))):=rfl
   have Hx : Hid (∀y,nth Q k=y->Di K y=true->∀j,j<k+1->Di K (nth Q j)=true):=λy hy h j hj=>by
    by_cases e : j=k
    ·subst e;rw [hy];exact h
    ·exact hall.out j (by omega)
   have Hno : Hid (Di K (nth Q k)=false->CG K Q X=(0,6)):=λh=>by rw [HV2.out,Mh];intro h2;have:=List.all_eq_true.1 h2 _ (aN (i:=k) (by rw [Hl.out];exact hlt));rw [h] at this;exact absurd this (by decide)
   obtain ⟨y,hy⟩ : ∃y,nth Q k=y:=⟨_,rfl⟩
   have Hx2:=λh=>Hx.out y hy h
   rw [hy] at ck Hno Hst
   clear hy Hx
   by_cases q1 : y<0
   ·have e1 : decide (y<0)=true:=by simpa using q1
    have HV:=Z5 (Hno.out (by unfold Di;simp;omega))
    clear q1 Hx2 hbd
    go_wp2_with fail
    go_ret2
    exact ⟨by rw [HV.out];rfl,rfl⟩
   have e1 : decide (y<0)=false:=by simpa using q1
   by_cases q2 : K<y
   ·have e2 : decide (K<y)=true:=by simpa using q2
    have HV:=Z5 (Hno.out (by unfold Di;simp;omega))
    clear q1 q2 Hx2 hbd
    go_wp2_with fail
    go_ret2
    exact ⟨by rw [HV.out];rfl,rfl⟩
   have e2 : decide (K<y)=false:=by simpa using q2
   have Hx3:=Z5 (Hx2 (by unfold Di;simp;omega))
   clear Hx2
   have k1 : IntKind.i64.wrap (X+1)=X+1:=Mq _ (by omega)
   have k2 : IntKind.i64.wrap (K - y)=K - y:=Mq _ (by omega)
   have k3 : IntKind.i64.wrap (X+1 - (K - y))=X+1 - (K - y):=Mq _ (by omega)
   have k4 : IntKind.i64.wrap (fU K X Q k+max 0 (X+1 - (K - y)))=fU K X Q k+max 0 (X+1 - (K - y)):=Mq _ (by omega)
   rw [<- B9] at k4
   rw [<- B9] at Hst
   clear hbd
   generalize fU K X Q k=t at *
   go_wp2_with fail
   go_round
   case rel=>exact ⟨k+1,by omega,by go_num,by first | (rw [Hst.out,show (if K - y<X+1 then X+1 - (K - y) else 0)=(if 0<X+1 - (K - y) then X+1 - (K - y) else 0) from by split <;> split <;> omega];exact congrArg (Value.int .i64) ((PH _).symm.trans k4)) | (rw [Hst.out,<- B9];exact congrArg (Value.int .i64) ((PH _).symm.trans k4)) | (rw [Hst.out,show max 0 (X+1 - (K - y))=(if 0<X+1 - (K - y) then X+1 - (K - y) else 0) from by omega];exact congrArg (Value.int .i64) ((PH _).symm.trans k4)),Hx3.out⟩
   case measure=>simp [intOf] <;> omega
  ·obtain rfl : k=n:=by omega
   have HV : Hid (CG K Q X=(fU K X Q k,0)):=by show _=_;rw [HV2.out,Mg];rw [MX];intro x hx;obtain ⟨j,hj,rfl⟩:=List.mem_iff_getElem.1 hx;have:=hall.out j (by have:=Hl.out;omega);rwa [aj hj] at this
   clear hbd
   go_wp2_with fail
   go_ret2
   exact ⟨by rw [HV.out];rfl,rfl⟩
def lX (w : World) (e : Ending) (w' : World) : Prop:=∃z,e = .returned (.bool z)/\Rs w w'
theorem Es (a : OA) (n c K : Nat) (L : ZZ) (w : World) (hi : cU w a n L) (hK : K<=100000) :
  Calls prog 63 #[.agg #[.int .i64 0,.slice a n c],.int .i64 K] w (lX w):=by
 have Hlen:=Z5 hi.len;have hpl:=hi.pl;have hmax:=hi.max;unfold maxLen at hmax;go_enter func63,ntmps63;go_upto_region 1 with fail;obtain ⟨W,hW⟩ : ∃W : World,W=w.alloc (.cells #[.int .i64 0,.slice a n c] 82):=⟨_,rfl⟩
 rw [<- hW];have hbW : Rs w W:=by rw [hW];exact aB _ _
 have x0 : bf W w.heap.size [.int .i64 0,.slice a n c]:=by rw [hW];exact QS _ _ _ rfl
 have c0:=x0.cell 0 rfl;have c1:=x0.cell 1 rfl;have hiW:=hi.ah hbW;have HbW:=Z5 hbW;clear hW x0 hi hbW;by_cases h1 : K<n
 ·have d1 : decide (K<n)=true:=by simpa using h1
  have d1' : decide ((K : Int)<n)=true:=by simp;omega
  go_wp2_with fail;go_ret;exact ⟨_,rfl,HbW.out⟩
 ·have d1 : decide (K<n)=false:=by simpa using h1
  have d1' : decide ((K : Int)<n)=false:=by simp;omega
  go_wp2_with fail;go_loopw [5,6] (λlv iv wr=>∃k m : Nat,k<=n/\m<=K/\lv = .int .i64 m/\iv = .int .i64 k/\wr=W) (λ_ iv _=>n - (intOf iv).toNat);case atStart=>exact ⟨0,K - n,Mj _,by omega,by go_num,rfl,rfl⟩
  case round =>
   obtain ⟨k,m,hk,hm,rfl,rfl,rfl⟩:=hrel
   by_cases hlt : k<n
   ·obtain ⟨ra,rn,rc,hcell,hrow⟩:=hiW.cell k hlt
    by_cases h2 : m<rn
    ·have d2 : decide (m<rn)=true:=by simpa using h2
     have d2' : decide ((m : Int)<rn)=true:=by simp;omega
     go_wp2_with fail
     go_ret
     exact ⟨_,rfl,HbW.out⟩
    ·have d2 : decide (m<rn)=false:=by simpa using h2
     have d2' : decide ((m : Int)<rn)=false:=by simp;omega
     have d3 : (rn : Int)<=m:=by omega
     go_wp2_with fail
     go_roundw
     case rel=>exact ⟨k+1,m - rn,by omega,by omega,by go_num,by go_num,by first | rfl | trivial⟩
     case measure=>simp [intOf] <;> omega
   ·obtain rfl : k=n:=by omega
    go_wp2_with fail
    go_ret
    exact ⟨_,rfl,HbW.out⟩
theorem Ce (P M : Int) (am : OA) (mn cm : Nat) (N : Int) (a : OA) (n c K : Nat) (L : ZZ) (w : World) (hi : cU w a n L) (hK : K<=100000) :
  Calls prog 28 #[.agg #[.int .i64 P,.int .i64 M,.slice am mn cm,.int .i64 N,.slice a n c],.int .i64 K] w (lX w):=by have H:=Z5 (λV hV=>Es a n c K L V (hi.ah hV) hK : ∀V,Rs w V->_);clear hi;go_enter func28,ntmps28;go_wp2_with fail;have hbW:=aB w (.cells #[.int .i64 P,.int .i64 M,.slice am mn cm,.int .i64 N,.slice a n c] 27);refine (H.out _ hbW).mono ?_;rintro e w1 ⟨z,rfl,hb1⟩;have hF:=QQ hbW hb1;go_wp2_with fail;go_ret;exact ⟨z,rfl,hF⟩
theorem zp (x : Int) (w : World) (hx : 0<=x) : Calls prog 225 #[.int .i64 x] w λe w'=>e = .returned (.bool false)/\w=w':=by have d1 : decide (x<0)=false:=M1 (by omega);go_enter func225,ntmps225;go_wp2;go_ret;exact ⟨by first | rfl | simp [d1],rfl⟩
theorem BD (a : OA) (n c : Nat) (l : Lz) (w : World) (hi : Ints w a n l) (hf : ∀k,k<n->Calls prog 225 #[.int .i64 (nth l k)] w λe w'=>e = .returned (.bool false)/\w=w') :
  Calls prog 97 #[.slice a n c,.func (.func 225) #[] #[]] w λe w'=>e = .returned (.int .i64 (-1))/\w=w':=by
 have hpl:=hi.pl;have hmax:=hi.max;have HF:=Z5 hf;unfold maxLen at hmax;clear hf;go_enter func97,ntmps97;go_wp2_with fail;go_loop [8] (λiv=>∃k : Nat,k<=n/\iv = .int .i64 k) (λiv=>n - (intOf iv).toNat);case atStart=>exact ⟨0,Mj _,rfl⟩
 case round =>
  obtain ⟨k,hk,rfl⟩:=hrel
  by_cases hlt : k<n
  ·have ck:=hi.cell k hlt
   have Hk:=Z5 (HF.out k hlt)
   go_wp2_with fail
   refine Hk.out.mono ?_
   rintro e w' ⟨rfl,rfl⟩
   go_wp2_with fail
   go_round
   case rel=>exact ⟨k+1,by omega,by go_num⟩
   case measure=>simp [intOf] <;> omega
  ·obtain rfl : k=n:=by omega
   go_wp2_with fail
   go_ret
   exact ⟨rfl,rfl⟩
theorem um (a : OA) (n c : Nat) (l : Lz) (w : World) (hi : Ints w a n l) (hf : ∀k,k<n->Calls prog 225 #[.int .i64 (nth l k)] w λe w'=>e = .returned (.bool false)/\w=w') :
  Calls prog 136 #[.slice a n c,.func (.func 225) #[] #[]] w λe w'=>e = .returned (.bool false)/\w=w':=by have Hc:=Z5 (BD a n c l w hi hf);clear hf;go_enter func136,ntmps136;go_wp2_with fail;refine Hc.out.mono ?_;rintro e w' ⟨rfl,rfl⟩;go_wp2_with fail;go_ret;exact ⟨rfl,rfl⟩
theorem AJ (most : Int) (a : OA) (n c : Nat) (l : Lz) (w : World) (hm : 0<=most/\most<=65536) (hi : Ints w a n l) (hl : ∀x ∈ l,1<=x/\x<=65536) :
  Calls prog 170 #[.int .i64 most,.slice a n c] w λe w'=>e = .returned (.tuple #[.int .i64 (EM most l),.int .i64 (Bz most l)])/\w=w':=by
 have hlen:=hi.len;have hpl:=hi.pl;have hmax:=hi.max;unfold maxLen at hmax;have hx1 : ∀k,k<n->1<=nth l k/\nth l k<=65536:=λk hk=>hl _ (aN (by omega));have Hx1:=Z5 hx1;have H1:=Z5 (λx hx=>(hl x hx).1);have Hlen:=Z5 hlen;have hc0:=um a n c l w hi λk hk=>zp (nth l k) w (by have:=hx1 k hk;omega);have hc1:=bI a n c l 0 w hi;have hno : decide ((0 : Int) ∈ l)=false:=M1 λh=>by have:=(hl _ h).1;omega
 rw [hno] at hc1;have Hc0:=Z5 hc0;have Hc1:=Z5 hc1;have Hb : Hid (∀k,k<=n->most<dh l k->EM most l=0/\Bz most l=8):=λk hk hb=>by have h1:=qF H1.out k (n - k) (by omega);rw [show k+(n - k)=l.length by omega] at h1;unfold EM Bz;rw [Mh (by omega),Mh (by omega)];exact ⟨rfl,rfl⟩
 have Hg : Hid (dh l n<=most->EM most l=dh l n/\Bz most l=0):=λh=>by unfold EM Bz;rw [hlen,Mg h,Mg h];exact ⟨rfl,rfl⟩
 have dm : decide (most<0)=false:=M1 (by omega);clear hx1 hl hc0 hc1 hno hlen;go_enter func170,ntmps170;go_wp2_with fail;refine Hc0.out.mono ?_;rintro e w' ⟨rfl,rfl⟩;go_wp2_with fail;refine Hc1.out.mono ?_;rintro e w' ⟨rfl,hw'⟩;obtain rfl:=hw'.symm;go_wp2_with fail;go_loop [6,19] (λov iv=>∃k : Nat,k<=n/\iv = .int .i64 k/\ov = .int .i64 (dh l k)/\1<=dh l k/\dh l k<=65536) (λ_ iv=>n - (intOf iv).toNat);case atStart=>exact ⟨0,Mj _,rfl,rfl,by simp [dh],by simp [dh]⟩
 case round =>
  obtain ⟨k,hk,rfl,rfl,hp1,hp2⟩:=hrel
  by_cases hlt : k<n
  ·have ck:=hi.cell k hlt
   have hx:=Hx1.out k hlt
   have Hst : Hid (dh l (k+1)=dh l k * nth l k):=rfl
   obtain ⟨o,ho⟩ : ∃o,dh l k=o:=⟨_,rfl⟩
   obtain ⟨x,hxe⟩ : ∃x,nth l k=x:=⟨_,rfl⟩
   rw [ho] at hp1 hp2 Hst ⊢
   rw [hxe] at hx Hst ck
   have hdv:=div_lt_iff (most:=most) (x:=x) (o:=o) hx.1 (by omega) hm.1
   have htd : most.tdiv x=most / x:=Om hm.1
   obtain ⟨Q,hQ⟩ : ∃Q,most / x=Q:=⟨_,rfl⟩
   obtain ⟨P2,hP2⟩ : ∃P2,o * x=P2:=⟨_,rfl⟩
   have hQ2 : 0<=Q/\Q<=65536:=by rw [<- hQ];have h1:=NG (a:=most) x hm.1;have h2:=ND hm.1 (show 0<=x by omega);omega
   have hx0 : x ≠ 0:=by omega
   have hxb : (x == 0)=false:=by simpa using hx0
   rw [hQ] at htd
   rw [htd,hP2] at hdv
   rw [hP2] at Hst
   have kQ : wrap64 Q=Q:=K0 hQ2.1 (by omega)
   clear ho hxe
   by_cases hbig : Q<o
   ·have d1 : decide (Q<o)=true:=MO hbig
    have HB:=Z5 (Hb.out (k+1) (by omega) (by rw [Hst.out];exact hdv.1 hbig))
    clear hdv hP2 hbig
    go_wp2_with fail
    go_ret2
    exact ⟨gY HB.out.1.symm HB.out.2.symm,rfl⟩
   ·have d1 : decide (Q<o)=false:=M1 hbig
    have hP3 : P2<=most:=Int.not_lt.1 λh=>hbig (hdv.2 h)
    have hP4 : 1<=P2:=by have:=Nh hp1 hx.1 (by omega) (by omega);omega
    have kP : wrap64 P2=P2:=K0 (by omega) (by omega)
    clear hdv hbig
    go_wp2_with fail
    go_round
    case rel=>exact ⟨k+1,by omega,by go_num,by rw [Hst.out],by rw [Hst.out];exact hP4,by rw [Hst.out];omega⟩
    case measure=>simp [intOf] <;> omega
  ·obtain rfl : k=n:=by omega
   by_cases hbig : most<dh l k
   ·have HB:=Z5 (Hb.out k (Mf _) hbig)
    obtain ⟨o,ho⟩ : ∃o,dh l k=o:=⟨_,rfl⟩
    rw [ho] at hbig ⊢
    have d1 : decide (most<o)=true:=MO hbig
    clear ho hbig
    go_wp2_with fail
    go_ret2
    exact ⟨gY HB.out.1.symm HB.out.2.symm,rfl⟩
   ·have HB:=Z5 (Hg.out (by omega))
    obtain ⟨o,ho⟩ : ∃o,dh l k=o:=⟨_,rfl⟩
    rw [ho] at hbig HB ⊢
    have d1 : decide (most<o)=false:=M1 hbig
    clear ho hbig
    go_wp2_with fail
    go_ret2
    exact ⟨gY HB.out.1.symm HB.out.2.symm,rfl⟩
theorem GK (n : Nat) (w : World) (hn : n<=1000000) :
  Calls prog 148 #[.int .i64 1,.int .i64 n,.int .i64 65536] w λe w'=>e = .returned (.tuple #[.int .i64 1,.int .i64 0])/\w=w':=by
 go_enter func148,ntmps148;go_wp2_with fail;go_loop [1,8] (λnv qv=>nv = .int .i64 (n : Int)/\qv = .int .i64 1) (λi _=>(intOf i).toNat);case atStart=>exact ⟨rfl,rfl⟩
 case round =>
  obtain ⟨rfl,rfl⟩:=hrel
  by_cases h0 : 0<n
  ·have d1 : decide (0<n)=true:=MO h0
   go_wp2_with fail
   go_ret2
   first | exact ⟨rfl,rfl⟩ | rfl
  ·have d1 : decide (0<n)=false:=M1 h0
   go_wp2_with fail
   go_ret2
   first | exact ⟨rfl,rfl⟩ | rfl
theorem Is (q : Nat) (n : Nat) (w : World) (h1 : 1<=q) (h256 : q<=256) (hn : n<=1000000) :
  Calls prog 148 #[.int .i64 q,.int .i64 n,.int .i64 65536] w λe w'=>e = .returned (.tuple #[.int .i64 (qO q n),.int .i64 (pS q n)])/\w=w':=by
 by_cases h : q=1
 ·subst h;have e1 : qO ((1 : Nat) : Int) n=1:=by simp [qO,Int.one_pow]
  have e2 : pS ((1 : Nat) : Int) n=0:=by simp [pS,Int.one_pow]
  rw [e1,e2];exact GK n w hn
 ·exact I6 q n w (by omega) (by omega) hn
structure K8 (w : World) (a : OA) (n : Nat) (T : List (Lz × Int)) : Prop where
 len : T.length=n
 pl : Pl a n
 max : n<=maxLen
 cell : ∀i (h : i<T.length),∃sa sc,w.cell? ⟨an a,aP a+i * 2,none⟩=some (.slice sa T[i].1.length sc)/\w.cell? ⟨an a,aP a+i * 2+1,none⟩=some (.int .i64 T[i].2)/\Ints w sa T[i].1.length T[i].1
theorem K8.ah {w w' : World} {a : OA} {n : Nat} {T : List (Lz × Int)} (h : K8 w a n T) (hb : Rs w w') : K8 w' a n T :=
 ⟨h.len,h.pl,h.max,λi hi=>by obtain ⟨sa,sc,h1,h2,h3⟩:=h.cell i hi;exact ⟨sa,sc,aA hb h1,aA hb h2,h3.ah hb⟩⟩
theorem Ff : ∀(R : Z4) (T : List (Lz × Int)),R.length=T.length->∀i (h : i<T.length) (h2 : i<R.length),(GX R T)[i * 2]? = some (.slice (R[i]).1 (T[i]).1.length (R[i]).2)/\(GX R T)[i * 2+1]? = some (.int .i64 (T[i]).2)
 | [],[],_,i,h,_=>by simp at h
 | [],_ :: _,h,_,_,_=>by simp at h
 | _ :: _,[],h,_,_,_=>by simp at h
 | r :: R,t :: T,h,0,_,_=>by simp [GX]
 | r :: R,t :: T,h,i+1,hi,hi2=>by have:=Ff R T (by simpa using h) i (by simpa using hi) (by simpa using hi2);rw [GX,show (i+1) * 2=i * 2+1+1 by omega];simpa using this
theorem ua.str {w : World} {B : Nat} {a : OA} {k c : Nat} {R : Z4} {T : List (Lz × Int)} (h : ua w B a k c R T) : K8 w a k T:=by
 have hRT : R.length=T.length:=by rw [h.rl,h.tl]
 rcases h.own.2 with ⟨hv,h0⟩ | ⟨g,cap,cur,hv,hg,hh,hn,hm,hs,ht⟩
 ·cases hv
  have hT : T=[]:=MF h.tl;subst hT;exact ⟨rfl,λh=>by omega,by unfold maxLen;omega,λi hi=>by simp at hi⟩
 ·cases hv
  refine ⟨h.tl,λ_=>rfl,by omega,λi hi=>?_⟩;have hi2 : i<R.length:=by omega
  obtain ⟨e1,e2⟩:=Ff R T hRT i hi hi2;have hc:=World.ownsRow.cells h.own (g:=g) rfl;have h3:=h.row (R[i],T[i]) (List.mem_iff_getElem.2 ⟨i,by simp;omega,by simp⟩);have c1:=hc _ _ e1;have c2:=hc _ _ e2;rw [Qm] at c1 c2;refine ⟨(R[i]).1,(R[i]).2,?_,?_,h3.1⟩
  ·simpa [an,aP] using c1
  ·simpa [an,aP] using c2
section
open Go.ChangeShapes Go.WideShapes Go.ChangeAt Go.RowKit
theorem Tryz.own : ownKnob prog.godebug=none:=by kernel_rfl
theorem Tryz.laid : laidOutB prog=true:=by kernel_rfl
section
variable {H : Type} {enc : TypeId × Value->H} {W : World} {held : Bool} {fuel : Nat} {cs : List Value} {x : DataW H × List MemPlace}
theorem sZ {a : Addr} {v : Value} {i : Nat} (h : W.cell? (a.add i)=some v) : W.cell? ⟨a.block,a.off+i,none⟩=some v:=by
 have hs:=QB h;obtain ⟨b,o,s⟩:=a;by_cases h0 : i=0
 ·subst h0;simp only [Addr.add,if_true] at hs h;subst hs;exact h
 ·simpa [Addr.add,h0] using h
theorem rE {a : Addr} {v : Value} (h : W.cell? (a.add 0)=some v) : a=⟨a.block,a.off,none⟩:=by have hs:=QB h;obtain ⟨b,o,s⟩:=a;simp only [Addr.add,if_true] at hs;subst hs;rfl
theorem mV (l : Lz) (n i : Nat) (h : i<n) : nth (l.take n) i=l.getD i 0:=by unfold nth;simp only [Mk,Nj];rw [Mg h]
theorem zT (h : DataW.trod enc prog W 0 (λ_=>true) held fuel 22 cs=some x) : ∃a n c l,cs=[.slice a n c]/\Ints W a n l:=by
 rcases open_ints underlying22 underlying3 (by kernel_rfl) h with ⟨hcs,_⟩ | ⟨a,len,cap,zs,hcs,_,hl,hm,hz,_,hcell,_⟩
 ·exact ⟨none,0,0,[],hcs,QX _ _⟩
 ·simp only [if_true] at hz;refine ⟨some a,len,cap,zs.take len,hcs,⟨by simp;omega,λh0=>?_,by omega,λi hi=>?_⟩⟩
  ·exact congrArg some (rE (hcell 0 (by omega)))
  ·rw [mV _ _ _ hi];exact sZ (hcell i (by omega))
theorem Cq (h : DataW.trod enc prog W 0 (λ_=>true) held fuel 25 cs=some x) : ∃a n c L,cs=[.slice a n c]/\cU W a n L:=by
 rcases Go.Deep.open_int_rows underlying25 underlying22 underlying3 (by kernel_rfl) (by kernel_rfl) h with ⟨hcs,_⟩ | ⟨a,len,cap,A,Ln,C,Z,hcs,_,hl,hm,_,hrows⟩
 ·exact ⟨none,0,0,[],hcs,⟨rfl,λh0=>by omega,by unfold maxLen;omega,λi hi=>by omega⟩⟩
 ·refine ⟨some a,len,cap,(List.range len).map (λr=>(Z r).take (Ln r)),hcs,⟨by simp,λh0=>congrArg some (rE (hrows 0 (by omega)).1),by omega,λr hr=>?_⟩⟩;obtain ⟨h1,h2,h3,h4,_,h5,h6⟩:=hrows r (by omega);refine ⟨A r,Ln r,C r,sZ h1,?_⟩;have e : ai ((List.range len).map (λr=>(Z r).take (Ln r))) r=(Z r).take (Ln r):=by unfold ai;simp [Mk,NV,List.getElem?_range hr]
  rw [e];match hA : A r,h5,h6 with
  | none,h5,_ =>
   have h0 : Ln r=0:=by have:=h5 rfl;omega
   rw [h0]
   exact QX _ _
  | some b,_,h6 =>
   obtain ⟨_,h7⟩:=h6 b rfl
   exact ⟨by simp;omega,λh0=>congrArg some (rE (h7 0 (by omega))),by omega,λi hi=>by rw [mV _ _ _ hi];exact sZ (h7 i (by omega))⟩
end
section
variable {H : Type} {enc : TypeId × Value->H} {W : World} {held : Bool} {b0 : Nat} {v : Value} {d : DataW H} {p : List MemPlace}
theorem HZ (hv : Value.okWide prog W .any b0 27 v) (h : DataW.Trod enc prog W 0 (λ_=>true) held 27 v d p) :
  ∃(P M : Int) (am : OA) (mn cm : Nat) (mod : Lz) (N : Int) (a : OA) (n c : Nat) (L : ZZ),v = .agg #[.int .i64 P,.int .i64 M,.slice am mn cm,.int .i64 N,.slice a n c]/\Ints W am mn mod/\cU W a n L:=by
 obtain ⟨cs,rfl,hsz⟩:=okWide_struct underlying27 hv;rw [show prog.cellsOf 27 = 5 by kernel_rfl] at hsz;obtain ⟨l⟩:=cs;match l,hsz with
 | [v0,v1,v2,v3,v4],_ =>
 obtain ⟨fuel,hf⟩:=h;obtain ⟨xs,n0,_,_,_,hlen,hfs⟩:=Qu underlying27 hf;obtain ⟨y0,y1,y2,rfl⟩ : ∃y0 y1 y2,xs=[y0,y1,y2]:=by
  match xs,hlen with
  | [y0,y1,y2],_=>exact ⟨y0,y1,y2,rfl⟩
 have k24 : prog.cellsOf 24 = 3:=by kernel_rfl
 have k3 : prog.cellsOf 3 = 1:=by kernel_rfl
 have k22 : prog.cellsOf 22 = 1:=by kernel_rfl
 have k25 : prog.cellsOf 25 = 1:=by kernel_rfl
 have g0 : DataW.trod enc prog W 0 (λ_=>true) held n0 24 [v0,v1,v2]=some y0:=by simpa [Value.cells,k24] using hfs 0 _ rfl
 have g1 : DataW.trod enc prog W 0 (λ_=>true) held n0 3 [v3]=some y1:=by simpa [Value.cells,k3] using hfs 1 _ rfl
 have g2 : DataW.trod enc prog W 0 (λ_=>true) held n0 25 [v4]=some y2:=by simpa [Value.cells,k25] using hfs 2 _ rfl
 obtain ⟨xs',n1,_,_,_,hlen',hfs'⟩:=Qu underlying24 g0;obtain ⟨z0,z1,z2,rfl⟩ : ∃z0 z1 z2,xs'=[z0,z1,z2]:=by
  match xs',hlen' with
  | [z0,z1,z2],_=>exact ⟨z0,z1,z2,rfl⟩
 have q0 : DataW.trod enc prog W 0 (λ_=>true) held n1 3 [v0]=some z0:=by simpa [k3] using hfs' 0 _ rfl
 have q1 : DataW.trod enc prog W 0 (λ_=>true) held n1 3 [v1]=some z1:=by simpa [k3] using hfs' 1 _ rfl
 have q2 : DataW.trod enc prog W 0 (λ_=>true) held n1 22 [v2]=some z2:=by simpa [k22] using hfs' 2 _ rfl
 obtain ⟨P,eP,_,_⟩:=Qb underlying3 q0;obtain ⟨M,eM,_,_⟩:=Qb underlying3 q1;obtain ⟨N,eN,_,_⟩:=Qb underlying3 g1;obtain ⟨am,mn,cm,mod,eI,hI⟩:=zT q2;obtain ⟨a,n,c,L,eL,hL⟩:=Cq g2;simp at eP eM eN eI eL;subst eP eM eN eI eL;exact ⟨P,M,am,mn,cm,mod,N,a,n,c,L,rfl,hI,hL⟩
end
end
end Go.Proofs.YtcfmiocdlcapoaaGreat
