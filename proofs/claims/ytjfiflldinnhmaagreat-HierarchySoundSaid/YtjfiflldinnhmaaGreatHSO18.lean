import Derived.Test.YtjfiflldinnhmaaGreatHSO16
import Derived.OpenShut
import Derived.ShutString
import Derived.ChangeOld
import Derived.Deep.Matrix
namespace Go.Proofs.YtjfiflldinnhmaaGreat
set_option linter.all false
set_option maxRecDepth 100000
set_option maxHeartbeats 4000000
open Go.RowKit Go.Proofs.Tryz
theorem tT (P M : Int) (am : OA) (mn cm : Nat) (mod : LI) (m : Nat) (a : OA) (n c : Nat) (L : LL) (w : World) (hmod : Ints w am mn mod) (hi : bY w a n L) (h5 : dC P M mod m L=0) (hm64 : m<=256) :
  Calls prog 131 #[.agg #[.int .i64 P,.int .i64 M,.slice am mn cm],.agg #[.int .i64 m,.slice a n c]] w (xP (an P M.toNat mod) L m w):=by
 have Hlen:=Z5 hi.len;obtain ⟨hfB,h8⟩:=e8 h5;have F:=ji hfB;obtain ⟨m0,em0,_,hL256,hR0⟩:=gG h8;obtain rfl : m=m0:=by omega
 have hR : bx (an P M.toNat mod).El m L:=hR0;have hn : n<=256:=by rw [<- hi.len];exact hL256
 have HR:=Z5 hR;have HF:=Z5 F;clear h5 hR0 em0 hL256;go_enter func131,ntmps131;go_wp2_with fail;obtain ⟨W,hW⟩ : ∃W : World,W=((((w.alloc (.cells #[.int .i64 P,.int .i64 M,.slice am mn cm] 24)).alloc (.cells #[.int .i64 m,.slice a n c] 87)).alloc (.cells #[.int .i64 0,.slice none 0 0] 87)).alloc (.cells #[.int .i64 m,.slice a n c] 87)):=⟨_,rfl⟩
 rw [<- hW];have hbW : JA w W:=by rw [hW];exact ((((EI _ _).alloc (EF _) _).alloc (by simp) _).alloc (by simp;omega) _).alloc (by simp;omega) _
 have hsW : W.heap.size=w.heap.size+4:=by rw [hW];simp
 have q1 : W.cell? ⟨w.heap.size+1,0,none⟩=some (.int .i64 m)/\W.cell? ⟨w.heap.size+1,1,none⟩=some (.slice a n c):=by rw [hW];exact ⟨aJ (aJ (aC _ _ _ (by simp) 0) _) _,aJ (aJ (aC _ _ _ (by simp) 1) _) _⟩
 have q2 : W.cell? ⟨w.heap.size+1+1,0,none⟩=some (.int .i64 0)/\W.cell? ⟨w.heap.size+1+1,1,none⟩=some (.slice none 0 0)/\W.frozen? ⟨w.heap.size+1+1,0,none⟩=false/\W.frozen? ⟨w.heap.size+1+1,1,none⟩=false:=by rw [hW];exact ⟨aJ (aC _ _ _ (by simp) 0) _,aJ (aC _ _ _ (by simp) 1) _,bV (by simp) (iT _ _ _ (by simp) 0) _,bV (by simp) (iT _ _ _ (by simp) 1) _⟩
 have q3 : W.cell? ⟨w.heap.size+1+1+1,0,none⟩=some (.int .i64 m)/\W.cell? ⟨w.heap.size+1+1+1,1,none⟩=some (.slice a n c):=by rw [hW];exact ⟨aC _ _ _ (by simp) 0,aC _ _ _ (by simp) 1⟩
 have hiW:=hi.aa hbW;have hMs : rF W (some ⟨w.heap.size+1+1+1,0,none⟩) 1 [((m : Int),L)]:=⟨rfl,λ_=>rfl,by unfold maxLen;omega,λi hi=>by
  have : i=0:=by simp at hi;omega
  subst this;exact ⟨a,n,c,by simpa using q3.1,by simpa using q3.2,hiW⟩⟩
 have HsW:=Z5 hsW;clear hW hsW;refine (jQ P M am mn cm mod _ 1 1 _ W (hmod.aa hbW) hMs).mono ?_;rintro e w1 ⟨hb1,hcase⟩;have hbw1:=I8 hbW hb1;have hq : ∀V,JA W V->V.cell? ⟨w.heap.size+1,0,none⟩=some (.int .i64 m)/\V.cell? ⟨w.heap.size+1,1,none⟩=some (.slice a n c)/\V.cell? ⟨w.heap.size+1+1,0,none⟩=some (.int .i64 0)/\V.cell? ⟨w.heap.size+1+1,1,none⟩=some (.slice none 0 0)/\V.frozen? ⟨w.heap.size+1+1,0,none⟩=false/\V.frozen? ⟨w.heap.size+1+1,1,none⟩=false:=by intro V hV;have hs:=HsW.out;exact ⟨aj hV q1.1,aj hV q1.2,aj hV q2.1,aj hV q2.2.1,(hV.frozen (p:=⟨w.heap.size+1+1,0,none⟩) (by simp [hs])).trans q2.2.2.1,(hV.frozen (p:=⟨w.heap.size+1+1,1,none⟩) (by simp [hs])).trans q2.2.2.2⟩
 have Hq:=Z5 hq;clear hq q1 q2 q3;rw [iY] at hcase;rcases hcase with ⟨hB,_⟩ | ⟨_,er,h0,h1,_⟩ | ⟨_,_,b,rfl,hG,hbl⟩
 ·rw [hfB] at hB;exact absurd hB (by decide)
 ·rw [h8] at h1;exact absurd h1.symm h0
 obtain ⟨r1,r2,r3,r4,r5,r6⟩:=Hq.out w1 hb1;have HPost : Hid (∀a c w',bX w.heap.size w' a (iI (an P M.toNat mod) L m).length (iI (an P M.toNat mod) L m)->JA w w'->xP (an P M.toNat mod) L m w (.returned (.tuple #[.agg #[.int .i64 m,.slice a (iI (an P M.toNat mod) L m).length c],.int .i64 0])) w'):=λa c w' h1 h2=>⟨a,c,rfl,h1,h2⟩
 obtain ⟨G,hGG⟩ : ∃G,an P M.toNat mod=G:=⟨_,rfl⟩
 have HGG:=Z5 hGG;rw [hGG] at hG HR HF HPost hR F;clear h8 hGG hfB;have Hcan:=Z5 (me a n c m L hG (hiW.aa hb1) hR (by omega) (by omega));have hRc : bx G.El m (dM G L m):=eA F hR;obtain ⟨hPv,hLd⟩:=dK F hR;have hcl : (dM G L m).length=(dD G L m).length:=fR G L m;have HPv : Hid (kY (dM G L m) (dD G L m) m):=hPv;have hrws : ∀k,k<=m->bx G.El m (ek G.ops m (dM G L m) (dD G L m) k):=by
  intro k;induction k with
  | zero=>intro _ r hr;simp [ek] at hr
  | succ k ih =>
   intro hk r hr
   rw [ek] at hr
   split at hr
   ·exact ih (by omega) r hr
   ·rw [FH,Fw] at hr
    rcases hr with hr | rfl
    ·exact ih (by omega) r hr
    ·exact lH F hRc hPv hcl (by omega) _ (EF _)
 have Hrws:=Z5 hrws;have hdl : iI G L m=dM G (ek G.ops m (dM G L m) (dD G L m) m) m:=rfl;have Hdl:=Z5 hdl;have Hcp : Hid (∀c,c<m->∀i,i<(dD G L m).length->G.El (nth (af (dM G L m) i) c)):=λc hc i hi=>Jd (hRc.row (by rw [hcl];exact hi)) hc;have Hrl : Hid (∀i,i<(dD G L m).length->(af (dM G L m) i).length=m):=λi hi=>(hRc.row (by rw [hcl];exact hi)).1;clear hR F hPv hLd hrws hdl;go_wp2_with fail;refine Hcan.out.mono ?_;rintro e w2 ⟨a2,c2,ap,cp,rfl,hM2,hp2,hb2⟩;have Hkp : Hid (∀c i,cW G.ops m (dM G L m) (dD G L m) c (i+1)=(cW G.ops m (dM G L m) (dD G L m) c i).set (nth (dD G L m) i).toNat (G.neg (nth (af (dM G L m) i) c))):=λc i=>rfl;have Hk0 : Hid (∀c,cW G.ops m (dM G L m) (dD G L m) c 0=(List.replicate m 0).set c 1):=λc=>rfl;have Hplt : Hid (∀j,j<(dD G L m).length->0<=nth (dD G L m) j/\nth (dD G L m) j<m):=HPv.out.lt;obtain ⟨R,hRR⟩ : ∃R,dM G L m=R:=⟨_,rfl⟩
 obtain ⟨Pv,hPP⟩ : ∃Pv,dD G L m=Pv:=⟨_,rfl⟩
 rw [hRR,hPP] at Hrws Hdl Hcp Hkp Hk0 Hrl;rw [hPP] at Hplt hp2 hM2 hcl;rw [hRR] at hM2 hcl;rw [hPP];clear hRR hPP HPv Hcan;obtain ⟨t,ht⟩ : ∃t,Pv.length=t:=⟨_,rfl⟩
 have Ht:=Z5 ht;rw [ht] at hM2 hp2 Hcp Hplt hcl Hrl;rw [ht];have hMM:=hM2.pA;have hII:=hp2.ints;have hplP:=hII.pl;have hplR:=hMM.pl;have hbw2:=I8 hbw1 hb2;have hb12:=I8 hb1 hb2;have hG2:=hG.aa hb2;have hmaxP:=hII.max;unfold maxLen at hmaxP;obtain ⟨z1,z2,z3,z4,z5,z6⟩:=Hq.out w2 hb12;clear ht hM2 hp2 hG r1 r2 r3 r4 r5 r6;go_wp2_with fail;go_loopw [10,37] (λov iv wr=>∃(k : Nat) (a1 : OA) (c1 : Nat),k<=m/\iv = .int .i64 k/\ov = .slice a1 (gr Pv k).length c1/\(∃Rr,aN wr w2.heap.size a1 (gr Pv k).length c1 Rr (ek G.ops m R Pv k))/\JA w2 wr) (λ_ iv _=>m - (intOf iv).toNat);case atStart=>exact ⟨0,none,0,EL _,rfl,rfl,⟨[],aN.Cv w2 w2.heap.size⟩,EI _ _⟩
 case round =>
  clear z1 z2 z3 z4 z5 z6
  obtain ⟨k,a1,c1,hk,rfl,rfl,⟨Rr,hO⟩,hbr⟩:=hrel
  have hnk:=AA Pv k
  by_cases hlt : k<m
  ·have hcont:=bJ ap t cp Pv k wr (hII.aa hbr)
   obtain ⟨z1,_,_,_,_,_⟩:=Hq.out wr (I8 hb12 hbr)
   by_cases hmem : (k : Int) ∈ Pv
   ·have hN : Hid (gr Pv (k+1)=gr Pv k):=by show _=_;rw [gr,EH hmem]
    have hKk : Hid (ek G.ops m R Pv (k+1)=ek G.ops m R Pv k):=by show _=_;rw [ek,EH hmem]
    rw [show decide ((k : Int) ∈ Pv)=true by simpa using hmem] at hcont
    have Hcont:=Z5 hcont
    clear hmem hcont
    go_wp2_with fail
    refine Hcont.out.mono ?_
    rintro e w3 ⟨rfl,rfl⟩
    go_wp2_with fail
    go_roundw
    case rel=>exact ⟨k+1,a1,c1,by omega,by go_num,by rw [hN.out],⟨Rr,by rw [hN.out,hKk.out];exact hO⟩,hbr⟩
    case measure=>simp [intOf] <;> omega
   ·have hN : Hid (gr Pv (k+1)=gr Pv k ++ [k]):=by show _=_;rw [gr,EG hmem]
    have hKk : Hid (ek G.ops m R Pv (k+1)=ek G.ops m R Pv k ++ [cW G.ops m R Pv k t]):=by show _=_;rw [ek,EG hmem,Ht.out]
    rw [show decide ((k : Int) ∈ Pv)=false by simpa using hmem] at hcont
    have Hcont:=Z5 hcont
    clear hmem hcont
    go_wp2_with fail
    refine Hcont.out.mono ?_
    rintro e w3 ⟨rfl,rfl⟩
    go_wp2_with (at_make;refine bZ rfl _ _ 22 3 rfl (.int .i64 0) 8 underlying22 bh rfl m rfl rfl (by omega) (by unfold maxLen;omega) ?_;intro a5 w5 hown5 hbel5 hge5 hlt5;obtain ⟨hi5,hm5⟩:=I9 (l:=List.replicate m 0) (by simpa using hown5);have hc5:=hi5.cell k hlt;have hf5:=(hm5 (by omega)).2 k hlt;have hpl5:=hi5.pl)
    have hx0:=bz hown5 k hlt (.int .i64 1)
    have hx0' : (w5.setCell ⟨ah a5,aG a5+k,none⟩ (.int .i64 1)).ownsRow w3.heap.size 3 1 (.slice a5 m m) m ((cW G.ops m R Pv k 0).map (Value.int .i64)):=by rw [Hk0.out,Ff,Gg];exact hx0
    have hbx0:=hbel5.setCell (p:=⟨ah a5,aG a5+k,none⟩) (hm5 (by omega)).1 (.int .i64 1)
    clear hx0 hown5 hbel5 hge5 hlt5 hi5 hm5 hc5 hf5 z1
    go_loopw [51] (λiv wx=>∃i : Nat,i<=t/\iv = .int .i64 i/\wx.ownsRow w3.heap.size 3 1 (.slice a5 m m) m ((cW G.ops m R Pv k i).map (Value.int .i64))/\JA w3 wx) (λiv _=>t - (intOf iv).toNat)
    case atStart=>exact ⟨0,EL _,rfl,hx0',hbx0⟩
    case round =>
     clear hx0' hbx0
     obtain ⟨i,hi',rfl,hown,hbx⟩:=hrel
     by_cases hli : i<t
     ·have hb2x:=I8 hbr hbx
      have cpi:=(hII.aa hb2x).cell i hli
      have hpb:=Hplt.out i hli
      obtain ⟨z,hz⟩ : ∃z : Nat,nth Pv i=z:=⟨(nth Pv i).toNat,by omega⟩
      have hzm : z<m:=by omega
      obtain ⟨ra,rn,rc,hcell,hrow⟩:=(hMM.aa hb2x).cell i hli
      have hrn : rn=m:=by rw [<- hrow.len];exact Hrl.out i hli
      subst hrn
      have ck:=hrow.cell k hlt
      have hpr:=hrow.pl
      have hel:=Hcp.out k hlt i hli
      have hst : cW G.ops rn R Pv k (i+1)=(cW G.ops rn R Pv k i).set z (G.neg (nth (af R i) k)):=by rw [Hkp.out,hz,EM]
      have Hst:=Z5 hst
      obtain ⟨x9,hx9⟩ : ∃x,nth (af R i) k=x:=⟨_,rfl⟩
      rw [hx9] at ck hel Hst
      have Hng:=Z5 (C4 x9 (hG2.aa hb2x) hel)
      rw [hz] at cpi
      obtain ⟨hints,hmine⟩:=I9 hown
      have hpl5':=hints.pl
      have cz:=hints.cell z hzm
      have fz:=(hmine (by omega)).2 z hzm
      have hB:=(hmine (by omega)).1
      clear hz hpb hst hx9 hel
      go_wp2_with fail
      refine Hng.out.mono ?_
      rintro e w6 ⟨nd,rfl,rfl⟩
      go_wp2_with fail
      go_roundw
      case rel =>
       have h:=bz (w:=wr.drewN nd) hown z hzm (.int .i64 (G.neg x9))
       rw [<- Ff,<- Hst.out] at h
       exact ⟨i+1,by omega,by go_num,h,(below_drewN hbx nd).setCell hB _⟩
      case measure=>simp [intOf] <;> omega
     ·obtain rfl : i=t:=by omega
      obtain ⟨X,hX⟩ : ∃X,cW G.ops m R Pv k i=X:=⟨_,rfl⟩
      have hXl : X.length=m:=by rw [<- hX];exact fJ _ _ _ _ _ _
      rw [hX] at hown hKk
      have HXl:=Z5 hXl
      have hO3:=hO.aa (I8 hbx (aA wr (.cells #[.slice a5 m m] 22)))
      have hsz:=hbr.size
      have hsx:=hbx.size
      have hs3 : w2.heap.size<=(wr.alloc (.cells #[.slice a5 m m] 22)).heap.size:=by simp;omega
      have hcn:=bk wr (.slice a5 m m) 22
      clear hX hXl
      go_wp2_with (at_builtin;refine aX rfl _ _ 25 22 rfl (.slice none 0 0) 24 underlying25 eh rfl w2.heap.size a1 (gr Pv k).length c1 _ rfl hO3.own ⟨wr.heap.size,0,none⟩ 1 (.slice a5 m m) rfl hcn rfl (by omega) (by unfold maxLen;omega) hs3 ?_;intro a7 c7 w7 hown7 hgr7 hap7)
      go_roundw
      case rel =>
       have hb4 : JA w3 (wr.alloc (.cells #[.slice a5 m m] 22)):=I8 hbx (aA _ _)
       have hown4 : (wr.alloc (.cells #[.slice a5 m m] 22)).ownsRow w2.heap.size 3 1 (.slice a5 X.length m) X.length (X.map (Value.int .i64)):=by rw [HXl.out];exact aW (aY hown (aA _ _)) hsz
       have hra : a5 ≠ none->¬ bH a1 Rr (ah a5):=λh0 hI=>by have h1:=(aU hown h0).1;have h2:=(hO.lt _ hI).2;omega
       have hP:=Jt hO3 hown4 hra (by rw [HXl.out];exact hown7) hgr7 hap7
       have hb5 : JA w2 w7:=Jb (I8 hbr hb4) hO3.own hgr7 (EF _) (ET hsz hb4.size)
       exact ⟨k+1,a7,c7,by omega,by go_num,by rw [hN.out];simp,⟨_,by rw [hN.out,hKk.out,ER];exact hP⟩,hb5⟩
      case measure=>simp [intOf] <;> omega
  ·obtain rfl : k=m:=by omega
   have hbw:=I8 hbw2 hbr
   have hcan:=me a1 (gr Pv k).length c1 k (ek G.ops k R Pv k) (hG2.aa hbr) hO.pA (Hrws.out k (EF _)) (by omega) (by omega)
   have Hcan:=Z5 hcan
   obtain ⟨z1,z2,z3,z4,z5,z6⟩:=Hq.out wr (I8 hb12 hbr)
   clear hcan hO
   go_wp2_with fail
   refine Hcan.out.mono ?_
   rintro e w8 ⟨a8,c8,ap8,cp8,rfl,hM8,hp8,hb8⟩
   have hlen8 : (dD G (ek G.ops k R Pv k) k).length=(iI G L k).length:=by rw [Hdl.out,fR]
   have hM8' : bX wr.heap.size w8 a8 (iI G L k).length (iI G L k):=by rw [<- hlen8,Hdl.out];exact hM8
   rw [hlen8]
   have hbw8:=I8 hbw hb8
   have hF:=HPost.out a8 c8 ((w8.setCell ⟨w.heap.size+1+1,0,none⟩ (.int .i64 k)).setCell ⟨w.heap.size+1+1,1,none⟩ (.slice a8 (iI G L k).length c8)) (by have hs:=HsW.out;have hs1:=(I8 hb12 hbr).size;exact ((hM8'.setCell (p:=⟨w.heap.size+1+1,0,none⟩) (by simp;omega) _).setCell (p:=⟨w.heap.size+1+1,1,none⟩) (by simp;omega) _).mono (by omega)) ((hbw8.setCell (by simp;omega) _).setCell (by simp;omega) _)
   have HF2:=Z5 hF
   clear hF hM8 hp8 hM8' Hcan z1 z2 z3 z4 z5 z6 hlen8
   obtain ⟨z1,z2,z3,z4,z5,z6⟩:=Hq.out w8 (I8 (I8 hb12 hbr) hb8)
   generalize (iI G L k).length=q at *
   go_wp2_with fail
   exact bodyPost_ret (v:=.tuple #[.agg #[.int .i64 k,.slice a8 q c8],.int .i64 0]) (by simp [results,results131,go_sem,z3,z4]) rfl (by rw [HGG.out];exact HF2.out)
section
open Go.RowKit
end
theorem vO (P M : Int) (am : OA) (mn cm : Nat) (mod : LI) (N : Int) (a : OA) (n c : Nat) (L : LL) (w : World) (hmod : Ints w am mn mod) (hi : bY w a n L) :
  Calls prog 16 #[.agg #[.int .i64 P,.int .i64 M,.slice am mn cm,.int .i64 N,.slice a n c]] w λe w'=>e = .returned (.int .i64 (aZ P M mod N L))/\JA w w':=by rw [<- x8];exact oF P M am mn cm mod N a n c L w hmod hi Ax
section
open Go.RowKit
end
section
open Go.RowKit
end
section
open Go.RowKit
end
section
open Go.RowKit
end
def gT (w : World) (e : Ending) (w' : World) : Prop:=∃z,e = .returned (.bool z)/\JA w w'
theorem l6 (a : OA) (n c K : Nat) (L : LL) (w : World) (hi : bY w a n L) (hK : K<=100000) :
  Calls prog 55 #[.agg #[.int .i64 0,.slice a n c],.int .i64 K] w (gT w):=by
 have Hlen:=Z5 hi.len;have hpl:=hi.pl;have hmax:=hi.max;unfold maxLen at hmax;go_enter func55,ntmps55;go_upto_region 1 with fail;obtain ⟨W,hW⟩ : ∃W : World,W=w.alloc (.cells #[.int .i64 0,.slice a n c] 87):=⟨_,rfl⟩
 rw [<- hW];have hbW : JA w W:=by rw [hW];exact aA _ _
 have x0 : ba W w.heap.size [.int .i64 0,.slice a n c]:=by rw [hW];exact Ja _ _ _ rfl
 have c0:=x0.cell 0 rfl;have c1:=x0.cell 1 rfl;have hiW:=hi.aa hbW;have HbW:=Z5 hbW;clear hW x0 hi hbW;by_cases h1 : K<n
 ·have d1 : decide (K<n)=true:=by simpa using h1
  have d1' : decide ((K : Int)<n)=true:=by simp;omega
  go_wp2_with fail;go_ret;exact ⟨_,rfl,HbW.out⟩
 ·have d1 : decide (K<n)=false:=by simpa using h1
  have d1' : decide ((K : Int)<n)=false:=by simp;omega
  go_wp2_with fail;go_loopw [5,6] (λlv iv wr=>∃k m : Nat,k<=n/\m<=K/\lv = .int .i64 m/\iv = .int .i64 k/\wr=W) (λ_ iv _=>n - (intOf iv).toNat);case atStart=>exact ⟨0,K - n,EL _,by omega,by go_num,rfl,rfl⟩
  case round =>
   obtain ⟨k,m,hk,hm,rfl,rfl,rfl⟩:=hrel
   by_cases hlt : k<n
   ·obtain ⟨ra,rn,rc,hcell,hrow⟩:=hiW.cell k hlt
    by_cases h2 : m<rn
    ·have d2 : decide (m<rn)=true:=by simpa using h2
     have d2' : decide ((m : Int)<rn)=true:=by simp;omega
     go_wp2_with fail
     go_ret
     exact ⟨_,rfl,HbW.out⟩
    ·have d2 : decide (m<rn)=false:=by simpa using h2
     have d2' : decide ((m : Int)<rn)=false:=by simp;omega
     have d3 : (rn : Int)<=m:=by omega
     go_wp2_with fail
     go_roundw
     case rel=>exact ⟨k+1,m - rn,by omega,by omega,by go_num,by go_num,by first | rfl | trivial⟩
     case measure=>simp [intOf] <;> omega
   ·obtain rfl : k=n:=by omega
    go_wp2_with fail
    go_ret
    exact ⟨_,rfl,HbW.out⟩
theorem vY (P M : Int) (am : OA) (mn cm : Nat) (N : Int) (a : OA) (n c K : Nat) (L : LL) (w : World) (hi : bY w a n L) (hK : K<=100000) :
  Calls prog 15 #[.agg #[.int .i64 P,.int .i64 M,.slice am mn cm,.int .i64 N,.slice a n c],.int .i64 K] w (gT w):=by have H:=Z5 (λV hV=>l6 a n c K L V (hi.aa hV) hK : ∀V,JA w V->_);clear hi;go_enter func15,ntmps15;go_wp2_with fail;have hbW:=aA w (.cells #[.int .i64 P,.int .i64 M,.slice am mn cm,.int .i64 N,.slice a n c] 27);refine (H.out _ hbW).mono ?_;rintro e w1 ⟨z,rfl,hb1⟩;have hF:=I8 hbW hb1;go_wp2_with fail;go_ret;exact ⟨z,rfl,hF⟩
section
open Go.RowKit
end
section
open Go.RowKit
end
section
open Go.ChangeShapes Go.WideShapes Go.ChangeAt Go.RowKit
theorem Tryz.own : ownKnob prog.godebug=none:=by kernel_rfl
theorem Tryz.laid : laidOutB prog=true:=by kernel_rfl
section
variable {H : Type} {enc : TypeId × Value->H} {W : World} {held : Bool} {fuel : Nat} {cs : List Value} {x : DataW H × List MemPlace}
theorem lN {a : Addr} {v : Value} {i : Nat} (h : W.cell? (a.add i)=some v) : W.cell? ⟨a.block,a.off+i,none⟩=some v:=by
 have hs:=IQ h;obtain ⟨b,o,s⟩:=a;by_cases h0 : i=0
 ·subst h0;simp only [Addr.add,if_true] at hs h;subst hs;exact h
 ·simpa [Addr.add,h0] using h
theorem lI {a : Addr} {v : Value} (h : W.cell? (a.add 0)=some v) : a=⟨a.block,a.off,none⟩:=by have hs:=IQ h;obtain ⟨b,o,s⟩:=a;simp only [Addr.add,if_true] at hs;subst hs;rfl
theorem ky (l : LI) (n i : Nat) (h : i<n) : nth (l.take n) i=l.getD i 0:=by unfold nth;simp only [EJ,FE];rw [EH h]
theorem uv (h : DataW.trod enc prog W 0 (λ_=>true) held fuel 22 cs=some x) : ∃a n c l,cs=[.slice a n c]/\Ints W a n l:=by
 rcases open_ints underlying22 underlying3 (by kernel_rfl) h with ⟨hcs,_⟩ | ⟨a,len,cap,zs,hcs,_,hl,hm,hz,_,hcell,_⟩
 ·exact ⟨none,0,0,[],hcs,Jf _ _⟩
 ·simp only [if_true] at hz;refine ⟨some a,len,cap,zs.take len,hcs,⟨by simp;omega,λh0=>?_,by omega,λi hi=>?_⟩⟩
  ·exact congrArg some (lI (hcell 0 (by omega)))
  ·rw [ky _ _ _ hi];exact lN (hcell i (by omega))
theorem kH (h : DataW.trod enc prog W 0 (λ_=>true) held fuel 25 cs=some x) : ∃a n c L,cs=[.slice a n c]/\bY W a n L:=by
 rcases Go.Deep.open_int_rows underlying25 underlying22 underlying3 (by kernel_rfl) (by kernel_rfl) h with ⟨hcs,_⟩ | ⟨a,len,cap,A,Ln,C,Z,hcs,_,hl,hm,_,hrows⟩
 ·exact ⟨none,0,0,[],hcs,⟨rfl,λh0=>by omega,by unfold maxLen;omega,λi hi=>by omega⟩⟩
 ·refine ⟨some a,len,cap,(List.range len).map (λr=>(Z r).take (Ln r)),hcs,⟨by simp,λh0=>congrArg some (lI (hrows 0 (by omega)).1),by omega,λr hr=>?_⟩⟩;obtain ⟨h1,h2,h3,h4,_,h5,h6⟩:=hrows r (by omega);refine ⟨A r,Ln r,C r,lN h1,?_⟩;have e : af ((List.range len).map (λr=>(Z r).take (Ln r))) r=(Z r).take (Ln r):=by unfold af;simp [EJ,F5,List.getElem?_range hr]
  rw [e];match hA : A r,h5,h6 with
  | none,h5,_ =>
   have h0 : Ln r=0:=by have:=h5 rfl;omega
   rw [h0]
   exact Jf _ _
  | some b,_,h6 =>
   obtain ⟨_,h7⟩:=h6 b rfl
   exact ⟨by simp;omega,λh0=>congrArg some (lI (h7 0 (by omega))),by omega,λi hi=>by rw [ky _ _ _ hi];exact lN (h7 i (by omega))⟩
end
section
variable {H : Type} {enc : TypeId × Value->H} {W : World} {held : Bool} {b0 : Nat} {v : Value} {d : DataW H} {p : List MemPlace}
theorem Ac (hv : Value.okWide prog W .any b0 27 v) (h : DataW.Trod enc prog W 0 (λ_=>true) held 27 v d p) :
  ∃(P M : Int) (am : OA) (mn cm : Nat) (mod : LI) (N : Int) (a : OA) (n c : Nat) (L : LL),v = .agg #[.int .i64 P,.int .i64 M,.slice am mn cm,.int .i64 N,.slice a n c]/\Ints W am mn mod/\bY W a n L:=by
 obtain ⟨cs,rfl,hsz⟩:=okWide_struct underlying27 hv;rw [show prog.cellsOf 27 = 5 by kernel_rfl] at hsz;obtain ⟨l⟩:=cs;match l,hsz with
 | [v0,v1,v2,v3,v4],_ =>
 obtain ⟨fuel,hf⟩:=h;obtain ⟨xs,n0,_,_,_,hlen,hfs⟩:=Gz underlying27 hf;obtain ⟨y0,y1,y2,rfl⟩ : ∃y0 y1 y2,xs=[y0,y1,y2]:=by
  match xs,hlen with
  | [y0,y1,y2],_=>exact ⟨y0,y1,y2,rfl⟩
 have k24 : prog.cellsOf 24 = 3:=by kernel_rfl
 have k3 : prog.cellsOf 3 = 1:=by kernel_rfl
 have k22 : prog.cellsOf 22 = 1:=by kernel_rfl
 have k25 : prog.cellsOf 25 = 1:=by kernel_rfl
 have g0 : DataW.trod enc prog W 0 (λ_=>true) held n0 24 [v0,v1,v2]=some y0:=by simpa [Value.cells,k24] using hfs 0 _ rfl
 have g1 : DataW.trod enc prog W 0 (λ_=>true) held n0 3 [v3]=some y1:=by simpa [Value.cells,k3] using hfs 1 _ rfl
 have g2 : DataW.trod enc prog W 0 (λ_=>true) held n0 25 [v4]=some y2:=by simpa [Value.cells,k25] using hfs 2 _ rfl
 obtain ⟨xs',n1,_,_,_,hlen',hfs'⟩:=Gz underlying24 g0;obtain ⟨z0,z1,z2,rfl⟩ : ∃z0 z1 z2,xs'=[z0,z1,z2]:=by
  match xs',hlen' with
  | [z0,z1,z2],_=>exact ⟨z0,z1,z2,rfl⟩
 have q0 : DataW.trod enc prog W 0 (λ_=>true) held n1 3 [v0]=some z0:=by simpa [k3] using hfs' 0 _ rfl
 have q1 : DataW.trod enc prog W 0 (λ_=>true) held n1 3 [v1]=some z1:=by simpa [k3] using hfs' 1 _ rfl
 have q2 : DataW.trod enc prog W 0 (λ_=>true) held n1 22 [v2]=some z2:=by simpa [k22] using hfs' 2 _ rfl
 obtain ⟨P,eP,_,_⟩:=Io underlying3 q0;obtain ⟨M,eM,_,_⟩:=Io underlying3 q1;obtain ⟨N,eN,_,_⟩:=Io underlying3 g1;obtain ⟨am,mn,cm,mod,eI,hI⟩:=uv q2;obtain ⟨a,n,c,L,eL,hL⟩:=kH g2;simp at eP eM eN eI eL;subst eP eM eN eI eL;exact ⟨P,M,am,mn,cm,mod,N,a,n,c,L,rfl,hI,hL⟩
end
end
section
open Go.ChangeShapes Go.WideShapes Go.ChangeAt Go.RowKit
section
variable {H : Type} {enc : TypeId × Value->H} {W : World} {held : Bool} {fuel : Nat} {cs : List Value} {x : DataW H × List MemPlace}
theorem tw (h : DataW.trod enc prog W 0 (λ_=>true) held fuel 25 cs=some x) : ∃a n c L,cs=[.slice a n c]/\bY W a n L/\n<=c:=by
 obtain ⟨a,n,c,L,e,hL⟩:=kH h;refine ⟨a,n,c,L,e,hL,?_⟩;rcases Go.Deep.open_int_rows underlying25 underlying22 underlying3 (by kernel_rfl) (by kernel_rfl) h with ⟨hcs,_⟩ | ⟨a',len,cap,_,_,_,_,hcs,_,hl,_⟩
 ·rw [hcs] at e;simp at e;omega
 ·rw [hcs] at e;simp at e;omega
end
section
variable {H : Type} {enc : TypeId × Value->H} {W : World} {held : Bool} {b0 : Nat} {v : Value} {d : DataW H} {p : List MemPlace}
end
end
end Go.Proofs.YtjfiflldinnhmaaGreat
