import Derived.Test.YtcfmiocdlcapoaaGreatHBS16
import Derived.Test.YtcfmiocdlcapoaaGreatHBS15
import Derived.Test.YtcfmiocdlcapoaaGreatHBS17
namespace Go.Proofs.YtcfmiocdlcapoaaGreat
set_option linter.all false
set_option maxRecDepth 100000
set_option maxHeartbeats 4000000
open Go.RowKit Tryz
section
variable {O : aJ} {El : Int->Prop} {m n : Nat}
structure pY (L : ZZ) (P : Lz) : Prop where
 lead : ∀i x,i<P.length->x<(nth P i).toNat->nth (ai L i) x=0
 asc : ∀i j,i<j->j<P.length->nth P i<nth P j
theorem o0 (F : bR O El) {L : ZZ} (hL : bx El m L) : ∀k,k<=m->pY (aC O L k).1 (aC O L k).2
 | 0,_=>⟨λi x hi=>by simp [aC] at hi,λi j _ hj=>by simp [aC] at hj⟩
 | k+1,hk=>by
  have ih:=o0 F hL k (by omega);obtain ⟨h1,_,_⟩:=jF F hL k (by omega);have hR:=kA F hL k (by omega);have hb:=lj (L:=(aC O L k).1) (c:=k) (k:=(aC O L k).2.length) h1.le;by_cases hlt : (aC O L k).2.length<(aC O L k).1.length
  ·rw [dA (Lk:=(aC O L k).1) (P:=(aC O L k).2) rfl hlt];split
   ·exact ih
   ·rename_i hf;have hfl : aW (aC O L k).1 k (aC O L k).2.length<(aC O L k).1.length:=by omega
    have hne : nth (ai (aC O L k).1 (aW (aC O L k).1 k (aC O L k).2.length)) k ≠ 0:=fP _ k _ _ (by show aW _ k _<_;omega);generalize aW (aC O L k).1 k (aC O L k).2.length=r at *;generalize (aC O L k).1=A at *;generalize (aC O L k).2=P at *;have hp : El (nth (ai A r) k):=QV (hR.row hfl) (by omega);have hpi:=F.cl.inv _ hp hne;refine ⟨λi x hi hx=>?_,λi j hij hj=>?_⟩
    ·rw [Mp,Mz] at hi;have hx' : x<m:=by
      rw [iJ] at hx;by_cases e : i<P.length
      ·rw [Mg e] at hx;have:=h1.lt i e;omega
      ·rw [Mh e,Mg (by omega)] at hx;omega
     rw [eY F hR hlt hfl (by omega) hne (i:=i) (by omega) hx'];rw [iJ] at hx;by_cases e : i<P.length
     ·rw [Mg e] at hx;have h2:=h1.lt i e;rw [Mh (by omega),show sw P.length r i=i by unfold sw;rw [Mh (by omega),Mh (by omega)],h1.zero r x hb.1 hfl (by omega),F.dt hpi,F.kj (QV (hR.row (by omega)) (by omega)),F.fD,F.add_zero _ (QV (hR.row (by omega)) hx')];exact ih.lead i x e hx
     ·rw [Mh e,Mg (by omega)] at hx;rw [Mg (by omega),h1.zero r x hb.1 hfl (by omega),F.dt hpi]
    ·rw [Mp,Mz] at hj;rw [iJ,iJ,Mg (by omega)];by_cases e : j<P.length
     ·rw [Mg e];exact ih.asc i j hij e
     ·rw [Mh e,Mg (by omega)];have:=h1.lt i (by omega);omega
  ·have hfull : (aC O L k).2.length=L.length:=by have:=cN O L k;have:=h1.le;omega
   rw [fE hfull 1];exact ih
theorem inv_one (F : bR O El) : O.inv 1=1:=by have h:=F.mul_inv 1 F.one (by decide);rwa [F.one_mul _ (F.cl.inv 1 F.one (by decide))] at h
theorem tO (O : aJ) {R : ZZ} {t c : Nat} (h : ∀i,i<R.length->i ≠ t->nth (ai R i) c=0) : ∀i,i<=R.length->aR O t c R i=R
 | 0,_=>rfl
 | i+1,hi=>by
  unfold aR;rw [tO O h i (by omega)];split
  ·rfl
  ·rename_i e;unfold bT;rw [Mg (h i (by omega) e),kC]
theorem z7 (F : bR O El) {R : ZZ} {P : Lz} (hP : l8 R P m) (hl : pY R P) (hlen : R.length=P.length) : ∀k,k<=m ->
  ∃t,t<=P.length/\aC O R k=(R,P.take t)/\(∀j,j<t->nth P j<k)/\(∀j,t<=j->j<P.length->(k : Int)<=nth P j)
 | 0,_=>⟨0,Mj _,by simp [aC],λj hj=>by omega,λj _ hj=>(hP.lt j hj).1⟩
 | k+1,hk=>by
  obtain ⟨t,ht,he,h1,h2⟩:=z7 F hP hl hlen k (by omega);have htl : (P.take t).length=t:=by rw [MJ];omega
  by_cases htt : t=P.length
  ·refine ⟨t,ht,?_,λj hj=>by have:=h1 j hj;omega,λj h3 h4=>by omega⟩;have hfull : (aC O R k).2.length=R.length:=by rw [he];show (P.take t).length=_;omega
   rw [fE hfull 1,he]
  ·have htR : t<R.length:=by omega
   rw [dA (Lk:=R) (P:=P.take t) he.symm (by rw [htl];exact htR),htl];by_cases hpk : nth P t=k
   ·have h11:=hP.one t t (by omega) htR;rw [hpk,Mg rfl,Mm] at h11;have hf : aW R k t=t:=by rw [gP htR,Mh (by rw [h11];decide)]
    rw [hf,Mh (by omega)];have hpv : eB O R t t k=R:=by
     rw [iB,Mg rfl];have hn : bq O R t k=R:=by unfold bq;rw [h11,Mg (inv_one F)]
     rw [hn];refine tO O (λi hi hit=>?_) _ (Mf _);have:=hP.one t i (by omega) hi;rw [hpk,Mh hit,Mm] at this;exact this
    rw [hpv];refine ⟨t+1,by omega,?_,λj hj=>?_,λj h3 h4=>?_⟩
    ·rw [Mu (by omega),<- aj,hpk]
    ·by_cases e : j=t
     ·subst e;omega
     ·have:=h1 j (by omega);omega
    ·have:=hl.asc t j (by omega) h4;omega
   ·have hgt : (k : Int)<nth P t:=by have:=h2 t (Mf _) (by omega);omega
    have hz : ∀i,t<=i->i<R.length->nth (ai R i) k=0:=λi h3 h4=>by
     refine hl.lead i k (by omega) ?_;by_cases e : i=t
     ·subst e;omega
     ·have:=hl.asc t i (by omega) (by omega);omega
    have hf : ∀d i,d=R.length - i->t<=i->i<=R.length->aW R k i=R.length:=by
     intro d;induction d with
     | zero=>intro i h3 _ h5;rw [ka (by omega)];omega
     | succ d ih =>
      intro i h3 h4 h5
      rw [gP (by omega),Mg (hz i h4 (by omega))]
      exact ih (i+1) (by omega) (by omega) (by omega)
    rw [hf _ t rfl (Mf _) (by omega),Mg rfl];refine ⟨t,ht,rfl,λj hj=>by have:=h1 j hj;omega,λj h3 h4=>?_⟩;by_cases e : j=t
    ·subst e;omega
    ·have:=hl.asc t j (by omega) h4;omega
theorem sL (F : bR O El) {R : ZZ} {P : Lz} (hP : l8 R P m) (hl : pY R P) (hlen : R.length=P.length) : aC O R m=(R,P):=by
 obtain ⟨t,ht,he,h1,h2⟩:=z7 F hP hl hlen m (Mf _);have : t=P.length:=by apply Mv;intro h;have h3:=h2 t (Mf _) (by omega);have h4:=hP.lt t (by omega);omega
 rw [he,this,QA]
def dX (O : aJ) (m : Nat) (L : ZZ) : ZZ:=(aC O L m).1.take (aC O L m).2.length
theorem lA {L : ZZ} {t i : Nat} (h : i<t) : ai (L.take t) i=ai L i:=by unfold ai;simp only [Mk,Nj];rw [Mg h]
theorem bY (F : bR O El) {L : ZZ} (hL : bx El m L) : (dX O m L).length=(aC O L m).2.length:=by have h1:=(jF F hL m (Mf _)).1.le;unfold dX;rw [MJ];omega
theorem dH (F : bR O El) {L : ZZ} (hL : bx El m L) : bx El m (dX O m L):=λr hr=>kA F hL m (Mf _) r (Nd hr)
theorem db (F : bR O El) {L : ZZ} (hL : bx El m L) : l8 (dX O m L) (aC O L m).2 m/\pY (dX O m L) (aC O L m).2:=by
 have h1:=(jF F hL m (Mf _)).1;have h2:=o0 F hL m (Mf _);have hl:=bY F hL;refine ⟨⟨by omega,h1.lt,λj i hj hi=>?_,λi x hi1 hi2 _=>by omega⟩,⟨λi x hi hx=>?_,h2.asc⟩⟩
 ·unfold dX;rw [lA (by omega)];exact h1.one j i hj (by have:=h1.le;omega)
 ·unfold dX;rw [lA hi];exact h2.lead i x hi hx
theorem uP (F : bR O El) {L : ZZ} (hL : bx El m L) : dX O m (dX O m L)=dX O m L:=by
 obtain ⟨h1,h2⟩:=db F hL;have hl:=bY F hL;have h3:=sL F h1 h2 hl;have e : dX O m (dX O m L)=(dX O m L).take (aC O L m).2.length:=by show (aC O (dX O m L) m).1.take (aC O (dX O m L) m).2.length=_;rw [h3]
 rw [e,Ms (by omega)]
theorem RS.JB (F : bR O El) {L : ZZ} {f : Nat->Int} (h : ∀x,x<m->f x=0) : RS O El m L f:=by refine ⟨λ_=>0,⟨λ_ _=>F.zero,λv r x hv hr hx=>?_,λr x hr hx=>(F.dt hx).symm⟩,λx hx=>h x hx⟩;show (0 : Int)=O.add 0 (O.neg (O.mul x 0));rw [F.dt hx,F.fD,F.add_zero 0 F.zero]
theorem gd (F : bR O El) {L : ZZ} (hL : bx El m L) : gF O El m (dX O m L) L/\gF O El m L (dX O m L):=by
 obtain ⟨h1,h2,h3⟩:=jF F hL m (Mf _);have hl:=bY F hL;refine ⟨λi hi=>?_,h3.trans λi hi=>?_⟩
 ·have e : ai (dX O m L) i=ai (aC O L m).1 i:=by unfold dX;exact lA (by omega)
  rw [e];exact h2 i (by have:=h1.le;omega)
 ·by_cases e : i<(aC O L m).2.length
  ·have e2 : ai (aC O L m).1 i=ai (dX O m L) i:=by unfold dX;exact (lA e).symm
   rw [e2];exact Q5 F (by omega)
  ·exact RS.JB F λx hx=>h1.zero i x (by omega) hi hx
theorem mB (F : bR O El) {L : ZZ} (hL : bx El m L) : Rk (ie O El (dX O m L).length (aK (dX O m L))) (List.range m) (dX O m L).length:=by have h:=Fz F (dH F hL);obtain ⟨h1,h2⟩:=db F hL;rw [sL F h1 h2 (bY F hL)] at h;rw [bY F hL];rw [bY F hL] at h;exact h
def dG (O : aJ) (m : Nat) (R : ZZ) (P : Lz) (c : Nat) : Nat->Lz
 | 0=>(List.replicate m 0).set c 1
 | i+1=>(dG O m R P c i).set (nth P i).toNat (O.neg (nth (ai R i) c))
def dO (O : aJ) (m : Nat) (R : ZZ) (P : Lz) : Nat->ZZ
 | 0=>[]
 | k+1=>if (k : Int) ∈ P then dO O m R P k else dO O m R P k ++ [dG O m R P k P.length]
def gk (P : Lz) : Nat->Z6
 | 0=>[]
 | k+1=>if (k : Int) ∈ P then gk P k else gk P k ++ [k]
theorem iz (O : aJ) (m : Nat) (R : ZZ) (P : Lz) (c : Nat) : ∀i,(dG O m R P c i).length=m
 | 0=>by simp [dG]
 | i+1=>by rw [dG,M9,iz O m R P c i]
theorem iU (O : aJ) (m : Nat) (R : ZZ) (P : Lz) : ∀k,(dO O m R P k).length=(gk P k).length
 | 0=>rfl
 | k+1=>by
  rw [dO,gk];split
  ·exact iU O m R P k
  ·rw [Mp,Mp,iU O m R P k];rfl
theorem jV {P : Lz} {x : Nat} : ∀k,x ∈ gk P k ↔ x<k/\¬ (x : Int) ∈ P
 | 0=>by simp [gk]
 | k+1=>by
  rw [gk];split
  ·rename_i h;rw [jV k];constructor
   ·rintro ⟨h1,h2⟩;exact ⟨by omega,h2⟩
   ·rintro ⟨h1,h2⟩;by_cases e : x=k
    ·subst e;exact absurd h h2
    ·exact ⟨by omega,h2⟩
  ·rename_i h;rw [M0,jV k,MK];constructor
   ·rintro (⟨h1,h2⟩ | rfl)
    ·exact ⟨by omega,h2⟩
    ·exact ⟨by omega,h⟩
   ·rintro ⟨h1,h2⟩;by_cases e : x=k
    ·exact .inr e
    ·exact .inl ⟨by omega,h2⟩
theorem kU (O : aJ) (m : Nat) (R : ZZ) (P : Lz) {j : Nat} : ∀k,j<(gk P k).length->ai (dO O m R P k) j=dG O m R P ((gk P k).getD j 0) P.length
 | 0,h=>by simp [gk] at h
 | k+1,h=>by
  rw [dO,gk] at *;split
  ·rename_i hc;rw [Mg hc] at h;exact kU O m R P k h
  ·rename_i hc;rw [Mh hc,Mp,Mz] at h;have hl:=iU O m R P k;by_cases e : j<(gk P k).length
   ·have e1 : ai (dO O m R P k ++ [dG O m R P k P.length]) j=ai (dO O m R P k) j:=by unfold ai;simp only [Mk];rw [ML (by omega)]
    have e2 : (gk P k ++ [k]).getD j 0=(gk P k).getD j 0:=by simp only [Mk];rw [ML e]
    rw [e1,e2];exact kU O m R P k e
   ·have ej : j=(gk P k).length:=by omega
    have e1 : ai (dO O m R P k ++ [dG O m R P k P.length]) j=dG O m R P k P.length:=by unfold ai;simp only [Mk];rw [NI (by omega)];simp [ej,hl]
    have e2 : (gk P k ++ [k]).getD j 0=k:=by simp only [Mk];rw [NI (by omega)];simp [ej]
    rw [e1,e2]
variable {R : ZZ} {P : Lz}
theorem j5 (hP : l8 R P m) {c x : Nat} (hx : x<m) (hxc : x ≠ c) : ∀i,i<=P.length->(∀j,j<i->(nth P j).toNat ≠ x)->nth (dG O m R P c i) x=0
 | 0,_,_=>by
  by_cases hc : c<m
  ·rw [dG,dD _ _ _ _ (by simpa using hc),Mh hxc];simp [nth,Mk,MN];split <;> rfl
  ·rw [dG,NT (by simp;omega)];simp [nth,Mk,MN];split <;> rfl
 | i+1,hi,h=>by have hb:=hP.lt i (by omega);rw [dG,dD _ _ _ _ (by rw [iz];omega),Mh (λe=>h i (by omega) e.symm)];exact j5 hP hx hxc i (by omega) λj hj=>h j (by omega)
theorem lq (hP : l8 R P m) {c : Nat} (hc : c<m) (hn : ¬ (c : Int) ∈ P) : ∀i,i<=P.length->nth (dG O m R P c i) c=1
 | 0,_=>by rw [dG,dD _ _ _ _ (by simpa using hc),Mg rfl]
 | i+1,hi=>by have hb:=hP.lt i (by omega);have hne : c ≠ (nth P i).toNat:=λe=>hn (by have : nth P i ∈ P:=aN (by omega);rwa [show nth P i=(c : Int) by omega] at this);rw [dG,dD _ _ _ _ (by rw [iz];omega),Mh hne];exact lq hP hc hn i (by omega)
theorem uZ (hP : l8 R P m) (hl : pY R P) {c j : Nat} : ∀i,i<=P.length->j<i->nth (dG O m R P c i) (nth P j).toNat=O.neg (nth (ai R j) c)
 | 0,_,h=>by omega
 | i+1,hi,h=>by
  have hb:=hP.lt i (by omega);have hbj:=hP.lt j (by omega);rw [dG,dD _ _ _ _ (by rw [iz];omega)];by_cases e : j=i
  ·subst e;rw [Mg rfl]
  ·have:=hl.asc j i (by omega) (by omega);rw [Mh (by omega)];exact uZ hP hl i (by omega) (by omega)
theorem ox (F : bR O El) (hR : bx El m R) (hP : l8 R P m) (hlen : R.length=P.length) {c : Nat} (hc : c<m) : ∀i,i<=P.length->Vc El m (dG O m R P c i)
 | 0,_=>⟨iz O m R P c 0,λy hy=>by
  rw [dG] at hy;rcases Ny hy with h | rfl
  ·rw [NC h];exact F.zero
  ·exact F.one⟩
 | i+1,hi=>⟨iz O m R P c (i+1),λy hy=>by
  rw [dG] at hy;rcases Ny hy with h | rfl
  ·exact (ox F hR hP hlen hc i (by omega)).2 y h
  ·exact F.cl.neg _ (QV (hR.row (by omega)) hc)⟩
theorem mZ {P : Lz} {k j : Nat} (h : j<(gk P k).length) : (gk P k).getD j 0<k/\¬ (((gk P k).getD j 0 : Nat) : Int) ∈ P:=by
 have e : (gk P k).getD j 0=(gk P k)[j]:=by simp [Mk,h]
 rw [e];exact (jV k).1 (MM h)
theorem gU (F : bR O El) (hR : bx El m R) (hP : l8 R P m) (hlen : R.length=P.length) : bx El m (dO O m R P m):=λr hr=>by
 obtain ⟨j,hj,rfl⟩:=List.mem_iff_getElem.1 hr;have hj' : j<(gk P m).length:=by rw [<- iU O m R P m];exact hj
 rw [<- aF hj,kU O m R P m hj'];exact ox F hR hP hlen (mZ hj').1 P.length (Mf _)
theorem sM (F : bR O El) (hR : bx El m R) (hP : l8 R P m) (hl : pY R P) (hlen : R.length=P.length) : nG O m R (dO O m R P m):=λi j hi hj=>by
 rw [iU] at hj;rw [kU O m R P m hj];obtain ⟨hc,hn⟩:=mZ hj;generalize (gk P m).getD j 0=c at *;have hb:=hP.lt i (by omega);have hne : c ≠ (nth P i).toNat:=λe=>hn (by have : nth P i ∈ P:=aN (by omega);rwa [show nth P i=(c : Int) by omega] at this);have hx : El (nth (ai R i) c):=QV (hR.row hi) hc;have e1 : nth (dG O m R P c P.length) c=1:=lq hP hc hn _ (Mf _);have e2 : nth (dG O m R P c P.length) (nth P i).toNat=O.neg (nth (ai R i) c):=uZ hP hl _ (Mf _) (by omega);have e3 : nth (ai R i) (nth P i).toNat=1:=by rw [hP.one i i (by omega) hi,Mg rfl]
 rw [zf F hne (by rw [e1,F.iE hx];exact hx) (by rw [e2,e3,F.one_mul _ (F.cl.neg _ hx)];exact F.cl.neg _ hx) m λp hp hpc hpi=>?_,Mg hc,Mg (by omega),e1,e2,e3,F.iE hx,F.one_mul _ (F.cl.neg _ hx),F.add_neg _ hx];show O.mul (nth (ai R i) p) (nth (dG O m R P c P.length) p)=0;have hxp : El (nth (ai R i) p):=QV (hR.row hi) hp;by_cases hpp : ∃q,q<P.length/\(nth P q).toNat=p
 ·obtain ⟨q,hq,rfl⟩:=hpp;have hqi : i ≠ q:=λe=>hpi (by rw [e]);rw [hP.one q i hq hi,Mh hqi,F.kj ((ox F hR hP hlen hc _ (Mf _)).at hp)]
 ·rw [j5 hP hp hpc _ (Mf _) λq hq e=>hpp ⟨q,hq,e⟩,F.dt hxp]
theorem CI (F : bR O El) (hP : l8 R P m) : ∀k,k<=(gk P m).length->Rk (ie O El (dO O m R P m).length (aK (dO O m R P m))) (((gk P m).take k).reverse) k
 | 0,_=>.nil
 | k+1,hk=>by
  have ih:=CI F hP k (by omega);have hkl : k<(gk P m).length:=by omega
  have hnd : ∀K,(gk P K).Nodup:=λK=>by
   induction K with
   | zero=>exact List.nodup_nil
   | succ K ih =>
    rw [gk]
    split
    ·exact ih
    ·rw [Nq]
     refine ⟨ih,by simp,λa ha b hb=>?_⟩
     rw [MK] at hb
     rw [hb]
     have:=(jV K).1 ha
     omega
  have etk : ((gk P m).take (k+1)).reverse=(gk P m)[k] :: ((gk P m).take k).reverse:=by rw [Mu hkl,List.reverse_append];rfl
  rw [etk];refine .ind _ (λhc=>?_) ih;have hlk : k<(dO O m R P m).length:=by rw [iU];exact hkl
  have hat:=mZ (P:=P) (k:=m) hkl;have eg : (gk P m).getD k 0=(gk P m)[k]:=by simp [Mk,hkl]
  rw [eg] at hat;have h1:=hc (λv=>nth v k) (ja.vH F hlk) λy hy=>by
   rw [O2] at hy;show nth (aK _ y) k=0;rw [bM _ y k hlk,kU O m R P m hkl,eg];have hym:=(jV m).1 (Nd hy);have hyk : y ≠ (gk P m)[k]:=λe=>by obtain ⟨q,hq,e2⟩:=List.mem_iff_getElem.1 hy;rw [MJ] at hq;rw [OQ] at e2;have h3:=(List.getElem_inj (hnd m)).1 (e2.trans e);omega
   refine j5 hP hym.1 hyk _ (Mf _) λq hq e=>hym.2 ?_;have h4:=hP.lt q hq;have : nth P q ∈ P:=aN hq;rwa [show nth P q=(y : Int) by omega] at this
  have h2 : nth (aK (dO O m R P m) (gk P m)[k]) k=0:=h1;rw [bM _ _ k hlk,kU O m R P m hkl,eg,lq hP hat.1 hat.2 _ (Mf _)] at h2;exact absurd h2 (by decide)
theorem EY (P : Lz) (hP : ∀j,j<P.length->0<=nth P j/\nth P j<m) (ha : ∀i j,i<j->j<P.length->nth P i<nth P j) : (gk P m).length+P.length=m:=by
 have key : ∀k,k<=m->∃t,t<=P.length/\(gk P k).length+t=k/\(∀j,j<t->nth P j<k)/\(∀j,t<=j->j<P.length->(k : Int)<=nth P j):=by
  intro k;induction k with
  | zero=>intro _;exact ⟨0,Mj _,rfl,λj hj=>by omega,λj _ hj=>(hP j hj).1⟩
  | succ k ih =>
   intro hk
   obtain ⟨t,h1,h2,h3,h4⟩:=ih (by omega)
   rw [gk]
   by_cases hm : (k : Int) ∈ P
   ·rw [Mg hm]
    obtain ⟨q,hq,e⟩:=List.mem_iff_getElem.1 hm
    rw [<- aj hq] at e
    have hqt : q=t:=by
     by_cases h5 : q<t
     ·have:=h3 q h5;omega
     ·by_cases h6 : t<q
      ·have h7:=ha t q h6 hq;have h8:=h4 t (Mf _) (by omega);omega
      ·omega
    subst hqt
    refine ⟨q+1,by omega,by omega,λj hj=>?_,λj h5 h6=>?_⟩
    ·by_cases e2 : j=q
     ·subst e2;omega
     ·have:=h3 j (by omega);omega
    ·have:=ha q j (by omega) h6;omega
   ·rw [Mh hm,Mp,Mz]
    refine ⟨t,h1,by omega,λj hj=>by have:=h3 j hj;omega,λj h5 h6=>?_⟩
    have h7:=h4 j h5 h6
    have h8 : nth P j ≠ k:=λe=>hm (by rw [<- e];exact aN h6)
    omega
 obtain ⟨t,h1,h2,h3,h4⟩:=key m (Mf _);have : t=P.length:=by apply Mv;intro h;have h5:=h4 t (Mf _) (by omega);have h6:=hP t (by omega);omega
 omega
theorem vP (F : bR O El) (hR : bx El m R) (hP : l8 R P m) (hl : pY R P) (hlen : R.length=P.length) :
  R.length+(dX O m (dO O m R P m)).length=m/\nG O m R (dX O m (dO O m R P m)):=by
 have hK:=gU F hR hP hlen;have hcnt:=EY (m:=m) P hP.lt hl.asc;have hkl:=iU O m R P m;obtain ⟨r1,r2⟩:=gd F hK;have hO:=sM F hR hP hl hlen;refine ⟨?_,λi j hi hj=>?_⟩
 ·have h1:=mB F hK;have h2:=CI F hP (O:=O) (El:=El) (R:=R) (gk P m).length (Mf _);have hle:=(fH O (dO O m R P m) m).2;have hcl:=bY F hK;have h3:=Rk.map (cl':=ie O El (dX O m (dO O m R P m)).length (aK (dX O m (dO O m R P m)))) (λy=>y<m) id (λl x hl hx=>by rw [P8];exact ⟨r1.cl hl hx,r2.cl hl hx⟩) h2 (λy hy=>by rw [O2] at hy;exact ((jV m).1 (Nd hy)).1);have h4:=Rm (da F (dH F hK)) h3 h1 (λx hx=>(da F (dH F hK)).mem _ _ (by rw [P8,O2] at hx;exact List.mem_range.2 ((jV m).1 (Nd hx)).1));omega
 ·obtain ⟨e,he,he2⟩:=r1 j hj;rw [cT (a':=λp=>nth (ai R i) p) (b':=λp=>e (aK (dO O m R P m) p)) m λp hp=>⟨rfl,he2 p hp⟩];exact lN F hK he (λp hp=>QV (hR.row hi) hp) λq hq=>hO i q hi hq
end
def xT (O : aJ) (L : ZZ) (cols : Nat) : ZZ:=(aC O L cols).1.take (aC O L cols).2.length
def sY (O : aJ) (L : ZZ) (cols : Nat) (w : World) (e : Ending) (w' : World) : Prop :=
 ∃a c ap cp,e = .returned (.tuple #[.slice a (aC O L cols).2.length c,.slice ap (aC O L cols).2.length cp])/\bX w.heap.size w' a (aC O L cols).2.length (xT O L cols) /\
  cA w.heap.size w' ap (aC O L cols).2.length (aC O L cols).2/\Rs w w'
theorem Bk (P : Int) (m : Nat) (am : OA) (mn cm : Nat) (mod : Lz) (a : OA) (n c cols : Nat) (L : ZZ) (w : World) (hf : vW w P m am mn mod) (hi : cU w a n L)
  (hR : bx (fC P m) cols L) (hlen : cols<=1000000) (hn : n<=1000000) (hinv : ∀p,fC P m p->p ≠ 0->(ia P m mod p=1 ↔ p=1)) :
  Calls prog 120 #[.agg #[.int .i64 P,.int .i64 m,.slice am mn cm],.slice a n c,.int .i64 cols] w (sY (mQ P m mod) L cols w):=by
 have Hlen:=Z5 hi.len;have Hc : Hid (∀V,Rs w V->Calls prog 183 #[.agg #[.int .i64 P,.int .i64 m,.slice am mn cm],.slice a n c,.int .i64 cols] V (p9 (mQ P m mod) L cols V)) :=
  λV hV=>EH P m am mn cm mod a n c cols cols L V (hf.ah hV) (hi.ah hV) hR (Mf _) hlen hn hinv
 obtain ⟨O,hO⟩ : ∃O,mQ P m mod=O:=⟨_,rfl⟩
 rw [hO] at Hc ⊢;clear hO hinv hR;go_enter func120,ntmps120;go_wp2_with fail;obtain ⟨W,hW⟩ : ∃W : World,W=w.alloc (.cells #[.int .i64 P,.int .i64 m,.slice am mn cm] 24):=⟨_,rfl⟩
 rw [<- hW];have hbW : Rs w W:=by rw [hW];exact aB _ _
 clear hW;refine (Hc.out W hbW).mono ?_;rintro e w1 ⟨a1,c1,R1,ap,cp,rfl,hO1,hp1,hb1⟩;have hpl:=fH O L cols;have hcap:=rz hO1.own;have hpv:=(cA.own hp1).mono hbW.size;have hmt:=((Ro hO1).take (k:=(aC O L cols).2.length) hpl.2).mono hbW.size;have hF : sY O L cols w (.returned (.tuple #[.slice a1 (aC O L cols).2.length c1,.slice ap (aC O L cols).2.length cp])) w1:=⟨a1,_,ap,cp,rfl,hmt,hpv,QQ hbW hb1⟩
 have HF:=Z5 hF;have hle : (aC O L cols).2.length<=c1:=Mt hpl.2 hcap;clear hF hpv hmt hp1 hcap hpl;generalize (aC O L cols).2.length=k at *;go_wp2_with fail;go_ret2;simpa using HF.out
def gy (P M : Int) (mod : Lz) (cols : Int) (L : ZZ) : Int :=
 if gj P M mod cols L=0 then (if xT (mQ P M.toNat mod) L cols.toNat=L then 0 else 5) else gj P M mod cols L
theorem tV {P M : Int} {mod : Lz} (h : bF P M mod=true) : ∃m : Nat,M=m/\RF P m/\(∀(w : World) am mn,Ints w am mn mod->AD w P m am mn mod):=by
 unfold bF bZ at h;simp only [MC,bne_iff_ne,ne_eq] at h;obtain ⟨⟨⟨h1,h2⟩,h3⟩,h4⟩:=h;obtain ⟨m,rfl,hrf⟩:=RF.of h1;refine ⟨m,rfl,hrf,λw am mn hi=>⟨hi,λhm=>?_,?_⟩⟩
 ·rw [Mh (by omega)] at h3;simp only [MC,MG] at h3;have:=hi.len;omega
 ·by_cases hm : (m : Int)=1
  ·rw [Mg hm] at h3;have : mod=[]:=MF (by simpa using h3);subst this;exact Rh (by have:=hrf.p2;omega) (by simp)
  ·rw [Mh hm] at h3;simp only [MC] at h3;refine Rh (by have:=hrf.p2;omega) λx hx=>?_;have:=List.all_eq_true.1 h3.2 x hx;simpa using this
theorem Bp {P M : Int} {mod : Lz} {cols : Int} {L : ZZ} (h : gj P M mod cols L=0) : bF P M mod=true/\eZ (aU P M) cols L=0:=by
 unfold gj at h;split at h
 ·rename_i h1;exact ⟨h1,h⟩
 ·omega
theorem qM (P M : Int) (am : OA) (mn cm : Nat) (mod : Lz) (cols : Int) (a : OA) (n c : Nat) (L : ZZ) (w : World) (hmod : Ints w am mn mod) (hi : cU w a n L)
  (hinv : bF P M mod=true->∀p,fC P M.toNat p->p ≠ 0->(ia P M.toNat mod p=1 ↔ p=1)) :
  Calls prog 58 #[.agg #[.int .i64 P,.int .i64 M,.slice am mn cm],.agg #[.int .i64 cols,.slice a n c]] w λe w'=>e = .returned (.int .i64 (gy P M mod cols L))/\Rs w w':=by
 have Hlen:=Z5 hi.len;have Hinv:=Z5 hinv;clear hinv;go_enter func58,ntmps58;go_wp2_with fail;obtain ⟨W,hW⟩ : ∃W : World,W=(w.alloc (.cells #[.int .i64 P,.int .i64 M,.slice am mn cm] 24)).alloc (.cells #[.int .i64 cols,.slice a n c] 82):=⟨_,rfl⟩
 rw [<- hW];have hbW : Rs w W:=by rw [hW];exact iD _ _ _
 have x0 : bf W w.heap.size [.int .i64 P,.int .i64 M,.slice am mn cm]:=by rw [hW];exact (QS _ _ _ rfl).alloc _
 have y0 : bf W (w.heap.size+1) [.int .i64 cols,.slice a n c]:=by rw [hW];exact QS _ _ _ (by simp)
 have HX:=Z5 (My x0 y0);have hiW:=hi.ah hbW;have hmW:=hmod.ah hbW;clear hW x0 y0;refine (uF P M am mn cm mod cols a n c L W hmW hiW).mono ?_;rintro e w1 ⟨rfl,hb1⟩;have hbw1:=QQ hbW hb1;by_cases hE : gj P M mod cols L=0
 ·obtain ⟨hB,hm⟩:=Bp hE;obtain ⟨m,rfl,hrf,hmods⟩:=tV hB;obtain ⟨k,rfl,hk,hl,hR⟩:=jr hm;have HE : Hid (gy P m mod k L=if xT (mQ P m mod) L k=L then 0 else 5):=by show _=_;rw [gy,Mg hE,Mm,Mm]
  rw [hE];have hinv:=Hinv.out hB;rw [Mm] at hinv;have hRw : bx (fC P m) k L:=λr hr=>⟨(hR r hr).1,λx hx=>by have:=(hR r hr).2 x hx;rw [hrf.order] at this;exact this⟩
  have x1:=HX.out.1.ah hb1;have y1:=HX.out.2.ah hb1;have d0:=x1.cell 0 rfl;have d1:=x1.cell 1 rfl;have d2:=x1.cell 2 rfl;have d3:=y1.cell 0 rfl;have d4:=y1.cell 1 rfl;have hm1:=hmW.ah hb1;have hi1:=hiW.ah hb1;have hn : n<=1000000:=by rw [<- Hlen.out];omega
  have HC:=Z5 (Bk P m am mn cm mod a n c k L w1 ⟨hrf,hmods w1 am mn hm1⟩ hi1 hRw (by omega) hn hinv);clear hE hB hm hmods hR hinv hRw x1 y1;obtain ⟨O,hO⟩ : ∃O,mQ P m mod=O:=⟨_,rfl⟩
  rw [hO] at HC HE;clear hO;go_wp2_with fail;refine HC.out.mono ?_;rintro e w2 ⟨a2,c2,ap,cp,rfl,hM2,hp2,hb2⟩;have hbw2:=QQ hbw1 hb2;have y2:=(HX.out.2.ah hb1).ah hb2;have d3:=y2.cell 0 rfl;have d4:=y2.cell 1 rfl;have hi2:=hi1.ah hb2;have hM3:=hM2.rC;have HS:=Z5 (iG a2 (aC O L k).2.length c2 (xT O L k) a n c L hM3 hi2);clear hM2 hp2 y2;generalize (aC O L k).2.length=kk at *;by_cases hc : xT O L k=L
  ·have hc' : decide (xT O L k=L)=true:=by simpa using hc
   have HF : Hid (gy P m mod k L=0):=by show _=_;rw [HE.out,Mg hc]
   rw [hc'] at HS;clear hc hc';go_wp2_with fail;refine HS.out.mono ?_;rintro e w3 ⟨rfl,hd3⟩;go_wp2_with fail;go_ret;exact ⟨aI HF.out.symm,QQ hbw2 hd3.below⟩
  ·have hc' : decide (xT O L k=L)=false:=by simpa using hc
   have HF : Hid (gy P m mod k L=5):=by show _=_;rw [HE.out,Mh hc]
   rw [hc'] at HS;clear hc hc';go_wp2_with fail;refine HS.out.mono ?_;rintro e w3 ⟨rfl,hd3⟩;go_wp2_with fail;go_ret;exact ⟨aI HF.out.symm,QQ hbw2 hd3.below⟩
 ·have HE : Hid (gy P M mod cols L=gj P M mod cols L):=by show _=_;rw [gy,Mh hE]
  have hE' : (gj P M mod cols L != 0)=true:=by simpa using hE
  clear hE;go_wp2_with fail;go_ret;exact ⟨aI HE.out.symm,hbw1⟩
theorem IU {N : Int} (h : N<1) : jJ N=4:=by rw [jJ,Mg (.inl h)]
theorem IL {N : Int} (h : 64<N) : jJ N=4:=by rw [jJ,Mg (.inr h)]
theorem wB {N : Int} (h1 : ¬ N<1) (h2 : ¬ 64<N) : jJ N=0:=by rw [jJ,Mh (by omega)]
def ke (P M : Int) (mod : Lz) (N : Int) (L : ZZ) : Int :=
 if bF P M mod=true then (if jJ N=0 then gy P M mod N L else 4) else 1
theorem mf (P M : Int) (am : OA) (mn cm : Nat) (mod : Lz) (N : Int) (a : OA) (n c : Nat) (L : ZZ) (w : World) (hmod : Ints w am mn mod) (hi : cU w a n L)
  (hinv : bF P M mod=true->∀p,fC P M.toNat p->p ≠ 0->(ia P M.toNat mod p=1 ↔ p=1)) :
  Calls prog 22 #[.agg #[.int .i64 P,.int .i64 M,.slice am mn cm,.int .i64 N,.slice a n c]] w λe w'=>e = .returned (.int .i64 (ke P M mod N L))/\Rs w w':=by
 have Hinv:=Z5 hinv;clear hinv;go_enter func22,ntmps22;go_wp2_with fail;obtain ⟨W,hW⟩ : ∃W : World,W=w.alloc (.cells #[.int .i64 P,.int .i64 M,.slice am mn cm,.int .i64 N,.slice a n c] 27):=⟨_,rfl⟩
 rw [<- hW];have hbW : Rs w W:=by rw [hW];exact aB _ _
 have x0 : bf W w.heap.size [.int .i64 P,.int .i64 M,.slice am mn cm,.int .i64 N,.slice a n c]:=by rw [hW];exact QS _ _ _ rfl
 have HX:=Z5 x0;clear hW x0;refine (lH P M am mn cm mod W (hmod.ah hbW)).mono ?_;rintro e w1 ⟨rfl,hb1⟩;have hbw1:=QQ hbW hb1;by_cases hB : bF P M mod=true
 ·have hE : cH (bF P M mod)=0:=by rw [hB];rfl
  rw [hE];have HB : Hid (ke P M mod N L=if jJ N=0 then gy P M mod N L else 4):=by show _=_;rw [ke,Mg hB]
  have x1:=HX.out.ah hb1;have c0:=x1.cell 0 rfl;have c1:=x1.cell 1 rfl;have c2:=x1.cell 2 rfl;have c3:=x1.cell 3 rfl;have c4:=x1.cell 4 rfl;have hm1:=(hmod.ah hbW).ah hb1;have hi1:=(hi.ah hbW).ah hb1;clear hE hB x1;by_cases h1 : N<1
  ·have Hf : Hid (ke P M mod N L=4):=by show _=_;rw [HB.out,IU h1];rfl
   have t1 : decide (N<1)=true:=by simpa using h1
   go_wp2_with fail;go_ret;exact ⟨aI Hf.out.symm,hbw1⟩
  ·have t1 : decide (N<1)=false:=by simpa using h1
   by_cases h2 : 64<N
   ·have Hf : Hid (ke P M mod N L=4):=by show _=_;rw [HB.out,IL h2];rfl
    have t2 : decide (64<N)=true:=by simpa using h2
    go_wp2_with fail;go_ret;exact ⟨aI Hf.out.symm,hbw1⟩
   ·have t2 : decide (64<N)=false:=by simpa using h2
    have Hf : Hid (ke P M mod N L=gy P M mod N L):=by show _=_;rw [HB.out,wB h1 h2,Mg rfl]
    clear h1 h2;go_wp2_with fail;refine (qM P M am mn cm mod N a n c L w1 hm1 hi1 Hinv.out).mono ?_;rintro e w2 ⟨rfl,hb2⟩;go_wp2_with fail;go_ret;exact ⟨aI Hf.out.symm,QQ hbw1 hb2⟩
 ·have hB' : bF P M mod=false:=by simpa using hB
  have Hf : Hid (ke P M mod N L=1):=by show _=_;rw [ke,Mh hB]
  have hE : cH (bF P M mod)=1:=by rw [hB'];rfl
  rw [hE];clear hB hB' hE;go_wp2_with fail;go_ret;exact ⟨aI Hf.out.symm,hbw1⟩
theorem zJ (O : aJ) (L : ZZ) (Q : Lz) : ∀k,(cO O L Q k).2.length<=k
 | 0=>Mf _
 | k+1=>by
  have:=zJ O L Q k;simp only [cO];split
  ·simp;omega
  ·omega
theorem IW (O : aJ) (L : ZZ) (Q : Lz) : (jP O L Q).length<=Q.length:=zJ O L Q _
def sC (x : Nat) : Nat:=18446744073709551615 ^^^ x
theorem vN (x i : Nat) (hi : i<64) : (sC x).testBit i = !x.testBit i:=by
 have h : (18446744073709551615 : Nat).testBit i=true:=by have:=Pk 64 i;rw [show (2 : Nat) ^ 64 - 1=18446744073709551615 by decide] at this;rw [this];simp [hi]
 rw [sC,QH,h];simp
def G8 (O : aJ) (L : ZZ) (N x : Nat) : Int:=(jP O L (aQ x N)).length+(jP O L (aQ (sC x) N)).length - L.length
def pO (Q : Lz) : Nat->Nat
 | 0=>0
 | k+1=>pO Q k ||| 2 ^ (nth Q k).toNat
def uM (Q : Lz) : Nat:=pO Q Q.length
theorem vh {Q : Lz} : ∀k,(∀j,j<k->0<=nth Q j/\nth Q j<64)->pO Q k<18446744073709551616
 | 0,_=>by show (0 : Nat)<18446744073709551616;omega
 | k+1,h=>by have ih:=vh k λj hj=>h j (by omega);have hk:=h k (by omega);have : 2 ^ (nth Q k).toNat<2 ^ 64:=O5 (by omega) (by omega);exact Qt (n:=64) ih this
def C9 (P M : Int) (mod : Lz) (N : Int) (L : ZZ) (Q : Lz) (w : World) (e : Ending) (w' : World) : Prop :=
 Rs w w'/\(
  (aH P M mod N L ≠ 0/\e = .returned (.tuple #[.int .i64 0,.int .i64 (aH P M mod N L)])) \/
  (aH P M mod N L=0/\bG N Q=false/\e = .returned (.tuple #[.int .i64 0,.int .i64 5])) \/
  (aH P M mod N L=0/\bG N Q=true/\e = .returned (.tuple #[.int .i64 (G8 (aa P M.toNat mod).ops L N.toNat (uM Q)),.int .i64 0])))
theorem rY (f : Int->Int) : ∀(n : Nat) (y z : Int),y<=z->z<y+n->f z=1->f (iN f n y)=1/\y<=iN f n y/\iN f n y<y+n
 | 0,y,z,h1,h2,_=>by omega
 | n+1,y,z,h1,h2,hz=>by
  unfold iN;split
  ·exact ⟨by assumption,by omega,by omega⟩
  ·rename_i hn;have hne : y ≠ z:=λe=>hn (e ▸ hz);have:=rY f n (y+1) z (by omega) (by omega) hz;exact ⟨this.1,by omega,by omega⟩
theorem tL {P M : Int} {mod : Lz} (h : bQ P M mod=true) : ∃m : Nat,M=m/\fC P m=(aa P m mod).El/\((aa P m mod).q : Int)=aU P M/\bR (aa P m mod).ops (fC P m)/\Kt (aa P m mod).ops (mQ P m mod) (fC P m) /\
  ∀p,fC P m p->p ≠ 0->(ia P m mod p=1 ↔ p=1):=by
 have hF:=jy h;obtain ⟨m,y,rfl,hr,h256,hsh,hq,g⟩:=tS h;have hrf : RF P m:=by
  obtain ⟨m',e,h2,_⟩:=tV (by rw [lz];exact h);have : m=m':=by omega
  rw [this];exact h2
 rw [Mm] at hF;have e : fC P m=(aa P m mod).El:=by funext x;simp only [cJ.El,aa,fC];rw [hq]
 rw [<- e] at hF;have hq2:=g.q2;have hmul : ∀x z,fC P m x->fC P m z->(aa P m mod).ops.mul x z=mulR P m mod x z:=λx z hx hz=>by rw [JA hrf];exact g.CF hx hz
 have hqo : ((aU P m).toNat : Int)=aU P m:=by omega
 have hinv : ∀x,fC P m x->x ≠ 0->(aa P m mod).ops.inv x=ia P m mod x:=by
  intro x hx h0;have hi:=hF.cl.inv x hx h0;have hm:=hF.mul_inv x hx h0;rw [hmul x _ hx hi] at hm;have hi0 : (aa P m mod).ops.inv x ≠ 0:=by intro e0;have h2:=hF.mul_inv x hx h0;rw [e0,hF.dt hx] at h2;exact absurd h2 (by decide)
  have hb1:=hi.1;have hb2:=hi.2;obtain ⟨h1,h2,h3⟩:=rY (mulR P m mod x) ((aU P m).toNat - 1) 1 _ (by omega) (by omega) hm;have hel : fC P m (ia P m mod x):=⟨by unfold ia;omega,by unfold ia;omega⟩
  have h4 : (aa P m mod).ops.mul x (ia P m mod x)=1:=by rw [hmul x _ hx hel];exact h1
  have h5:=hF.mul_inv x hx h0;have e1 : (aa P m mod).ops.mul ((aa P m mod).ops.inv x) ((aa P m mod).ops.mul x (ia P m mod x))=ia P m mod x:=by rw [<- hF.mul_assoc _ x _ hi hx hel,hF.mul_comm _ x hi hx,h5,hF.one_mul _ hel]
  rw [h4,hF.iE hi] at e1;exact e1
 refine ⟨m,rfl,e,hqo,hF,⟨λx z _ _=>rfl,hmul,λx _=>rfl,hinv⟩,λp hp h0=>?_⟩;rw [<- hinv p hp h0];have hi:=hF.cl.inv p hp h0;have hm:=hF.mul_inv p hp h0;constructor
 ·intro e1;rw [e1,hF.iE hp] at hm;exact hm
 ·intro e1;rw [e1] at hm hi ⊢;rw [hF.one_mul _ hi] at hm;exact hm
theorem zX {P M : Int} {mod : Lz} (h : bF P M mod=true) : ∀p,fC P M.toNat p->p ≠ 0->(ia P M.toNat mod p=1 ↔ p=1):=by obtain ⟨m,rfl,_,_,_,_,h6⟩:=tL (by rw [<- lz];exact h);exact h6
theorem H8 (P M : Int) (mod : Lz) (cols : Int) (L : ZZ) : gj P M mod cols L=ef P M mod cols L:=by
 unfold gj ef;rw [lz];split
 ·rename_i h;obtain ⟨m,rfl,_,hq,_⟩:=tL h;rw [Mm,hq]
 ·rfl
theorem IE {P M : Int} {mod : Lz} (h : bQ P M mod=true) {L : ZZ} {m : Nat} (hL : bx (aa P M.toNat mod).El m L) : xT (mQ P M.toNat mod) L m=eW (aa P M.toNat mod) L m:=by obtain ⟨k,rfl,he,_,hF,hA,_⟩:=tL h;rw [Mm] at hL ⊢;rw [<- he] at hL;unfold xT eW;rw [(nJ hA hF.cl hL m (Mf _)).1]
theorem AY (P M : Int) (mod : Lz) (cols : Int) (L : ZZ) : gy P M mod cols L=eF P M mod cols L:=by
 unfold gy eF;rw [H8];split
 ·rename_i h0;obtain ⟨h1,h2⟩:=fF h0;obtain ⟨m,rfl,_,_,hR⟩:=jr h2;rw [Mm,IE h1 hR]
 ·rfl
theorem vA (P M : Int) (mod : Lz) (N : Int) (L : ZZ) : ke P M mod N L=aH P M mod N L:=by unfold ke aH;rw [lz,AY]
theorem aS {P M : Int} {mod : Lz} {N : Int} {L : ZZ} (h : aH P M mod N L=0) : ∃n : Nat,N=n/\1<=n/\n<=64/\bR (aa P M.toNat mod).ops (aa P M.toNat mod).El/\bx (aa P M.toNat mod).El n L:=by obtain ⟨m,rfl,h1,h2,_,hR⟩:=eJ h;exact ⟨m,rfl,h1,h2,jy (bL h).1,hR⟩
theorem jM (x : Nat) (i : Int) : ∀k,i ∈ aQ x k ↔ ∃j : Nat,j<k/\i=j/\x.testBit j=true
 | 0=>by simp [aQ]
 | k+1=>by
  have ih:=jM x i k;unfold aQ;split
  ·rename_i ht;rw [M0,ih,MK];constructor
   ·rintro (⟨j,h1,h2,h3⟩ | rfl)
    ·exact ⟨j,by omega,h2,h3⟩
    ·exact ⟨k,by omega,rfl,ht⟩
   ·rintro ⟨j,h1,h2,h3⟩;by_cases e : j=k
    ·subst e;exact .inr h2
    ·exact .inl ⟨j,by omega,h2,h3⟩
  ·rename_i ht;rw [ih];constructor
   ·rintro ⟨j,h1,h2,h3⟩;exact ⟨j,by omega,h2,h3⟩
   ·rintro ⟨j,h1,h2,h3⟩;by_cases e : j=k
    ·subst e;exact absurd h3 ht
    ·exact ⟨j,by omega,h2,h3⟩
theorem kZ (x N : Nat) (i : Nat) : i ∈ kT (aQ x N) (aQ x N).length ↔ i<N/\x.testBit i=true:=by
 rw [gR];constructor
 ·rintro ⟨j,hj,e⟩;have hm : nth (aQ x N) j ∈ aQ x N:=aN hj;obtain ⟨t,h1,h2,h3⟩:=(jM x _ N).1 hm;have : t=i:=by omega
  subst this;exact ⟨h1,h3⟩
 ·rintro ⟨h1,h2⟩;have hm : (i : Int) ∈ aQ x N:=(jM x _ N).2 ⟨i,h1,rfl,h2⟩;obtain ⟨j,hj,e⟩:=List.mem_iff_getElem.1 hm;exact ⟨j,hj,by rw [aj hj,e];rfl⟩
theorem qH {Q : Lz} : ∀k,(∀j,j<k->0<=nth Q j/\nth Q j<64)->∀i,(pO Q k).testBit i=true ↔ ∃j,j<k/\nth Q j=(i : Int)
 | 0,_,i=>by simp [pO]
 | k+1,h,i=>by
  have ih:=qH k (λj hj=>h j (by omega)) i;have hk:=h k (by omega);rw [pO,Nat.testBit_or,Pc,ih,Nat.testBit_two_pow,MG];constructor
  ·rintro (⟨j,h1,h2⟩ | h1)
   ·exact ⟨j,by omega,h2⟩
   ·exact ⟨k,by omega,by omega⟩
  ·rintro ⟨j,h1,h2⟩;by_cases e : j=k
   ·subst e;exact .inr (by omega)
   ·exact .inl ⟨j,by omega,h2⟩
section
variable {P M : Int} {mod : Lz} {n : Nat} {L : ZZ}
end
def qW (n : Nat) (Q : Lz) : Prop:=∀j,j<Q.length->0<=nth Q j/\nth Q j<n
theorem aY.lit (w : World) {B : Nat} (hB : B<=w.heap.size) : aY (w.alloc (.cells #[] 22)) B (some ⟨w.heap.size,0,none⟩) 0 0 [] [] :=
 ⟨rfl,rfl,bg (mL w 22) hB,λi hi=>by omega,λi hi=>by omega,λi j hi=>by omega⟩
theorem Ac (f : Lz->Lz) (L : ZZ) {k : Nat} (hk : k<L.length) : ai (L.map f) k=f (ai L k):=by rw [aF (by simpa using hk),aF hk];simp
theorem qW.bd {n : Nat} {Q : Lz} (h : qW n Q) (hn : n<=64) {k : Nat} (hk : k<=Q.length) : ∀j,j<k->0<=nth Q j/\nth Q j<64:=λj hj=>by have:=h j (by omega);omega
theorem qW.LY {n : Nat} {Q : Lz} (h : bG n Q=true) : qW n Q:=λj hj=>by have:=gr h hj;omega
theorem qW.bits (x n : Nat) : qW n (aQ x n):=λj hj=>lU x n j hj
theorem qW.mask {n : Nat} {Q : Lz} (h : qW n Q) (hn : n<=64) : uM Q<18446744073709551616:=vh _ (h.bd hn (Mf _))
def KS (P M : Int) (mod : Lz) (N : Int) (L : ZZ) (Q : Lz) : Int × Int :=
 if aH P M mod N L=0 then (if bG N Q=true then (G8 (aa P M.toNat mod).ops L N.toNat (uM Q),0) else (0,5)) else (0,aH P M mod N L)
theorem C9.val {P M : Int} {mod : Lz} {N : Int} {L : ZZ} {Q : Lz} {w : World} {e : Ending} {w' : World} (h : C9 P M mod N L Q w e w') :
  e = .returned (.tuple #[.int .i64 (KS P M mod N L Q).1,.int .i64 (KS P M mod N L Q).2])/\Rs w w':=by
 obtain ⟨hb,h⟩:=h;refine ⟨?_,hb⟩;unfold KS;rcases h with ⟨h1,rfl⟩ | ⟨h1,h2,rfl⟩ | ⟨h1,h2,rfl⟩
 ·rw [Mh h1]
 ·rw [Mg h1,Mh (by rw [h2];decide)]
 ·rw [Mg h1,Mg h2]
theorem rF (x : Nat) : ∀k,k<=64->(aQ x k).length+(aQ (sC x) k).length=k
 | 0,_=>rfl
 | k+1,hk=>by have ih:=rF x k (by omega);have hc:=vN x k (by omega);rw [aQ,aQ,hc];cases hx : x.testBit k <;> simp <;> omega
theorem DF (a : OA) (n c : Nat) (l : Lz) (v : Int) (w : World) (h : Ints w a n l) :
  Calls prog 131 #[.slice a n c,.int .i64 v] w λe w'=>∃z : Int,e = .returned (.int .i64 z)/\(0<=z ↔ v ∈ l)/\w'=w:=by
 have Hl:=Z5 h.len;have hpl:=h.pl;have hmax:=h.max;unfold maxLen at hmax;go_enter func131,ntmps131;go_wp2_with fail;go_loopw [8] (λiv wr=>∃k : Nat,k<=n/\iv = .int .i64 k/\Hid (∀j,j<k->nth l j ≠ v)/\wr=w) (λi _=>n - (intOf i).toNat);case atStart=>exact ⟨0,Mj _,rfl,λj hj=>by omega,rfl⟩
 case round =>
  obtain ⟨k,hk,rfl,hno,rfl⟩:=hrel
  by_cases hlt : k<n
  ·have c1:=h.cell k hlt
   by_cases he : nth l k=v
   ·have he' : (v == nth l k)=true:=by rw [he];simp
    have Hm : Hid (v ∈ l):=by show v ∈ l;rw [<- he];exact aN (by rw [Hl.out];exact hlt)
    clear he
    go_wp2_with fail
    go_ret
    exact ⟨k,rfl,⟨λ_=>Hm.out,λ_=>Int.natCast_nonneg _⟩,rfl⟩
   ·have he' : (v == nth l k)=false:=by simpa using λe=>he e.symm
    have Hn2 : Hid (∀j,j<k+1->nth l j ≠ v):=λj hj=>by
     by_cases e : j=k
     ·subst e;exact he
     ·exact hno.out j (by omega)
    clear he
    go_wp2_with fail
    go_roundw
    case rel=>exact ⟨k+1,by omega,by go_num,Hn2.out,by simp⟩
    case measure=>simp [intOf] <;> omega
  ·obtain rfl : k=n:=by omega
   have Hm : Hid (¬ v ∈ l):=λhm=>by obtain ⟨j,hj,e⟩:=List.mem_iff_getElem.1 hm;rw [<- aj hj] at e;exact hno.out j (by have:=Hl.out;omega) e
   go_wp2_with fail
   go_ret
   exact ⟨-1,rfl,⟨λh=>absurd h (by omega),λh=>absurd h Hm.out⟩,rfl⟩
theorem bI (a : OA) (n c : Nat) (l : Lz) (v : Int) (w : World) (h : Ints w a n l) :
  Calls prog 68 #[.slice a n c,.int .i64 v] w λe w'=>e = .returned (.bool (decide (v ∈ l)))/\w'=w:=by
 go_enter func68,ntmps68;go_wp2_with fail;refine (DF a n c l v w h).mono ?_;rintro e w1 ⟨z,rfl,hz,rfl⟩;by_cases h0 : 0<=z
 ·have Hz : Hid (decide (v ∈ l)=true):=by show _=_;simpa using hz.1 h0
  have h0' : decide (0<=z)=true:=by simpa using h0
  clear hz h0;go_wp2_with fail;go_ret;exact ⟨bz Hz.out.symm,rfl⟩
 ·have Hz : Hid (decide (v ∈ l)=false):=by show _=_;simpa using λh=>h0 (hz.2 h)
  have h0' : decide (0<=z)=false:=by simpa using h0
  clear hz h0;go_wp2_with fail;go_ret;exact ⟨bz Hz.out.symm,rfl⟩
def ei (G : cJ) (L : ZZ) (m : Nat) : ZZ:=eW G (dO G.ops m (eW G L m) (ee G L m) m) m
def Dj (G : cJ) (L : ZZ) (m : Nat) (w : World) (e : Ending) (w' : World) : Prop :=
 ∃a c,e = .returned (.tuple #[.agg #[.int .i64 m,.slice a (ei G L m).length c],.int .i64 0])/\bX w.heap.size w' a (ei G L m).length (ei G L m)/\Rs w w'
theorem Fm (P : Lz) : ∀k,(gk P k).length<=k
 | 0=>Mf _
 | k+1=>by have:=Fm P k;rw [gk];split <;> simp <;> omega
def Db (P M : Int) (mod : Lz) (w : World) (e : Ending) (w' : World) : Prop :=
 ∃a c,e = .returned (.agg #[.int .i64 P,.int .i64 M,.slice a mod.length c])/\cA w.heap.size w' a mod.length mod/\Rs w w'
theorem Jv (P M : Int) (am : OA) (mn cm : Nat) (mod : Lz) (w : World) (hmod : Ints w am mn mod) (hmn : mn<=1000000) :
  Calls prog 147 #[.agg #[.int .i64 P,.int .i64 M,.slice am mn cm]] w (Db P M mod w):=by
 go_enter func147,ntmps147;go_wp2_with fail;obtain ⟨W,hW⟩ : ∃W : World,W=(w.alloc (.cells #[.int .i64 P,.int .i64 M,.slice am mn cm] 24)).alloc (.cells #[.int .i64 0,.int .i64 0,.slice none 0 0] 24):=⟨_,rfl⟩
 rw [<- hW];have hbW : Rs w W:=by rw [hW];exact iD _ _ _
 have hsW : W.heap.size=w.heap.size+2:=by rw [hW];simp
 have x0 : bf W w.heap.size [.int .i64 P,.int .i64 M,.slice am mn cm]:=by rw [hW];exact (QS _ _ _ rfl).alloc _
 have y0 : bf W (w.heap.size+1) [.int .i64 0,.int .i64 0,.slice none 0 0]:=by rw [hW];exact QS _ _ _ (by simp)
 clear hW;refine (eo am mn cm mod (hmod.ah hbW) hmn).mono ?_;rintro e w1 ⟨a1,c1,rfl,hown1,hb1⟩;have x1:=x0.ah hb1;have y1:=y0.ah hb1;have d0:=x1.cell 0 rfl;have d1:=x1.cell 1 rfl;have d2:=x1.cell 2 rfl;have e0:=y1.cell 0 rfl;have e1:=y1.cell 1 rfl;have e2:=y1.cell 2 rfl;have fx:=x1.frozen 2;have f0:=y1.frozen 0;have f1:=y1.frozen 1;have f2:=y1.frozen 2;have hbw1:=QQ hbW hb1;have hl:=Z5 (cA.own hown1);have hN : cA w.heap.size ((((w1.setCell ⟨w.heap.size,2,none⟩ (.slice a1 mod.length c1)).setCell ⟨w.heap.size+1,0,none⟩ (.int .i64 P)).setCell ⟨w.heap.size+1,1,none⟩ (.int .i64 M)).setCell ⟨w.heap.size+1,2,none⟩ (.slice a1 mod.length c1)) a1 mod.length mod :=
  ((((hl.out.setCell (p:=⟨w.heap.size,2,none⟩) (by simp;omega) _).setCell (p:=⟨w.heap.size+1,0,none⟩) (by simp;omega) _).setCell (p:=⟨w.heap.size+1,1,none⟩) (by simp;omega) _).setCell (p:=⟨w.heap.size+1,2,none⟩) (by simp;omega) _).mono (by omega)
 have hB : Rs w ((((w1.setCell ⟨w.heap.size,2,none⟩ (.slice a1 mod.length c1)).setCell ⟨w.heap.size+1,0,none⟩ (.int .i64 P)).setCell ⟨w.heap.size+1,1,none⟩ (.int .i64 M)).setCell ⟨w.heap.size+1,2,none⟩ (.slice a1 mod.length c1)) :=
  (((hbw1.setCell (p:=⟨w.heap.size,2,none⟩) (by simp) _).setCell (p:=⟨w.heap.size+1,0,none⟩) (by simp) _).setCell (p:=⟨w.heap.size+1,1,none⟩) (by simp) _).setCell (p:=⟨w.heap.size+1,2,none⟩) (by simp) _
 have HF:=Z5 (My hN hB);clear hN hB hown1 hl x0 y0 hbw1;go_wp2_with fail;exact bodyPost_ret (v:=.agg #[.int .i64 P,.int .i64 M,.slice a1 mod.length c1]) (by simp [results,results147,go_sem,e0,e1,e2]) rfl ⟨a1,c1,rfl,HF.out.1,HF.out.2⟩
def BT (P M : Int) (mod : Lz) (m : Int) (a : OA) (k c : Nat) (w : World) (e : Ending) (w' : World) : Prop :=
 ∃a1 c1,e = .returned (.tuple #[.agg #[.int .i64 P,.int .i64 M,.slice a1 mod.length c1,.int .i64 m,.slice a k c],.int .i64 0])/\cA w.heap.size w' a1 mod.length mod/\Rs w w'
theorem Kq (P M : Int) (am : OA) (mn cm : Nat) (mod : Lz) (m : Int) (a : OA) (k c : Nat) (w : World) (hmod : Ints w am mn mod) (hmn : mn<=1000000) :
  Calls prog 78 #[.agg #[.int .i64 P,.int .i64 M,.slice am mn cm],.agg #[.int .i64 m,.slice a k c],.int .i64 0] w (BT P M mod m a k c w):=by
 go_enter func78,ntmps78;go_wp2_with fail;obtain ⟨W,hW⟩ : ∃W : World,W=((w.alloc (.cells #[.int .i64 P,.int .i64 M,.slice am mn cm] 24)).alloc (.cells #[.int .i64 m,.slice a k c] 82)).alloc (.cells #[.int .i64 0,.int .i64 0,.slice none 0 0,.int .i64 0,.slice none 0 0] 27):=⟨_,rfl⟩
 rw [<- hW];have hbW : Rs w W:=by rw [hW];exact tu _ _ _ _
 have hsW : W.heap.size=w.heap.size+3:=by rw [hW];simp
 have x0 : bf W w.heap.size [.int .i64 P,.int .i64 M,.slice am mn cm]:=by rw [hW];exact ((QS _ _ _ rfl).alloc _).alloc _
 have y0 : bf W (w.heap.size+1) [.int .i64 m,.slice a k c]:=by rw [hW];exact (QS _ _ _ (by simp)).alloc _
 have z0 : bf W (w.heap.size+1+1) [.int .i64 0,.int .i64 0,.slice none 0 0,.int .i64 0,.slice none 0 0]:=by rw [hW];exact QS _ _ _ (by simp)
 have Hown : Hid (∀V,Rs W V->Calls prog 147 #[.agg #[.int .i64 P,.int .i64 M,.slice am mn cm]] V (Db P M mod V)):=λV hV=>Jv P M am mn cm mod V (hmod.ah (QQ hbW hV)) hmn;have hS : ∀V,Rs W V->V.cell? ⟨w.heap.size,0,none⟩=some (.int .i64 P)/\V.cell? ⟨w.heap.size,1,none⟩=some (.int .i64 M)/\V.cell? ⟨w.heap.size,2,none⟩=some (.slice am mn cm)/\V.cell? ⟨w.heap.size+1,0,none⟩=some (.int .i64 m)/\V.cell? ⟨w.heap.size+1,1,none⟩=some (.slice a k c) /\
   bf V (w.heap.size+1+1) [.int .i64 0,.int .i64 0,.slice none 0 0,.int .i64 0,.slice none 0 0]:=λV hV=>by have x1:=x0.ah hV;have y1:=y0.ah hV;exact ⟨x1.cell 0 rfl,x1.cell 1 rfl,x1.cell 2 rfl,y1.cell 0 rfl,y1.cell 1 rfl,z0.ah hV⟩
 have HS:=Z5 hS;have HbW:=Z5 hbW;have HsW:=Z5 hsW;obtain ⟨c0,c1,c2,c3,c4,_⟩:=HS.out W (Mi _ _);have HP : Hid (∀(w4 : World) (a4 : OA) (c4' : Nat),cA W.drew.heap.size w4 a4 mod.length mod->Below W.drew.heap.size W.drew w4 ->
   BT P M mod m a k c w (.returned (.tuple #[.agg #[.int .i64 P,.int .i64 M,.slice a4 mod.length c4',.int .i64 m,.slice a k c],.int .i64 0]))
    (((((w4.setCell ⟨w.heap.size+1+1,0,none⟩ (.int .i64 P)).setCell ⟨w.heap.size+1+1,1,none⟩ (.int .i64 M)).setCell ⟨w.heap.size+1+1,2,none⟩ (.slice a4 mod.length c4')).setCell ⟨w.heap.size+1+1,3,none⟩ (.int .i64 m)).setCell ⟨w.heap.size+1+1,4,none⟩ (.slice a k c))):=λw4 a4 c4' h1 h2=>by
  have h1' : cA W.heap.size w4 a4 mod.length mod:=h1;have hb:=QQ hbW (QQ (Mi _ _).drew h2);have hs:=HsW.out;refine ⟨a4,c4',rfl,?_,?_⟩
  ·exact (((((h1'.setCell (p:=⟨w.heap.size+1+1,0,none⟩) (by simp;omega) _).setCell (p:=⟨w.heap.size+1+1,1,none⟩) (by simp;omega) _).setCell (p:=⟨w.heap.size+1+1,2,none⟩) (by simp;omega) _).setCell (p:=⟨w.heap.size+1+1,3,none⟩) (by simp;omega) _).setCell (p:=⟨w.heap.size+1+1,4,none⟩) (by simp;omega) _).mono (by omega)
  ·exact ((((hb.setCell (p:=⟨w.heap.size+1+1,0,none⟩) (by simp;omega) _).setCell (p:=⟨w.heap.size+1+1,1,none⟩) (by simp;omega) _).setCell (p:=⟨w.heap.size+1+1,2,none⟩) (by simp;omega) _).setCell (p:=⟨w.heap.size+1+1,3,none⟩) (by simp;omega) _).setCell (p:=⟨w.heap.size+1+1,4,none⟩) (by simp;omega) _
 clear hW x0 y0 z0 hS hmod hbW hsW;go_wp2_with fail;go_region_law (
  (go_simp;go_at_call 147;((with_reducible refine (Hown.out _ (Mi _ _).drew).mono ?_);rintro e w4 ⟨a4,c4',rfl,hN4,hb4⟩;obtain ⟨c0,c1,c2,c3,c4,zz⟩:=HS.out w4 (QQ (Mi _ _).drew hb4);have z0:=zz.cell 0 rfl;have z1:=zz.cell 1 rfl;have z2:=zz.cell 2 rfl;have z3:=zz.cell 3 rfl;have z4:=zz.cell 4 rfl;have f0:=zz.frozen 0;have f1:=zz.frozen 1;have f2:=zz.frozen 2;have f3:=zz.frozen 3;have f4:=zz.frozen 4)))
 all_goals (
  have HP4:=Z5 (HP.out w4 a4 c4' hN4 hb4)
  clear hN4 hb4 Hown HS HP
  go_wp2_with fail
  exact bodyPost_ret (v:=.tuple #[.agg #[.int .i64 P,.int .i64 M,.slice a4 mod.length c4',.int .i64 m,.slice a k c],.int .i64 0]) (by simp [results,results78,go_sem,z0,z1,z2,z3,z4]) rfl HP4.out)
theorem JR {P M : Int} {mod : Lz} (h : bQ P M mod=true) : mod.length<=8:=by
 unfold bQ bZ at h;simp only [MC,bne_iff_ne,ne_eq] at h;obtain ⟨⟨⟨h1,_⟩,h3⟩,_⟩:=h;have h2:=ik h1;by_cases hM : M=1
 ·rw [Mg hM] at h3;have : mod.length=0:=by simpa using h3
  omega
 ·rw [Mh hM] at h3;simp only [MC,MG] at h3;omega
theorem ER {P M : Int} {mod : Lz} {m : Nat} {L : ZZ} (hE : aH P M mod m L=0) :
  aH P M mod m (ei (aa P M.toNat mod) L m)=0/\∀x,G8 (aa P M.toNat mod).ops (ei (aa P M.toNat mod) L m) m x=G8 (aa P M.toNat mod).ops L m x:=by
 obtain ⟨N',e,hm1,hm64,F,hR⟩:=aS hE;obtain rfl : m=N':=by omega
 obtain ⟨hfB,h1,h64,h4⟩:=bL hE;obtain ⟨h5,h6⟩:=dK h4;rw [Mm] at h6;have hcan : dX (aa P M.toNat mod).ops m L=L:=h6;obtain ⟨hPv,hLd⟩:=db F hR;have hcl:=bY F hR;rw [hcan] at hPv hLd hcl;have hK:=gU F hR hPv hcl;have hdl : ei (aa P M.toNat mod) L m=dX (aa P M.toNat mod).ops m (dO (aa P M.toNat mod).ops m L (aC (aa P M.toNat mod).ops L m).2 m):=by unfold ei ee;rw [h6];rfl
 obtain ⟨k1,k2⟩:=vP F hR hPv hLd hcl;have hKR:=dH F hK;have hidem:=uP F hK;have hrk:=mB F hK;have hrg:=mB F hR;rw [hcan] at hrg;rw [<- hdl] at k1 k2 hKR hidem hrk;generalize ei (aa P M.toNat mod) L m=D at *;constructor
 ·have hq : ((aa P M.toNat mod).q : Int)=aU P M\/True:=.inr trivial;have hm : eZ (aa P M.toNat mod).q m D=0:=by
   unfold eZ;rw [Mh (by omega)];have hsh : iy (m : Int) D=true:=by unfold iy;rw [MX];intro r hr;have:=(hKR r hr).1;simp;omega
   rw [Mh (by rw [hsh];decide),Mg];rw [MX];intro r hr;unfold kD jO;rw [MX];intro x hx;have:=(hKR r hr).2 x hx;unfold cJ.El at this;simp;exact this
  have hf : ef P M mod m D=0:=by unfold ef;rw [Mg hfB];exact hm
  have hsp : eF P M mod m D=0:=by unfold eF;rw [Mg hf,Mm,Mg];exact hidem
  have hle : jJ (m : Int)=0:=wB (by omega) (by omega);unfold aH;rw [Mg hfB,Mg hle];exact hsp
 ·intro x;have hs:=pN F hKR (aQ x m);have hc:=pN F hKR (aQ (sC x) m);have gs:=pN F hR (aQ x m);have gc:=pN F hR (aQ (sC x) m);have hb:=rF x m hm64;have hgl : ∀Q : Lz,∀k,(kT Q k).length=k:=λQ k=>by
   induction k with
   | zero=>rfl
   | succ k ih=>rw [kT,MT,ih]
  have hS : ∀i ∈ kT (aQ x m) (aQ x m).length,i<m:=λi hi=>((kZ x m i).1 hi).1;have hC : ∀i ∈ kT (aQ (sC x) m) (aQ (sC x) m).length,i<m:=λi hi=>((kZ (sC x) m i).1 hi).1;have hSC : ∀p,p<m->p ∈ kT (aQ x m) (aQ x m).length\/p ∈ kT (aQ (sC x) m) (aQ (sC x) m).length:=λp hp=>by
   rw [kZ,kZ,vN _ _ (by omega)];cases hx : x.testBit p
   ·exact .inr ⟨hp,rfl⟩
   ·exact .inl ⟨hp,rfl⟩
  have r1:=wM F hR hKR k2 k1 hrg hrk hS hC hSC (by rw [hgl,hgl];exact hb) gc hs;have r2:=wM F hR hKR k2 k1 hrg hrk hC hS (λp hp=>(hSC p hp).symm) (by rw [hgl,hgl];omega) gs hc;rw [hgl] at r1 r2;unfold G8;omega
section
variable {f : Nat->Int} {N : Nat} (hf : ∀y,f y<=N)
include hf
end

section
variable {O : aJ} {El : Int->Prop} {m : Nat}
end
section
variable {P M : Int} {mod : Lz} {m : Nat} {L : ZZ} {Q : Lz}
end
section
variable {O : aJ} {El : Int->Prop} {m : Nat} {R : ZZ} {P : Lz}
theorem I9 (hR : bx El m R) (hP : l8 R P m) (hlen : R.length=P.length) : BS.Inv El m ⟨R,P⟩ where
 ok:=⟨hR,hlen.symm,λi hi=>hP.lt i (by rw [<- hlen];exact hi)⟩
 one:=λi hi=>by show nth (ai R i) (nth P i).toNat=1;rw [hP.one i i (by rw [<- hlen];exact hi) hi,Mg rfl]
 zero:=λj i hj hi=>by have hi' : i<R.length:=hi;show nth (ai R i) (nth P j).toNat=0;rw [hP.one j i (by omega) hi',Mh (by omega)]
theorem Gf (F : bR O El) (hI : BS.Inv El m ⟨R,P⟩) {v : Lz} (hv : Vc El m v) (hs : RS O El m R (λx=>nth v x)) : ∀k,k<=R.length->RS O El m R (λx=>nth (bU O R P v k) x)
 | 0,_=>hs
 | k+1,hk=>by have hu : Vc El m (bU O R P v k):=Vc.bU F hI.ok hv k (show k<=R.length by omega);have hp : (nth P k).toNat<m:=hI.ok.pl (show k<R.length by omega);have hr : Vc El m (ai R k):=hI.ok.row (show k<R.length by omega);refine ((Gf F hI hv hs k (by omega)).comb F (.row F (i:=k) (by omega)) (hu.at hp)).congr λx hx=>?_;rw [bU,j7 F hu hr hp hx,F.mul_comm _ _ (hu.at hp) (hr.at hx)]
theorem HY (F : bR O El) (hR : bx El m R) (hP : l8 R P m) (hlen : R.length=P.length) {v : Lz} (hv : Vc El m v) (hs : RS O El m R (λx=>nth v x)) : ∀x,x<m->nth (bU O R P v R.length) x=0:=by have hI:=I9 hR hP hlen;obtain ⟨e,he,h⟩:=Gf F hI hv hs R.length (Mf _);intro x hx;have h1 : nth (bU O R P v R.length) x=e (aK R x):=h x hx;rw [h1];refine hP.all F hR hx e he λy hy=>?_;obtain ⟨j,hj,rfl⟩:=(gR P _ _).1 hy;rw [<- h _ (by have:=hP.lt j hj;omega)];exact hI.place F hv R.length (Mf _) j (by omega)
def bK (O : aJ) (m : Nat) (x : Lz) (L : ZZ) : Nat->Lz
 | 0=>List.replicate m 0
 | k+1=>if nth x k=0 then bK O m x L k else bW O (bK O m x L k) (nth x k) (ai L k)
theorem RS.add (F : bR O El) {L : ZZ} {f g : Nat->Int} (hL : bx El m L) (hf : RS O El m L f) (hg : RS O El m L g) {s : Int} (hs : El s) : RS O El m L (λx=>O.add (f x) (O.mul (g x) s)):=by
 refine (hf.comb F hg (F.cl.neg s hs)).congr λx hx=>?_;obtain ⟨e,he,h⟩:=hg;have hgx : El (g x):=by rw [h x hx];exact he.el _ (ch hL F.zero x)
 rw [F.mul_neg hgx hs,F.neg_neg (F.cl.mul _ _ hgx hs)]
theorem gH (F : bR O El) {L : ZZ} (hL : bx El m L) {x : Lz} (hx : ∀k,k<L.length->El (nth x k)) : ∀k,k<=L.length->Vc El m (bK O m x L k)/\RS O El m L (λi=>nth (bK O m x L k) i)
 | 0,_=>by
  have h0 : ∀i,nth (List.replicate m (0 : Int)) i=0:=λi=>by unfold nth;simp only [Mk,MN];split <;> rfl
  exact ⟨⟨by simp [bK],λy hy=>by rw [NC hy];exact F.zero⟩,RS.JB F λi _=>h0 i⟩
 | k+1,hk=>by
  obtain ⟨h1,h2⟩:=gH F hL hx k (by omega);have hr:=hL.row (i:=k) (by omega);have hs:=hx k (by omega);rw [bK];split
  ·exact ⟨h1,h2⟩
  ·have hl : (ai L k).length=(bK O m x L k).length:=by rw [hr.1,h1.1]
   refine ⟨⟨by rw [fo _ _ _ _ hl];exact h1.1,vS F.cl h1.2 hr.2 hs⟩,(RS.add F hL h2 (.row F (i:=k) (by omega)) hs).congr λi hi=>?_⟩;have hri : El (nth (ai L k) i):=QV hr hi;rw [jH O _ _ _ i hl (by rw [h1.1];exact hi)];split
   ·rename_i e0;rw [e0,F.kj hs,F.add_zero _ (h1.at hi)]
   ·rw [F.mul_comm _ _ hs hri]
theorem RS.pick {L : ZZ} {w Q : Lz} (hQ : Q.length=m) (hI : qW m Q) (h : RS O El m L (λx=>nth w x)) : RS O El m (L.map (aO Q)) (λx=>nth (aO Q w) x):=by
 obtain ⟨e,he,h⟩:=h;refine ⟨e,by rw [Mx];exact he,λx hx=>?_⟩;have hq:=hI x (by omega);have hcol : aK (L.map (aO Q)) x=aK L (nth Q x).toNat:=by unfold aK;rw [N3];exact M7 λr _=>ed Q r (by omega)
 show nth (aO Q w) x=_;rw [ed Q w (by omega),hcol];exact h _ (by omega)
end
section
variable {m : Nat} {Q : Lz}
end
def tM (P M : Int) (mod : Lz) (m : Nat) (L : ZZ) (w : World) (e : Ending) (w' : World) : Prop :=
 ∃a1 c1 a2 c2,e = .returned (.tuple #[.agg #[.int .i64 P,.int .i64 M,.slice a1 mod.length c1,.int .i64 m,.slice a2 (eW (aa P M.toNat mod) L m).length c2],.int .i64 0])/\cA w.heap.size w' a1 mod.length mod /\
  bX w.heap.size w' a2 (eW (aa P M.toNat mod) L m).length (eW (aa P M.toNat mod) L m)/\Rs w w'
theorem zB (P M : Int) (am : OA) (mn cm : Nat) (mod : Lz) (m : Nat) (a : OA) (n c : Nat) (L : ZZ) (w : World) (hmod : Ints w am mn mod) (hi : cU w a n L)
  (hE : ef P M mod m L=0) (hm1 : 1<=m) (hm64 : m<=64) (hmn : mn<=1000000) :
  Calls prog 90 #[.agg #[.int .i64 P,.int .i64 M,.slice am mn cm],.agg #[.int .i64 m,.slice a n c]] w (tM P M mod m L w):=by
 go_enter func90,ntmps90;go_upto_region 1 with fail;obtain ⟨W,hW⟩ : ∃W : World,W=((w.alloc (.cells #[.int .i64 P,.int .i64 M,.slice am mn cm] 24)).alloc (.cells #[.int .i64 m,.slice a n c] 82)).alloc (.cells #[.int .i64 0,.int .i64 0,.slice none 0 0,.int .i64 0,.slice none 0 0] 27):=⟨_,rfl⟩
 rw [<- hW];have hbW : Rs w W:=by rw [hW];exact tu _ _ _ _
 have hsW : W.heap.size=w.heap.size+3:=by rw [hW];simp
 have x0 : bf W w.heap.size [.int .i64 P,.int .i64 M,.slice am mn cm]:=by rw [hW];exact ((QS _ _ _ rfl).alloc _).alloc _
 have y0 : bf W (w.heap.size+1) [.int .i64 m,.slice a n c]:=by rw [hW];exact (QS _ _ _ (by simp)).alloc _
 have z0 : bf W (w.heap.size+1+1) [.int .i64 0,.int .i64 0,.slice none 0 0,.int .i64 0,.slice none 0 0]:=by rw [hW];exact QS _ _ _ (by simp)
 clear hW;have HC : Hid (Calls prog 158 #[.agg #[.int .i64 P,.int .i64 M,.slice am mn cm],.agg #[.int .i64 m,.slice a n c]] W λe w'=>Rs W w'/\∃a2 c2 ap cp,e = .returned (.tuple #[.agg #[.int .i64 m,.slice a2 (eW (aa P M.toNat mod) L m).length c2],.slice ap (eW (aa P M.toNat mod) L m).length cp,.int .i64 0]) /\
   bX W.heap.size w' a2 (eW (aa P M.toNat mod) L m).length (eW (aa P M.toNat mod) L m)):=by
  refine (ki P M am mn cm mod m a n c L W (hmod.ah hbW) (hi.ah hbW)).mono ?_;rintro e w1 ⟨hb1,⟨h0,_⟩ | ⟨_,m',hm',a1,c1,ap,cp,rfl,hN1,_⟩⟩
  ·exact absurd hE h0
  ·obtain rfl : m=m':=by omega
   rw [<- iW] at hN1 ⊢;exact ⟨hb1,a1,c1,ap,cp,rfl,hN1⟩
 have HO : Hid (∀V a5 k5 c5,Rs W V->Calls prog 78 #[.agg #[.int .i64 P,.int .i64 M,.slice am mn cm],.agg #[.int .i64 m,.slice a5 k5 c5],.int .i64 0] V (BT P M mod m a5 k5 c5 V)):=λV a5 k5 c5 hV =>
  Kq P M am mn cm mod m a5 k5 c5 V (hmod.ah (QQ hbW hV)) hmn
 have HPost : Hid (∀a1 c1 a2 c2 w',cA w.heap.size w' a1 mod.length mod->bX w.heap.size w' a2 (eW (aa P M.toNat mod) L m).length (eW (aa P M.toNat mod) L m)->Rs w w' ->
   tM P M mod m L w (.returned (.tuple #[.agg #[.int .i64 P,.int .i64 M,.slice a1 mod.length c1,.int .i64 m,.slice a2 (eW (aa P M.toNat mod) L m).length c2],.int .i64 0])) w'):=λa1 c1 a2 c2 w' h1 h2 h3=>⟨a1,c1,a2,c2,rfl,h1,h2,h3⟩
 have Hle : Hid (jJ (m : Int)=0):=wB (by omega) (by omega);obtain ⟨KM,hKM⟩ : ∃KM,eW (aa P M.toNat mod) L m=KM:=⟨_,rfl⟩
 rw [hKM] at HC HPost;have hS : ∀V,Rs W V->V.cell? ⟨w.heap.size,0,none⟩=some (.int .i64 P)/\V.cell? ⟨w.heap.size,1,none⟩=some (.int .i64 M)/\V.cell? ⟨w.heap.size,2,none⟩=some (.slice am mn cm)/\V.cell? ⟨w.heap.size+1,0,none⟩=some (.int .i64 m)/\V.cell? ⟨w.heap.size+1,1,none⟩=some (.slice a n c) /\
   bf V (w.heap.size+1+1) [.int .i64 0,.int .i64 0,.slice none 0 0,.int .i64 0,.slice none 0 0]:=λV hV=>by have x1:=x0.ah hV;have y1:=y0.ah hV;exact ⟨x1.cell 0 rfl,x1.cell 1 rfl,x1.cell 2 rfl,y1.cell 0 rfl,y1.cell 1 rfl,z0.ah hV⟩
 have HS:=Z5 hS;have HbW:=Z5 hbW;have HsW:=Z5 hsW;obtain ⟨q,hq⟩ : ∃q,KM.length=q:=⟨_,rfl⟩
 rw [hq] at HC HPost;clear hE hKM hS x0 y0 z0 hbW hsW hmod hi hq;go_cut [6,7,8] (λv6 v7 v8 wx=>∃g a5 c5,v6 = .pointer (some ⟨g,0,none⟩)/\v8 = .int .i64 0/\wx.cell? ⟨g,0,none⟩=some (.int .i64 m)/\wx.cell? ⟨g,1,none⟩=some (.slice a5 q c5)/\bX W.heap.size wx a5 q KM/\Rs W wx);case first =>
  obtain ⟨c0,c1,c2,c3,c4,_⟩:=HS.out W (Mi _ _)
  go_wp2_with fail
  refine HC.out.mono ?_
  rintro e w1 ⟨hb1,a5,c5,ap,cp,rfl,hN5⟩
  clear c0 c1 c2 c3 c4
  go_wp2_with fail
  go_meet
  exact ⟨w1.heap.size,a5,c5,rfl,rfl,aE _ _ _ rfl 0,aE _ _ _ rfl 1,hN5.ah (aB _ _),QQ hb1 (aB _ _)⟩
 obtain ⟨g,a5,c5,rfl,rfl,g0,g1,hN5,hb5⟩:=hcut;generalize wc=V at *;obtain ⟨c0,c1,c2,c3,c4,zz⟩:=HS.out V hb5;have HOV:=Z5 (HO.out V a5 q c5 hb5);clear HC HO;go_wp2_with fail;refine (tA m V).mono ?_;rintro e w5 ⟨rfl,rfl⟩;rw [Hle.out];go_wp2_with fail;refine HOV.out.mono ?_;rintro e w6 ⟨a6,c6,rfl,hN6,hb6⟩;obtain ⟨_,_,_,_,_,zz6⟩:=HS.out w6 (QQ hb5 hb6);have z0:=zz6.cell 0 rfl;have z1:=zz6.cell 1 rfl;have z2:=zz6.cell 2 rfl;have z3:=zz6.cell 3 rfl;have z4:=zz6.cell 4 rfl;have f0:=zz6.frozen 0;have f1:=zz6.frozen 1;have f2:=zz6.frozen 2;have f3:=zz6.frozen 3;have f4:=zz6.frozen 4;have hbF:=QQ HbW.out (QQ hb5 hb6);have hs:=HsW.out;have hs2:=hb5.size;have hM6:=hN5.ah hb6;have hFin:=HPost.out a6 c6 a5 c5 (((((w6.setCell ⟨w.heap.size+1+1,0,none⟩ (.int .i64 P)).setCell ⟨w.heap.size+1+1,1,none⟩ (.int .i64 M)).setCell ⟨w.heap.size+1+1,2,none⟩ (.slice a6 mod.length c6)).setCell ⟨w.heap.size+1+1,3,none⟩ (.int .i64 m)).setCell ⟨w.heap.size+1+1,4,none⟩ (.slice a5 q c5))
  ((((((hN6.setCell (p:=⟨w.heap.size+1+1,0,none⟩) (by simp;omega) _).setCell (p:=⟨w.heap.size+1+1,1,none⟩) (by simp;omega) _).setCell (p:=⟨w.heap.size+1+1,2,none⟩) (by simp;omega) _).setCell (p:=⟨w.heap.size+1+1,3,none⟩) (by simp;omega) _).setCell (p:=⟨w.heap.size+1+1,4,none⟩) (by simp;omega) _).mono (by omega))
  ((((((hM6.setCell (p:=⟨w.heap.size+1+1,0,none⟩) (by simp;omega) _).setCell (p:=⟨w.heap.size+1+1,1,none⟩) (by simp;omega) _).setCell (p:=⟨w.heap.size+1+1,2,none⟩) (by simp;omega) _).setCell (p:=⟨w.heap.size+1+1,3,none⟩) (by simp;omega) _).setCell (p:=⟨w.heap.size+1+1,4,none⟩) (by simp;omega) _).mono (by omega))
  (((((hbF.setCell (p:=⟨w.heap.size+1+1,0,none⟩) (by simp;omega) _).setCell (p:=⟨w.heap.size+1+1,1,none⟩) (by simp;omega) _).setCell (p:=⟨w.heap.size+1+1,2,none⟩) (by simp;omega) _).setCell (p:=⟨w.heap.size+1+1,3,none⟩) (by simp;omega) _).setCell (p:=⟨w.heap.size+1+1,4,none⟩) (by simp;omega) _)
 have HFin:=Z5 hFin;clear hFin hM6 hN5 hN6 HOV zz zz6;go_wp2_with fail;exact bodyPost_ret (v:=.tuple #[.agg #[.int .i64 P,.int .i64 M,.slice a6 mod.length c6,.int .i64 m,.slice a5 q c5],.int .i64 0]) (by simp [results,results90,go_sem,z0,z1,z2,z3,z4]) rfl HFin.out
section
def fi (n k : Nat) : Lz:=(List.replicate n 0).set k 1
def fN (n : Nat) : ZZ:=(List.range n).map (fi n)
theorem cW (n : Nat) : (fN n).length=n:=by simp [fN]
theorem kE (n k : Nat) : (fi n k).length=n:=by simp [fi]
theorem pU {n k : Nat} (h : k<n) : ai (fN n) k=fi n k:=by rw [aF (by rw [cW];exact h)];simp [fN]
theorem FN (L : ZZ) (k : Nat) (x y : Lz) : (L.set k x).set k y=L.set k y:=by simp
theorem GB (n : Nat) (w : World) (hn : n<=1000000) : Calls prog 222 #[.int .i64 n] w (Bq w (fN n)):=by
 go_enter func222,ntmps222;go_wp2_with (at_make;refine b9 rfl _ _ 25 22 rfl (.slice none 0 0) 24 underlying25 fg rfl n rfl rfl (by omega) (by unfold maxLen;omega) ?_;intro a1 w1 hown hbel hge hlt);have hO:=pX hown;have hO1 : ∃R,aY w1 w.heap.size a1 n n R (dB n 0 (fN n)):=⟨_,by simpa [dB] using hO⟩
 clear hO hown;go_loopw [9] (λiv wr=>∃k : Nat,k<=n/\iv = .int .i64 k/\(∃R,aY wr w.heap.size a1 n n R (dB n k (fN n)))/\Rs w wr) (λiv _=>n - (intOf iv).toNat);case atStart=>exact ⟨0,Mj _,rfl,hO1,hbel⟩
 case round =>
  obtain ⟨k,hk,rfl,⟨R,hO⟩,hbr⟩:=hrel
  by_cases hlt : k<n
  ·have hset:=nM hlt (cW n)
   rw [pU hlt] at hset
   have Hset:=Z5 hset
   clear hset
   have hpl1:=hO.pl
   have hsz:=hbr.size
   generalize wr=V at *
   go_upto_region 6 with (at_make;refine b9 rfl _ _ 22 3 rfl (.int .i64 0) 8 underlying22 bt rfl n rfl rfl (by omega) (by unfold maxLen;omega) ?_;intro a3 w3 hown3 hb3 hge3 hlt3;have hO3:=aY.ah hO hb3;have hf:=hO3.frozen hlt;have hc:=hO3.cell hlt)
   have hown3' : w3.ownsRow V.heap.size 3 1 (.slice a3 (List.replicate n (0 : Int)).length n) (List.replicate n (0 : Int)).length ((List.replicate n (0 : Int)).map (Value.int .i64)):=by rw [Nb,NR];exact hown3
   have hB:=(aY.lt hO3 (an a1) (.inl ⟨hO3.ne (by omega),rfl⟩)).1
   have hnew:=aY.setRow hO3 hlt (bg hown3' hsz) (mI hown3 (aY.lt hO (an a1) (.inl ⟨hO.ne (by omega),rfl⟩)).2) (λj hj _=>by
    by_cases hn : (aV R j).1=none
    ·exact .inl hn
    ·exact .inr (mI hown3 (aY.lt hO _ (aY.l6 (by rw [hO.rl];exact hj) hn)).2))
   rw [Nb] at hnew
   obtain ⟨Y,hY⟩ : ∃Y,w3.setCell ⟨an a1,aP a1+k,none⟩ (.slice a3 n n)=Y:=⟨_,rfl⟩
   rw [hY] at hnew ⊢
   have hbY : Rs w Y:=by rw [<- hY];exact (QQ hbr hb3).setCell hB _
   have hRk : aV (R.set k (a3,n)) k=(a3,n):=by rw [gw _ _ _ _ (by rw [hO.rl];exact hlt),Mg rfl]
   have hLk : ai ((dB n k (fN n)).set k (List.replicate n 0)) k=List.replicate n 0:=by rw [e8 _ _ _ _ (by rw [hO.ll];exact hlt),Mg rfl]
   have hcr:=hnew.cell hlt
   have hrow:=hnew.row k hlt
   rw [hRk,hLk,Nb] at hcr hrow
   obtain ⟨hints,hmine⟩:=QR hrow
   have cz:=hints.cell k hlt
   have fz:=(hmine (by omega)).2 k hlt
   have hBz:=(hmine (by omega)).1
   have hpl3:=hints.pl
   have hown2:=bN hrow k hlt (.int .i64 1)
   rw [<- MH] at hown2
   have hne3 : a3 ≠ none:=λe=>by have:=hpl3 (by omega);rw [e] at this;cases this
   have hfin:=aY.F1 hnew hlt (l:=fi n k) (by rw [hLk,Nb,kE]) (by rw [hRk,hLk,Nb];exact hown2) (λb hb hne=>MB _ _ _ _ λe=>by
    rw [hRk] at hne;rcases hne with h1 | h1
    ·exact hne3 h1
    ·exact h1 e)
   rw [FN,Hset.out] at hfin
   have Hfin:=Z5 hfin
   clear hfin hnew hrow hints hmine hown2 hRk hLk hY hf hc hown3 hown3' hO3
   go_wp2_with fail
   go_roundw
   case rel=>exact ⟨k+1,by omega,by go_num,⟨_,Hfin.out⟩,hbY.setCell hBz _⟩
   case measure=>simp [intOf] <;> omega
  ·obtain rfl : k=n:=by omega
   rw [nC (cW k)] at hO
   go_wp2_with fail
   go_ret
   exact ⟨a1,k,R,by rw [cW];rfl,by rw [cW];exact hO,hbr⟩
variable {w : World} {b : Nat} {G : cJ}
theorem Js (ax : OA) (cx : Nat) (x : Lz) (a : OA) (n c : Nat) (L : ZZ) (cols : Nat) (h : dW w b G) (F : bR G.ops G.El) (hx : Ints w ax n x) (hi : cU w a n L) (hxe : ∀k,k<n->G.El (nth x k)) (hR : bx G.El cols L) (hc1 : 1<=cols) (hc : cols<=1000000) (hn : n<=1000000) :
  Calls prog 141 #[.pointer (some ⟨b,0,none⟩),.slice ax n cx,.slice a n c,.int .i64 cols] w λe w' =>
   ∃a1 c1,e = .returned (.slice a1 cols c1)/\w'.ownsRow w.heap.size 3 1 (.slice a1 cols c1) cols ((bK G.ops cols x L n).map (Value.int .i64))/\Rs w w':=by
 have Hil:=Z5 hi.len;have hplx:=hx.pl;have hpla:=hi.pl;have hcm:=gH F hR (x:=x) (by rw [hi.len];exact hxe);have Hcm:=Z5 hcm;have HR:=Z5 hR;have hz : (bK G.ops cols x L 0).map (Value.int .i64)=List.replicate cols (Value.int .i64 0):=by simp [bK]
 have Hz:=Z5 hz;clear hcm hR hz F;go_enter func141,ntmps141;go_wp2_with (at_make;refine b9 rfl _ _ 22 3 rfl (.int .i64 0) 8 underlying22 bt rfl cols rfl rfl (by omega) (by unfold maxLen;omega) ?_;intro a5 w5 hown hbel hge hlt);have hown0 : w5.ownsRow w.heap.size 3 1 (.slice a5 cols cols) cols ((bK G.ops cols x L 0).map (Value.int .i64)):=by rw [Hz.out];exact hown
 clear hown hlt;go_loopw [16] (λiv wr=>∃k : Nat,k<=n/\iv = .int .i64 k/\wr.ownsRow w.heap.size 3 1 (.slice a5 cols cols) cols ((bK G.ops cols x L k).map (Value.int .i64))/\Rs w wr) (λiv _=>n - (intOf iv).toNat);case atStart=>exact ⟨0,Mj _,rfl,hown0,hbel⟩
 case round =>
  clear hown0 hbel
  obtain ⟨k,hk,rfl,hown,hbr⟩:=hrel
  by_cases hlt : k<n
  ·have cxk:=(hx.ah hbr).cell k hlt
   have hrow:=HR.out.row (i:=k) (by rw [Hil.out];exact hlt)
   obtain ⟨ra,rn,rc,er0,ir0⟩:=hi.cell k hlt
   have hrn : rn=cols:=by rw [<- ir0.len];exact hrow.1
   rw [hrn] at er0 ir0
   have er:=aA hbr er0
   have hra : an ra<w.heap.size:=Mn w _ (ir0.cell 0 (by omega))
   clear hrn er0
   by_cases h0 : nth x k=0
   ·have h0' : (nth x k != 0)=false:=by simpa using h0
    have Hn : Hid (bK G.ops cols x L (k+1)=bK G.ops cols x L k):=by show _=_;rw [bK,Mg h0]
    clear h0
    go_wp2_with fail
    go_roundw
    case rel=>exact ⟨k+1,by omega,by go_num,by rw [Hn.out];exact hown,hbr⟩
    case measure=>simp [intOf] <;> omega
   ·have h0' : (nth x k != 0)=true:=by simpa using h0
    have Hn : Hid (bK G.ops cols x L (k+1)=bW G.ops (bK G.ops cols x L k) (nth x k) (ai L k)):=by show _=_;rw [bK,Mh h0]
    have hvk:=(Hcm.out k (by rw [Hil.out];exact hk)).1
    have Ha:=Z5 (C5 w a5 cols cols (bK G.ops cols x L k) (nth x k) ra rc (ai L k) h hbr hown (ir0.ah hbr) (.inr (.inr (by omega))) hvk.2 hrow.2 (hxe k hlt))
    clear h0 hown ir0 hrow hvk
    go_wp2_with fail
    refine Ha.out.mono ?_
    rintro e w4 ⟨rfl,hown4,honly⟩
    have hb4 : Rs w w4:=hbr.trans (honly.below (λ_=>hge) hbr.size)
    go_wp2_with fail
    go_roundw
    case rel=>exact ⟨k+1,by omega,by go_num,by rw [Hn.out];exact hown4,hb4⟩
    case measure=>simp [intOf] <;> omega
  ·obtain rfl : k=n:=by omega
   have HF:=Z5 hown
   clear hown
   go_wp2_with fail
   go_ret
   exact ⟨a5,cols,rfl,HF.out,hbr⟩
end
section
open Go.RowKit
end

theorem B9 (t d : Int) : (if t<d then d else t)=max t d:=by split <;> omega
theorem qW.take {n : Nat} {Q : Lz} (h : qW n Q) {i : Nat} (hi : i<=Q.length) : qW n (Q.take i):=λj hj=>by
 rw [MJ] at hj;have e : nth (Q.take i) j=nth Q j:=by unfold nth;simp only [Mk,Nj];rw [Mg (by omega)]
 rw [e];exact h j (by omega)
section
open Go.RowKit
end
theorem sD {P M : Int} {mod : Lz} {m : Nat} {D : ZZ} (hfB : bQ P M mod=true) (hm : m<=256) (hD : D.length<=256) (hR : bx (aa P M.toNat mod).El m D) : ef P M mod m D=0:=by
 unfold ef;rw [Mg hfB];unfold eZ;rw [Mh (by omega)];have hsh : iy (m : Int) D=true:=by unfold iy;rw [MX];intro r hr;have:=(hR r hr).1;simp;omega
 rw [Mh (by rw [hsh];decide),Mg];rw [MX];intro r hr;unfold kD jO;rw [MX];intro x hx;have:=(hR r hr).2 x hx;unfold cJ.El at this;simp;exact this
section
open Go.RowKit
end
section
open Go.RowKit
end
section
open Go.RowKit
end
section
open Go.RowKit
end
section
open Go.RowKit
end
section
open Go.RowKit
end
section
open Go.RowKit
end
section
open Go.RowKit
end
end Go.Proofs.YtcfmiocdlcapoaaGreat
