import Derived.Test.YthglbncgemdcbaaGreatHE15
import Derived.Test.YthglbncgemdcbaaGreatHE12
namespace Go.Proofs.YthglbncgemdcbaaGreat
set_option linter.all false
set_option maxRecDepth 100000
set_option maxHeartbeats 4000000
open Go.RowKit Go.Proofs.Tryz
section
variable {O : aM} {El : Int->Prop} {m n : Nat}
structure ou (L : Ll) (P : LI) : Prop where
 lead : ∀i x,i<P.length->x<(nth P i).toNat->nth (ai L i) x=0
 asc : ∀i j,i<j->j<P.length->nth P i<nth P j
theorem sf (F : bZ O El) {L : Ll} (hL : bG El m L) : ∀k,k<=m->ou (aC O L k).1 (aC O L k).2
 | 0,_=>⟨λi x hi=>by simp [aC] at hi,λi j _ hj=>by simp [aC] at hj⟩
 | k+1,hk=>by
  have ih:=sf F hL k (by omega);obtain ⟨h1,_,_⟩:=gU F hL k (by omega);have hR:=ke F hL k (by omega);have hb:=jw (L:=(aC O L k).1) (c:=k) (k:=(aC O L k).2.length) h1.le;by_cases hlt : (aC O L k).2.length<(aC O L k).1.length
  ·rw [dD (Lk:=(aC O L k).1) (P:=(aC O L k).2) rfl hlt];split
   ·exact ih
   ·rename_i hf;have hfl : aT (aC O L k).1 k (aC O L k).2.length<(aC O L k).1.length:=by omega
    have hne : nth (ai (aC O L k).1 (aT (aC O L k).1 k (aC O L k).2.length)) k ≠ 0:=gu _ k _ _ (by show aT _ k _<_;omega);generalize aT (aC O L k).1 k (aC O L k).2.length=r at *;generalize (aC O L k).1=A at *;generalize (aC O L k).2=P at *;have hp : El (nth (ai A r) k):=L8 (hR.row hfl) (by omega);have hpi:=F.cl.inv _ hp hne;refine ⟨λi x hi hx=>?_,λi j hij hj=>?_⟩
    ·rw [H5,Ij] at hi;have hx' : x<m:=by
      rw [gq] at hx;by_cases e : i<P.length
      ·rw [GV e] at hx;have:=h1.lt i e;omega
      ·rw [GU e,GV (by omega)] at hx;omega
     rw [ee F hR hlt hfl (by omega) hne (i:=i) (by omega) hx'];rw [gq] at hx;by_cases e : i<P.length
     ·rw [GV e] at hx;have h2:=h1.lt i e;rw [GU (by omega),show sw P.length r i=i by unfold sw;rw [GU (by omega),GU (by omega)],h1.zero r x hb.1 hfl (by omega),F.dh hpi,F.lC (L8 (hR.row (by omega)) (by omega)),F.gr,F.add_zero _ (L8 (hR.row (by omega)) hx')];exact ih.lead i x e hx
     ·rw [GU e,GV (by omega)] at hx;rw [GV (by omega),h1.zero r x hb.1 hfl (by omega),F.dh hpi]
    ·rw [H5,Ij] at hj;rw [gq,gq,GV (by omega)];by_cases e : j<P.length
     ·rw [GV e];exact ih.asc i j hij e
     ·rw [GU e,GV (by omega)];have:=h1.lt i (by omega);omega
  ·have hfull : (aC O L k).2.length=L.length:=by have:=bV O L k;have:=h1.le;omega
   rw [fC hfull 1];exact ih
theorem inv_one (F : bZ O El) : O.inv 1=1:=by have h:=F.mul_inv 1 F.one (by decide);rwa [F.one_mul _ (F.cl.inv 1 F.one (by decide))] at h
theorem qQ (O : aM) {R : Ll} {t c : Nat} (h : ∀i,i<R.length->i ≠ t->nth (ai R i) c=0) : ∀i,i<=R.length->clearTo O t c R i=R
 | 0,_=>rfl
 | i+1,hi=>by
  unfold clearTo;rw [qQ O h i (by omega)];split
  ·rfl
  ·rename_i e;unfold cH;rw [GV (h i (by omega) e),j6]
theorem vC (F : bZ O El) {R : Ll} {P : LI} (hP : kN R P m) (hl : ou R P) (hlen : R.length=P.length) : ∀k,k<=m ->
  ∃t,t<=P.length/\aC O R k=(R,P.take t)/\(∀j,j<t->nth P j<k)/\(∀j,t<=j->j<P.length->(k : Int)<=nth P j)
 | 0,_=>⟨0,G0 _,by simp [aC],λj hj=>by omega,λj _ hj=>(hP.lt j hj).1⟩
 | k+1,hk=>by
  obtain ⟨t,ht,he,h1,h2⟩:=vC F hP hl hlen k (by omega);have htl : (P.take t).length=t:=by rw [Ir];omega
  by_cases htt : t=P.length
  ·refine ⟨t,ht,?_,λj hj=>by have:=h1 j hj;omega,λj h3 h4=>by omega⟩;have hfull : (aC O R k).2.length=R.length:=by rw [he];show (P.take t).length=_;omega
   rw [fC hfull 1,he]
  ·have htR : t<R.length:=by omega
   rw [dD (Lk:=R) (P:=P.take t) he.symm (by rw [htl];exact htR),htl];by_cases hpk : nth P t=k
   ·have h11:=hP.one t t (by omega) htR;rw [hpk,GV rfl,GW] at h11;have hf : aT R k t=t:=by rw [fN htR,GU (by rw [h11];decide)]
    rw [hf,GU (by omega)];have hpv : eO O R t t k=R:=by
     rw [gS,GV rfl];have hn : bw O R t k=R:=by unfold bw;rw [h11,GV (inv_one F)]
     rw [hn];refine qQ O (λi hi hit=>?_) _ (GQ _);have:=hP.one t i (by omega) hi;rw [hpk,GU hit,GW] at this;exact this
    rw [hpv];refine ⟨t+1,by omega,?_,λj hj=>?_,λj h3 h4=>?_⟩
    ·rw [Hj (by omega),<- aj,hpk]
    ·by_cases e : j=t
     ·subst e;omega
     ·have:=h1 j (by omega);omega
    ·have:=hl.asc t j (by omega) h4;omega
   ·have hgt : (k : Int)<nth P t:=by have:=h2 t (GQ _) (by omega);omega
    have hz : ∀i,t<=i->i<R.length->nth (ai R i) k=0:=λi h3 h4=>by
     refine hl.lead i k (by omega) ?_;by_cases e : i=t
     ·subst e;omega
     ·have:=hl.asc t i (by omega) (by omega);omega
    have hf : ∀d i,d=R.length - i->t<=i->i<=R.length->aT R k i=R.length:=by
     intro d;induction d with
     | zero=>intro i h3 _ h5;rw [iO (by omega)];omega
     | succ d ih =>
      intro i h3 h4 h5
      rw [fN (by omega),GV (hz i h4 (by omega))]
      exact ih (i+1) (by omega) (by omega) (by omega)
    rw [hf _ t rfl (GQ _) (by omega),GV rfl];refine ⟨t,ht,rfl,λj hj=>by have:=h1 j hj;omega,λj h3 h4=>?_⟩;by_cases e : j=t
    ·subst e;omega
    ·have:=hl.asc t j (by omega) h4;omega
theorem qO (F : bZ O El) {R : Ll} {P : LI} (hP : kN R P m) (hl : ou R P) (hlen : R.length=P.length) : aC O R m=(R,P):=by
 obtain ⟨t,ht,he,h1,h2⟩:=vC F hP hl hlen m (GQ _);have : t=P.length:=by apply Iv;intro h;have h3:=h2 t (GQ _) (by omega);have h4:=hP.lt t (by omega);omega
 rw [he,this,KJ]
def bz (O : aM) (m : Nat) (L : Ll) : Ll:=(aC O L m).1.take (aC O L m).2.length
theorem js {L : Ll} {t i : Nat} (h : i<t) : ai (L.take t) i=ai L i:=by unfold ai;simp only [GY,Jb];rw [GV h]
theorem dw (F : bZ O El) {L : Ll} (hL : bG El m L) : (bz O m L).length=(aC O L m).2.length:=by have h1:=(gU F hL m (GQ _)).1.le;unfold bz;rw [Ir];omega
theorem di (F : bZ O El) {L : Ll} (hL : bG El m L) : bG El m (bz O m L):=λr hr=>ke F hL m (GQ _) r (I1 hr)
theorem dI (F : bZ O El) {L : Ll} (hL : bG El m L) : kN (bz O m L) (aC O L m).2 m/\ou (bz O m L) (aC O L m).2:=by
 have h1:=(gU F hL m (GQ _)).1;have h2:=sf F hL m (GQ _);have hl:=dw F hL;refine ⟨⟨by omega,h1.lt,λj i hj hi=>?_,λi x hi1 hi2 _=>by omega⟩,⟨λi x hi hx=>?_,h2.asc⟩⟩
 ·unfold bz;rw [js (by omega)];exact h1.one j i hj (by have:=h1.le;omega)
 ·unfold bz;rw [js hi];exact h2.lead i x hi hx
theorem nF (F : bZ O El) {L : Ll} (hL : bG El m L) : bz O m (bz O m L)=bz O m L:=by
 obtain ⟨h1,h2⟩:=dI F hL;have hl:=dw F hL;have h3:=qO F h1 h2 hl;have e : bz O m (bz O m L)=(bz O m L).take (aC O L m).2.length:=by show (aC O (bz O m L) m).1.take (aC O (bz O m L) m).2.length=_;rw [h3]
 rw [e,H6 (by omega)]
theorem RS.FX (F : bZ O El) {L : Ll} {f : Nat->Int} (h : ∀x,x<m->f x=0) : RS O El m L f:=by refine ⟨λ_=>0,⟨λ_ _=>F.zero,λv r x hv hr hx=>?_,λr x hr hx=>(F.dh hx).symm⟩,λx hx=>h x hx⟩;show (0 : Int)=O.add 0 (O.neg (O.mul x 0));rw [F.dh hx,F.gr,F.add_zero 0 F.zero]
theorem fB (F : bZ O El) {L : Ll} (hL : bG El m L) : eQ O El m (bz O m L) L/\eQ O El m L (bz O m L):=by
 obtain ⟨h1,h2,h3⟩:=gU F hL m (GQ _);have hl:=dw F hL;refine ⟨λi hi=>?_,h3.trans λi hi=>?_⟩
 ·have e : ai (bz O m L) i=ai (aC O L m).1 i:=by unfold bz;exact js (by omega)
  rw [e];exact h2 i (by have:=h1.le;omega)
 ·by_cases e : i<(aC O L m).2.length
  ·have e2 : ai (aC O L m).1 i=ai (bz O m L) i:=by unfold bz;exact (js e).symm
   rw [e2];exact RS.row F (by omega)
  ·exact RS.FX F λx hx=>h1.zero i x (by omega) hi hx
theorem uh (F : bZ O El) {L : Ll} (hL : bG El m L) : Rk (oY O El (bz O m L).length (bF (bz O m L))) (List.range m) (bz O m L).length:=by have h:=FH F (di F hL);obtain ⟨h1,h2⟩:=dI F hL;rw [qO F h1 h2 (dw F hL)] at h;rw [dw F hL];rw [dw F hL] at h;exact h
def kerTo (O : aM) (m : Nat) (R : Ll) (P : LI) (c : Nat) : Nat->LI
 | 0=>(List.replicate m 0).set c 1
 | i+1=>(kerTo O m R P c i).set (nth P i).toNat (O.neg (nth (ai R i) c))
def dj (O : aM) (m : Nat) (R : Ll) (P : LI) : Nat->Ll
 | 0=>[]
 | k+1=>if (k : Int) ∈ P then dj O m R P k else dj O m R P k ++ [kerTo O m R P k P.length]
def fu (P : LI) : Nat->LN
 | 0=>[]
 | k+1=>if (k : Int) ∈ P then fu P k else fu P k ++ [k]
theorem fE (O : aM) (m : Nat) (R : Ll) (P : LI) (c : Nat) : ∀i,(kerTo O m R P c i).length=m
 | 0=>by simp [kerTo]
 | i+1=>by rw [kerTo,IK,fE O m R P c i]
theorem gD (O : aM) (m : Nat) (R : Ll) (P : LI) : ∀k,(dj O m R P k).length=(fu P k).length
 | 0=>rfl
 | k+1=>by
  rw [dj,fu];split
  ·exact gD O m R P k
  ·rw [H5,H5,gD O m R P k];rfl
theorem jz {P : LI} {x : Nat} : ∀k,x ∈ fu P k ↔ x<k/\¬ (x : Int) ∈ P
 | 0=>by simp [fu]
 | k+1=>by
  rw [fu];split
  ·rename_i h;rw [jz k];constructor
   ·rintro ⟨h1,h2⟩;exact ⟨by omega,h2⟩
   ·rintro ⟨h1,h2⟩;by_cases e : x=k
    ·subst e;exact absurd h h2
    ·exact ⟨by omega,h2⟩
  ·rename_i h;rw [IS,jz k,IB];constructor
   ·rintro (⟨h1,h2⟩ | rfl)
    ·exact ⟨by omega,h2⟩
    ·exact ⟨by omega,h⟩
   ·rintro ⟨h1,h2⟩;by_cases e : x=k
    ·exact .inr e
    ·exact .inl ⟨by omega,h2⟩
theorem jE (O : aM) (m : Nat) (R : Ll) (P : LI) {j : Nat} : ∀k,j<(fu P k).length->ai (dj O m R P k) j=kerTo O m R P ((fu P k).getD j 0) P.length
 | 0,h=>by simp [fu] at h
 | k+1,h=>by
  rw [dj,fu] at *;split
  ·rename_i hc;rw [GV hc] at h;exact jE O m R P k h
  ·rename_i hc;rw [GU hc,H5,Ij] at h;have hl:=gD O m R P k;by_cases e : j<(fu P k).length
   ·have e1 : ai (dj O m R P k ++ [kerTo O m R P k P.length]) j=ai (dj O m R P k) j:=by unfold ai;simp only [GY];rw [Ie (by omega)]
    have e2 : (fu P k ++ [k]).getD j 0=(fu P k).getD j 0:=by simp only [GY];rw [Ie e]
    rw [e1,e2];exact jE O m R P k e
   ·have ej : j=(fu P k).length:=by omega
    have e1 : ai (dj O m R P k ++ [kerTo O m R P k P.length]) j=kerTo O m R P k P.length:=by unfold ai;simp only [GY];rw [IN (by omega)];simp [ej,hl]
    have e2 : (fu P k ++ [k]).getD j 0=k:=by simp only [GY];rw [IN (by omega)];simp [ej]
    rw [e1,e2]
variable {R : Ll} {P : LI}
theorem j4 (hP : kN R P m) {c x : Nat} (hx : x<m) (hxc : x ≠ c) : ∀i,i<=P.length->(∀j,j<i->(nth P j).toNat ≠ x)->nth (kerTo O m R P c i) x=0
 | 0,_,_=>by
  by_cases hc : c<m
  ·rw [kerTo,ei _ _ _ _ (by simpa using hc),GU hxc];simp [nth,GY,Ik];split <;> rfl
  ·rw [kerTo,Jz (by simp;omega)];simp [nth,GY,Ik];split <;> rfl
 | i+1,hi,h=>by have hb:=hP.lt i (by omega);rw [kerTo,ei _ _ _ _ (by rw [fE];omega),GU (λe=>h i (by omega) e.symm)];exact j4 hP hx hxc i (by omega) λj hj=>h j (by omega)
theorem jo (hP : kN R P m) {c : Nat} (hc : c<m) (hn : ¬ (c : Int) ∈ P) : ∀i,i<=P.length->nth (kerTo O m R P c i) c=1
 | 0,_=>by rw [kerTo,ei _ _ _ _ (by simpa using hc),GV rfl]
 | i+1,hi=>by have hb:=hP.lt i (by omega);have hne : c ≠ (nth P i).toNat:=λe=>hn (by have : nth P i ∈ P:=aH (by omega);rwa [show nth P i=(c : Int) by omega] at this);rw [kerTo,ei _ _ _ _ (by rw [fE];omega),GU hne];exact jo hP hc hn i (by omega)
theorem sM (hP : kN R P m) (hl : ou R P) {c j : Nat} : ∀i,i<=P.length->j<i->nth (kerTo O m R P c i) (nth P j).toNat=O.neg (nth (ai R j) c)
 | 0,_,h=>by omega
 | i+1,hi,h=>by
  have hb:=hP.lt i (by omega);have hbj:=hP.lt j (by omega);rw [kerTo,ei _ _ _ _ (by rw [fE];omega)];by_cases e : j=i
  ·subst e;rw [GV rfl]
  ·have:=hl.asc j i (by omega) (by omega);rw [GU (by omega)];exact sM hP hl i (by omega) (by omega)
theorem jk (F : bZ O El) (hR : bG El m R) (hP : kN R P m) (hlen : R.length=P.length) {c : Nat} (hc : c<m) : ∀i,i<=P.length->Vc El m (kerTo O m R P c i)
 | 0,_=>⟨fE O m R P c 0,λy hy=>by
  rw [kerTo] at hy;rcases IX hy with h | rfl
  ·rw [IL h];exact F.zero
  ·exact F.one⟩
 | i+1,hi=>⟨fE O m R P c (i+1),λy hy=>by
  rw [kerTo] at hy;rcases IX hy with h | rfl
  ·exact (jk F hR hP hlen hc i (by omega)).2 y h
  ·exact F.cl.neg _ (L8 (hR.row (by omega)) hc)⟩
theorem tO {P : LI} {k j : Nat} (h : j<(fu P k).length) : (fu P k).getD j 0<k/\¬ (((fu P k).getD j 0 : Nat) : Int) ∈ P:=by
 have e : (fu P k).getD j 0=(fu P k)[j]:=by simp [GY,h]
 rw [e];exact (jz k).1 (Iw h)
theorem mJ (F : bZ O El) (hR : bG El m R) (hP : kN R P m) (hlen : R.length=P.length) : bG El m (dj O m R P m):=λr hr=>by
 obtain ⟨j,hj,rfl⟩:=List.mem_iff_getElem.1 hr;have hj' : j<(fu P m).length:=by rw [<- gD O m R P m];exact hj
 rw [<- aD hj,jE O m R P m hj'];exact jk F hR hP hlen (tO hj').1 P.length (GQ _)
theorem wF (F : bZ O El) (hR : bG El m R) (hP : kN R P m) (hl : ou R P) (hlen : R.length=P.length) : rH O m R (dj O m R P m):=λi j hi hj=>by
 rw [gD] at hj;rw [jE O m R P m hj];obtain ⟨hc,hn⟩:=tO hj;generalize (fu P m).getD j 0=c at *;have hb:=hP.lt i (by omega);have hne : c ≠ (nth P i).toNat:=λe=>hn (by have : nth P i ∈ P:=aH (by omega);rwa [show nth P i=(c : Int) by omega] at this);have hx : El (nth (ai R i) c):=L8 (hR.row hi) hc;have e1 : nth (kerTo O m R P c P.length) c=1:=jo hP hc hn _ (GQ _);have e2 : nth (kerTo O m R P c P.length) (nth P i).toNat=O.neg (nth (ai R i) c):=sM hP hl _ (GQ _) (by omega);have e3 : nth (ai R i) (nth P i).toNat=1:=by rw [hP.one i i (by omega) hi,GV rfl]
 rw [vE F hne (by rw [e1,F.kz hx];exact hx) (by rw [e2,e3,F.one_mul _ (F.cl.neg _ hx)];exact F.cl.neg _ hx) m λp hp hpc hpi=>?_,GV hc,GV (by omega),e1,e2,e3,F.kz hx,F.one_mul _ (F.cl.neg _ hx),F.add_neg _ hx];show O.mul (nth (ai R i) p) (nth (kerTo O m R P c P.length) p)=0;have hxp : El (nth (ai R i) p):=L8 (hR.row hi) hp;by_cases hpp : ∃q,q<P.length/\(nth P q).toNat=p
 ·obtain ⟨q,hq,rfl⟩:=hpp;have hqi : i ≠ q:=λe=>hpi (by rw [e]);rw [hP.one q i hq hi,GU hqi,F.lC ((jk F hR hP hlen hc _ (GQ _)).at hp)]
 ·rw [j4 hP hp hpc _ (GQ _) λq hq e=>hpp ⟨q,hq,e⟩,F.dh hxp]
theorem zQ (F : bZ O El) (hP : kN R P m) : ∀k,k<=(fu P m).length->Rk (oY O El (dj O m R P m).length (bF (dj O m R P m))) (((fu P m).take k).reverse) k
 | 0,_=>.nil
 | k+1,hk=>by
  have ih:=zQ F hP k (by omega);have hkl : k<(fu P m).length:=by omega
  have hnd : ∀K,(fu P K).Nodup:=λK=>by
   induction K with
   | zero=>exact K7
   | succ K ih =>
    rw [fu]
    split
    ·exact ih
    ·rw [Jg]
     refine ⟨ih,by simp,λa ha b hb=>?_⟩
     rw [IB] at hb
     rw [hb]
     have:=(jz K).1 ha
     omega
  have etk : ((fu P m).take (k+1)).reverse=(fu P m)[k] :: ((fu P m).take k).reverse:=by rw [Hj hkl,List.reverse_append];rfl
  rw [etk];refine .ind _ (λhc=>?_) ih;have hlk : k<(dj O m R P m).length:=by rw [gD];exact hkl
  have hat:=tO (P:=P) (k:=m) hkl;have eg : (fu P m).getD k 0=(fu P m)[k]:=by simp [GY,hkl]
  rw [eg] at hat;have h1:=hc (λv=>nth v k) (jA.zB F hlk) λy hy=>by
   rw [Kb] at hy;show nth (bF _ y) k=0;rw [dH _ y k hlk,jE O m R P m hkl,eg];have hym:=(jz m).1 (I1 hy);have hyk : y ≠ (fu P m)[k]:=λe=>by obtain ⟨q,hq,e2⟩:=List.mem_iff_getElem.1 hy;rw [Ir] at hq;rw [Kz] at e2;have h3:=(LB (hnd m)).1 (e2.trans e);omega
   refine j4 hP hym.1 hyk _ (GQ _) λq hq e=>hym.2 ?_;have h4:=hP.lt q hq;have : nth P q ∈ P:=aH hq;rwa [show nth P q=(y : Int) by omega] at this
  have h2 : nth (bF (dj O m R P m) (fu P m)[k]) k=0:=h1;rw [dH _ _ k hlk,jE O m R P m hkl,eg,jo hP hat.1 hat.2 _ (GQ _)] at h2;exact absurd h2 (by decide)
theorem sq (P : LI) (hP : ∀j,j<P.length->0<=nth P j/\nth P j<m) (ha : ∀i j,i<j->j<P.length->nth P i<nth P j) : (fu P m).length+P.length=m:=by
 have key : ∀k,k<=m->∃t,t<=P.length/\(fu P k).length+t=k/\(∀j,j<t->nth P j<k)/\(∀j,t<=j->j<P.length->(k : Int)<=nth P j):=by
  intro k;induction k with
  | zero=>intro _;exact ⟨0,G0 _,rfl,λj hj=>by omega,λj _ hj=>(hP j hj).1⟩
  | succ k ih =>
   intro hk
   obtain ⟨t,h1,h2,h3,h4⟩:=ih (by omega)
   rw [fu]
   by_cases hm : (k : Int) ∈ P
   ·rw [GV hm]
    obtain ⟨q,hq,e⟩:=List.mem_iff_getElem.1 hm
    rw [<- aj hq] at e
    have hqt : q=t:=by
     by_cases h5 : q<t
     ·have:=h3 q h5;omega
     ·by_cases h6 : t<q
      ·have h7:=ha t q h6 hq;have h8:=h4 t (GQ _) (by omega);omega
      ·omega
    subst hqt
    refine ⟨q+1,by omega,by omega,λj hj=>?_,λj h5 h6=>?_⟩
    ·by_cases e2 : j=q
     ·subst e2;omega
     ·have:=h3 j (by omega);omega
    ·have:=ha q j (by omega) h6;omega
   ·rw [GU hm,H5,Ij]
    refine ⟨t,h1,by omega,λj hj=>by have:=h3 j hj;omega,λj h5 h6=>?_⟩
    have h7:=h4 j h5 h6
    have h8 : nth P j ≠ k:=λe=>hm (by rw [<- e];exact aH h6)
    omega
 obtain ⟨t,h1,h2,h3,h4⟩:=key m (GQ _);have : t=P.length:=by apply Iv;intro h;have h5:=h4 t (GQ _) (by omega);have h6:=hP t (by omega);omega
 omega
theorem Ba (F : bZ O El) (hR : bG El m R) (hP : kN R P m) (hl : ou R P) (hlen : R.length=P.length) :
  R.length+(bz O m (dj O m R P m)).length=m/\rH O m R (bz O m (dj O m R P m)):=by
 have hK:=mJ F hR hP hlen;have hcnt:=sq (m:=m) P hP.lt hl.asc;have hkl:=gD O m R P m;obtain ⟨r1,r2⟩:=fB F hK;have hO:=wF F hR hP hl hlen;refine ⟨?_,λi j hi hj=>?_⟩
 ·have h1:=uh F hK;have h2:=zQ F hP (O:=O) (El:=El) (R:=R) (fu P m).length (GQ _);have hle:=(ef O (dj O m R P m) m).2;have hcl:=dw F hK;have h3:=Rk.map (cl':=oY O El (bz O m (dj O m R P m)).length (bF (bz O m (dj O m R P m)))) (λy=>y<m) id (λl x hl hx=>by rw [K6];exact ⟨r1.cl hl hx,r2.cl hl hx⟩) h2 (λy hy=>by rw [Kb] at hy;exact ((jz m).1 (I1 hy)).1);have h4:=Rk.le (kX F (di F hK)) h3 h1 (λx hx=>(kX F (di F hK)).mem _ _ (by rw [K6,Kb] at hx;exact List.mem_range.2 ((jz m).1 (I1 hx)).1));omega
 ·obtain ⟨e,he,he2⟩:=r1 j hj;rw [iA (a':=λp=>nth (ai R i) p) (b':=λp=>e (bF (dj O m R P m) p)) m λp hp=>⟨rfl,he2 p hp⟩];exact lT F hK he (λp hp=>L8 (hR.row hi) hp) λq hq=>hO i q hi hq
end
theorem qy (f : Int->Int) : ∀(n : Nat) (y z : Int),y<=z->z<y+n->f z=1->f (invTo f n y)=1/\y<=invTo f n y/\invTo f n y<y+n
 | 0,y,z,h1,h2,_=>by omega
 | n+1,y,z,h1,h2,hz=>by
  unfold invTo;split
  ·exact ⟨by assumption,by omega,by omega⟩
  ·rename_i hn;have hne : y ≠ z:=λe=>hn (e ▸ hz);have:=qy f n (y+1) z (by omega) (by omega) hz;exact ⟨this.1,by omega,by omega⟩
theorem fK {P M : Int} {mod : LI} (h : ba P M mod=true) : ∃m : Nat,M=m/\eo P m=(ah P m mod).El/\((ah P m mod).q : Int)=aI P M/\bZ (ah P m mod).ops (eo P m)/\Fc (ah P m mod).ops (jF P m mod) (eo P m) /\
  ∀p,eo P m p->p ≠ 0->(fP P m mod p=1 ↔ p=1):=by
 have hF:=dM h;obtain ⟨m,y,rfl,hr,h256,hsh,hq,g⟩:=jD h;have hrf : RF P m:=by
  obtain ⟨m',e,h2,_⟩:=en (by rw [cU];exact h);have : m=m':=by omega
  rw [this];exact h2
 rw [GW] at hF;have e : eo P m=(ah P m mod).El:=by funext x;simp only [bX.El,ah,eo];rw [hq]
 rw [<- e] at hF;have hq2:=g.q2;have hmul : ∀x z,eo P m x->eo P m z->(ah P m mod).ops.mul x z=mulR P m mod x z:=λx z hx hz=>by rw [DE hrf];exact g.oP hx hz
 have hqo : ((aI P m).toNat : Int)=aI P m:=by omega
 have hinv : ∀x,eo P m x->x ≠ 0->(ah P m mod).ops.inv x=fP P m mod x:=by
  intro x hx h0;have hi:=hF.cl.inv x hx h0;have hm:=hF.mul_inv x hx h0;rw [hmul x _ hx hi] at hm;have hi0 : (ah P m mod).ops.inv x ≠ 0:=by intro e0;have h2:=hF.mul_inv x hx h0;rw [e0,hF.dh hx] at h2;exact absurd h2 (by decide)
  have hb1:=hi.1;have hb2:=hi.2;obtain ⟨h1,h2,h3⟩:=qy (mulR P m mod x) ((aI P m).toNat - 1) 1 _ (by omega) (by omega) hm;have hel : eo P m (fP P m mod x):=⟨by unfold fP;omega,by unfold fP;omega⟩
  have h4 : (ah P m mod).ops.mul x (fP P m mod x)=1:=by rw [hmul x _ hx hel];exact h1
  have h5:=hF.mul_inv x hx h0;have e1 : (ah P m mod).ops.mul ((ah P m mod).ops.inv x) ((ah P m mod).ops.mul x (fP P m mod x))=fP P m mod x:=by rw [<- hF.mul_assoc _ x _ hi hx hel,hF.mul_comm _ x hi hx,h5,hF.one_mul _ hel]
  rw [h4,hF.kz hi] at e1;exact e1
 refine ⟨m,rfl,e,hqo,hF,⟨λx z _ _=>rfl,hmul,λx _=>rfl,hinv⟩,λp hp h0=>?_⟩;rw [<- hinv p hp h0];have hi:=hF.cl.inv p hp h0;have hm:=hF.mul_inv p hp h0;constructor
 ·intro e1;rw [e1,hF.kz hp] at hm;exact hm
 ·intro e1;rw [e1] at hm hi ⊢;rw [hF.one_mul _ hi] at hm;exact hm
theorem lV {P M : Int} {mod : LI} (h : br P M mod=true) : ∀p,eo P M.toNat p->p ≠ 0->(fP P M.toNat mod p=1 ↔ p=1):=by obtain ⟨m,rfl,_,_,_,_,h6⟩:=fK (by rw [<- cU];exact h);exact h6
theorem CN (P M : Int) (mod : LI) (cols : Int) (L : Ll) : e9 P M mod cols L=dk P M mod cols L:=by
 unfold e9 dk;rw [cU];split
 ·rename_i h;obtain ⟨m,rfl,_,hq,_⟩:=fK h;rw [GW,hq]
 ·rfl
theorem zW {P M : Int} {mod : LI} (h : ba P M mod=true) {L : Ll} {m : Nat} (hL : bG (ah P M.toNat mod).El m L) : tb (jF P M.toNat mod) L m=bL (ah P M.toNat mod) L m:=by obtain ⟨k,rfl,he,_,hF,hA,_⟩:=fK h;rw [GW] at hL ⊢;rw [<- he] at hL;unfold tb bL;rw [(jq hA hF.cl hL m (GQ _)).1]
theorem yo (P M : Int) (mod : LI) (cols : Int) (L : Ll) : fs P M mod cols L=db P M mod cols L:=by
 unfold fs db;rw [CN];split
 ·rename_i h0;obtain ⟨h1,h2⟩:=lI h0;obtain ⟨m,rfl,_,_,hR⟩:=kG h2;rw [GW,zW h1 hR]
 ·rfl
theorem sc (P M : Int) (mod : LI) (N : Int) (L : Ll) : iX P M mod N L=aG P M mod N L:=by unfold iX aG;rw [cU,yo]
theorem bf {P M : Int} {mod : LI} {N : Int} {L : Ll} (h : aG P M mod N L=0) : ∃n : Nat,N=n/\1<=n/\n<=64/\bZ (ah P M.toNat mod).ops (ah P M.toNat mod).El/\bG (ah P M.toNat mod).El n L:=by obtain ⟨m,rfl,h1,h2,_,hR⟩:=dT h;exact ⟨m,rfl,h1,h2,dM (aQ h).1,hR⟩
theorem lH (x : Nat) (i : Int) : ∀k,i ∈ cQ x k ↔ ∃j : Nat,j<k/\i=j/\x.testBit j=true
 | 0=>by simp [cQ]
 | k+1=>by
  have ih:=lH x i k;unfold cQ;split
  ·rename_i ht;rw [IS,ih,IB];constructor
   ·rintro (⟨j,h1,h2,h3⟩ | rfl)
    ·exact ⟨j,by omega,h2,h3⟩
    ·exact ⟨k,by omega,rfl,ht⟩
   ·rintro ⟨j,h1,h2,h3⟩;by_cases e : j=k
    ·subst e;exact .inr h2
    ·exact .inl ⟨j,by omega,h2,h3⟩
  ·rename_i ht;rw [ih];constructor
   ·rintro ⟨j,h1,h2,h3⟩;exact ⟨j,by omega,h2,h3⟩
   ·rintro ⟨j,h1,h2,h3⟩;by_cases e : j=k
    ·subst e;exact absurd h3 ht
    ·exact ⟨j,by omega,h2,h3⟩
theorem jy (x N : Nat) (i : Nat) : i ∈ rU (cQ x N) (cQ x N).length ↔ i<N/\x.testBit i=true:=by
 rw [jM];constructor
 ·rintro ⟨j,hj,e⟩;have hm : nth (cQ x N) j ∈ cQ x N:=aH hj;obtain ⟨t,h1,h2,h3⟩:=(lH x _ N).1 hm;have : t=i:=by omega
  subst this;exact ⟨h1,h3⟩
 ·rintro ⟨h1,h2⟩;have hm : (i : Int) ∈ cQ x N:=(lH x _ N).2 ⟨i,h1,rfl,h2⟩;obtain ⟨j,hj,e⟩:=List.mem_iff_getElem.1 hm;exact ⟨j,hj,by rw [aj hj,e];rfl⟩
section
variable {P M : Int} {mod : LI} {n : Nat} {L : Ll}
end
def GO (n : Nat) (Q : LI) : Prop:=∀j,j<Q.length->0<=nth Q j/\nth Q j<n
theorem AT (av : OA) (nv cv : Nat) (v : LI) (ao : OA) (no co : Nat) (Q : LI) (w : World) (hv : Ints w av nv v) (hq : Ints w ao no Q) (hQ : GO nv Q) (hno : no<=1000000) :
  Calls prog 59 #[.slice av nv cv,.slice ao no co] w (bS w (gI Q v)):=by
 have Hql:=Z5 hq.len;have hplq:=hq.pl;have hplv:=hv.pl;have hmq:=hq.max;have hmv:=hv.max;have HQ:=Z5 hQ;have hpk : (gI Q v).length=no:=by rw [gI,H8];exact Hql.out
 have Hpk:=Z5 hpk;unfold maxLen at hmq hmv;clear hQ hpk;go_enter func59,ntmps59;go_wp2_with (at_make;refine bP rfl _ _ 22 3 rfl (.int .i64 0) 8 underlying22 bg rfl no rfl rfl (by omega) (hq.max) ?_;intro a1 w1 hown hbel hge hlt);go_loopw [6] (λiv wr=>∃k : Nat,k<=no/\iv = .int .i64 k /\
   wr.ownsRow w.heap.size 3 1 (.slice a1 no no) no ((cO ((gI Q v).take k) k no).map (Value.int .i64))/\Mv w wr)
  (λi _=>no - (intOf i).toNat)
 case atStart=>exact ⟨0,G0 _,rfl,by simpa [cO] using hown,hbel⟩
 case round =>
  clear hown hbel
  obtain ⟨k,hk,rfl,hown,hbel⟩:=hrel
  obtain ⟨hints,hmine⟩:=L0 hown
  have hpl1:=hints.pl
  by_cases hlt : k<no
  ·have cq:=(hq.af hbel).cell k hlt
   have hb:=HQ.out k (by rw [Hql.out];exact hlt)
   obtain ⟨z,hz⟩ : ∃z : Nat,nth Q k=z:=⟨(nth Q k).toNat,by omega⟩
   have hzn : z<nv:=by omega
   have cz:=(hv.af hbel).cell z hzn
   have hf:=(hmine (by omega)).2 k hlt
   have hc2:=hints.cell k hlt
   have hB:=(hmine (by omega)).1
   have Hv : Hid (nth (gI Q v) k=nth v z):=by show _=_;rw [nL Q v (by rw [Hql.out];exact hlt),hz,GW]
   rw [hz] at cq
   clear hz hb
   go_wp2_with fail
   go_roundw
   case rel =>
    refine ⟨k+1,by omega,by go_num,?_,hbel.setCell hB _⟩
    have h:=bt hown k hlt (.int .i64 (nth v z))
    rw [<- Im,eS _ _ _ _ (by rw [Ir,Hpk.out];omega) hlt] at h
    rw [Hj (by rw [Hpk.out];omega),<- aj,Hv.out]
    exact h
   case measure=>simp [intOf] <;> omega
  ·obtain rfl : k=no:=by omega
   have hfin : cO ((gI Q v).take k) k k=gI Q v:=by rw [fw,H6 (by rw [Hpk.out];exact GQ _)]
   rw [hfin] at hown
   clear hfin
   go_wp2_with fail
   go_ret
   exact ⟨a1,k,by rw [Hpk.out];rfl,by rw [Hpk.out];exact hown,hbel⟩
theorem wI (f : LI->LI) (L : Ll) {k : Nat} (hk : k<L.length) : ai (L.map f) k=f (ai L k):=by rw [aD (by simpa using hk),aD hk];simp
section
open Go.RowKit
end
theorem qd (x : Nat) : ∀k,k<=64->(cQ x k).length+(cQ (qp x) k).length=k
 | 0,_=>rfl
 | k+1,hk=>by have ih:=qd x k (by omega);have hc:=rX x k (by omega);rw [cQ,cQ,hc];cases hx : x.testBit k <;> simp <;> omega
theorem AR (a : OA) (n c : Nat) (l : LI) (v : Int) (w : World) (h : Ints w a n l) :
  Calls prog 238 #[.slice a n c,.int .i64 v] w λe w'=>∃z : Int,e = .returned (.int .i64 z)/\(0<=z ↔ v ∈ l)/\w'=w:=by
 have Hl:=Z5 h.len;have hpl:=h.pl;have hmax:=h.max;unfold maxLen at hmax;go_enter func238,ntmps238;go_wp2_with fail;go_loopw [8] (λiv wr=>∃k : Nat,k<=n/\iv = .int .i64 k/\Hid (∀j,j<k->nth l j ≠ v)/\wr=w) (λi _=>n - (intOf i).toNat);case atStart=>exact ⟨0,G0 _,rfl,λj hj=>by omega,rfl⟩
 case round =>
  obtain ⟨k,hk,rfl,hno,rfl⟩:=hrel
  by_cases hlt : k<n
  ·have c1:=h.cell k hlt
   by_cases he : nth l k=v
   ·have he' : (v == nth l k)=true:=by rw [he];simp
    have Hm : Hid (v ∈ l):=by show v ∈ l;rw [<- he];exact aH (by rw [Hl.out];exact hlt)
    clear he
    go_wp2_with fail
    go_ret
    exact ⟨k,rfl,⟨λ_=>Hm.out,λ_=>JG _⟩,rfl⟩
   ·have he' : (v == nth l k)=false:=by simpa using λe=>he e.symm
    have Hn2 : Hid (∀j,j<k+1->nth l j ≠ v):=λj hj=>by
     by_cases e : j=k
     ·subst e;exact he
     ·exact hno.out j (by omega)
    clear he
    go_wp2_with fail
    go_roundw
    case rel=>exact ⟨k+1,by omega,by go_num,Hn2.out,by simp⟩
    case measure=>simp [intOf] <;> omega
  ·obtain rfl : k=n:=by omega
   have Hm : Hid (¬ v ∈ l):=λhm=>by obtain ⟨j,hj,e⟩:=List.mem_iff_getElem.1 hm;rw [<- aj hj] at e;exact hno.out j (by have:=Hl.out;omega) e
   go_wp2_with fail
   go_ret
   exact ⟨-1,rfl,⟨λh=>absurd h (by omega),λh=>absurd h Hm.out⟩,rfl⟩
theorem bY (a : OA) (n c : Nat) (l : LI) (v : Int) (w : World) (h : Ints w a n l) :
  Calls prog 189 #[.slice a n c,.int .i64 v] w λe w'=>e = .returned (.bool (decide (v ∈ l)))/\w'=w:=by
 go_enter func189,ntmps189;go_wp2_with fail;refine (AR a n c l v w h).mono ?_;rintro e w1 ⟨z,rfl,hz,rfl⟩;by_cases h0 : 0<=z
 ·have Hz : Hid (decide (v ∈ l)=true):=by show _=_;simpa using hz.1 h0
  have h0' : decide (0<=z)=true:=by simpa using h0
  clear hz h0;go_wp2_with fail;go_ret;exact ⟨aR Hz.out.symm,rfl⟩
 ·have Hz : Hid (decide (v ∈ l)=false):=by show _=_;simpa using λh=>h0 (hz.2 h)
  have h0' : decide (0<=z)=false:=by simpa using h0
  clear hz h0;go_wp2_with fail;go_ret;exact ⟨aR Hz.out.symm,rfl⟩
def aZ (G : bX) (L : Ll) (m : Nat) : Ll:=bL G (dj G.ops m (bL G L m) (bh G L m) m) m
def oO (G : bX) (L : Ll) (m : Nat) (w : World) (e : Ending) (w' : World) : Prop :=
 ∃a c,e = .returned (.tuple #[.agg #[.int .i64 m,.slice a (aZ G L m).length c],.int .i64 0])/\bQ w.heap.size w' a (aZ G L m).length (aZ G L m)/\Mv w w'
theorem yI (P : LI) : ∀k,(fu P k).length<=k
 | 0=>GQ _
 | k+1=>by have:=yI P k;rw [fu];split <;> simp <;> omega
theorem zf (P M : Int) (am : OA) (mn cm : Nat) (mod : LI) (m : Nat) (a : OA) (n c : Nat) (L : Ll) (w : World) (hmod : Ints w am mn mod) (hi : bC w a n L) (hE : aG P M mod m L=0) :
  Calls prog 133 #[.agg #[.int .i64 P,.int .i64 M,.slice am mn cm],.agg #[.int .i64 m,.slice a n c]] w (oO (ah P M.toNat mod) L m w):=by
 have Hlen:=Z5 hi.len;obtain ⟨N',e,hm1,hm64,F,hR⟩:=bf hE;obtain rfl : m=N':=by omega
 have hL256:=(dT hE).choose_spec.2.2.2.1;have hn : n<=256:=by rw [<- hi.len];exact hL256
 obtain ⟨h5,h6⟩:=fA (aQ hE).2.2.2;obtain ⟨hfB,h8⟩:=lI h5;have HR:=Z5 hR;have HF:=Z5 F;clear hE h5 h6 e hL256;go_enter func133,ntmps133;go_wp2_with fail;obtain ⟨W,hW⟩ : ∃W : World,W=((((w.alloc (.cells #[.int .i64 P,.int .i64 M,.slice am mn cm] 24)).alloc (.cells #[.int .i64 m,.slice a n c] 94)).alloc (.cells #[.int .i64 0,.slice none 0 0] 94)).alloc (.cells #[.int .i64 m,.slice a n c] 94)):=⟨_,rfl⟩
 rw [<- hW];have hbW : Mv w W:=by rw [hW];exact ((((GS _ _).alloc (GQ _) _).alloc (by simp) _).alloc (by simp;omega) _).alloc (by simp;omega) _
 have hsW : W.heap.size=w.heap.size+4:=by rw [hW];simp
 have q1 : W.cell? ⟨w.heap.size+1,0,none⟩=some (.int .i64 m)/\W.cell? ⟨w.heap.size+1,1,none⟩=some (.slice a n c):=by rw [hW];exact ⟨bp (bp (aE _ _ _ (by simp) 0) _) _,bp (bp (aE _ _ _ (by simp) 1) _) _⟩
 have q2 : W.cell? ⟨w.heap.size+1+1,0,none⟩=some (.int .i64 0)/\W.cell? ⟨w.heap.size+1+1,1,none⟩=some (.slice none 0 0)/\W.frozen? ⟨w.heap.size+1+1,0,none⟩=false/\W.frozen? ⟨w.heap.size+1+1,1,none⟩=false:=by rw [hW];exact ⟨bp (aE _ _ _ (by simp) 0) _,bp (aE _ _ _ (by simp) 1) _,dL (by simp) (eZ _ _ _ (by simp) 0) _,dL (by simp) (eZ _ _ _ (by simp) 1) _⟩
 have q3 : W.cell? ⟨w.heap.size+1+1+1,0,none⟩=some (.int .i64 m)/\W.cell? ⟨w.heap.size+1+1+1,1,none⟩=some (.slice a n c):=by rw [hW];exact ⟨aE _ _ _ (by simp) 0,aE _ _ _ (by simp) 1⟩
 have hiW:=hi.af hbW;have hMs : A3 W (some ⟨w.heap.size+1+1+1,0,none⟩) 1 [((m : Int),L)]:=⟨rfl,λ_=>rfl,by unfold maxLen;omega,λi hi=>by
  have : i=0:=by simp at hi;omega
  subst this;exact ⟨a,n,c,by simpa using q3.1,by simpa using q3.2,hiW⟩⟩
 have HsW:=Z5 hsW;clear hW hsW;refine (vH P M am mn cm mod _ 1 1 _ W (hmod.af hbW) hMs).mono ?_;rintro e w1 ⟨hb1,hcase⟩;have hbw1:=LY hbW hb1;have hq : ∀V,Mv W V->V.cell? ⟨w.heap.size+1,0,none⟩=some (.int .i64 m)/\V.cell? ⟨w.heap.size+1,1,none⟩=some (.slice a n c)/\V.cell? ⟨w.heap.size+1+1,0,none⟩=some (.int .i64 0)/\V.cell? ⟨w.heap.size+1+1,1,none⟩=some (.slice none 0 0)/\V.frozen? ⟨w.heap.size+1+1,0,none⟩=false/\V.frozen? ⟨w.heap.size+1+1,1,none⟩=false:=by intro V hV;have hs:=HsW.out;exact ⟨ak hV q1.1,ak hV q1.2,ak hV q2.1,ak hV q2.2.1,(hV.frozen (p:=⟨w.heap.size+1+1,0,none⟩) (by simp [hs])).trans q2.2.2.1,(hV.frozen (p:=⟨w.heap.size+1+1,1,none⟩) (by simp [hs])).trans q2.2.2.2⟩
 have Hq:=Z5 hq;clear hq q1 q2 q3;rw [nC] at hcase;rcases hcase with ⟨hB,_⟩ | ⟨_,er,h0,h1,_⟩ | ⟨_,_,b,rfl,hG,hbl⟩
 ·rw [hfB] at hB;exact absurd hB (by decide)
 ·rw [h8] at h1;exact absurd h1.symm h0
 obtain ⟨r1,r2,r3,r4,r5,r6⟩:=Hq.out w1 hb1;have HPost : Hid (∀a c w',bQ w.heap.size w' a (aZ (ah P M.toNat mod) L m).length (aZ (ah P M.toNat mod) L m)->Mv w w'->oO (ah P M.toNat mod) L m w (.returned (.tuple #[.agg #[.int .i64 m,.slice a (aZ (ah P M.toNat mod) L m).length c],.int .i64 0])) w'):=λa c w' h1 h2=>⟨a,c,rfl,h1,h2⟩
 obtain ⟨G,hGG⟩ : ∃G,ah P M.toNat mod=G:=⟨_,rfl⟩
 have HGG:=Z5 hGG;rw [hGG] at hG HR HF HPost hR F;clear h8 hGG hfB;have Hcan:=Z5 (rS a n c m L hG (hiW.af hb1) hR (by omega) (by omega));have hRc : bG G.El m (bL G L m):=di F hR;obtain ⟨hPv,hLd⟩:=dI F hR;have hcl : (bL G L m).length=(bh G L m).length:=dB G L m;have HPv : Hid (kN (bL G L m) (bh G L m) m):=hPv;have hrws : ∀k,k<=m->bG G.El m (dj G.ops m (bL G L m) (bh G L m) k):=by
  intro k;induction k with
  | zero=>intro _ r hr;simp [dj] at hr
  | succ k ih =>
   intro hk r hr
   rw [dj] at hr
   split at hr
   ·exact ih (by omega) r hr
   ·rw [IS,IB] at hr
    rcases hr with hr | rfl
    ·exact ih (by omega) r hr
    ·exact jk F hRc hPv hcl (by omega) _ (GQ _)
 have Hrws:=Z5 hrws;have hdl : aZ G L m=bL G (dj G.ops m (bL G L m) (bh G L m) m) m:=rfl;have Hdl:=Z5 hdl;have Hcp : Hid (∀c,c<m->∀i,i<(bh G L m).length->G.El (nth (ai (bL G L m) i) c)):=λc hc i hi=>L8 (hRc.row (by rw [hcl];exact hi)) hc;have Hrl : Hid (∀i,i<(bh G L m).length->(ai (bL G L m) i).length=m):=λi hi=>(hRc.row (by rw [hcl];exact hi)).1;clear hR F hPv hLd hrws hdl;go_wp2_with fail;refine Hcan.out.mono ?_;rintro e w2 ⟨a2,c2,ap,cp,rfl,hM2,hp2,hb2⟩;have Hkp : Hid (∀c i,kerTo G.ops m (bL G L m) (bh G L m) c (i+1)=(kerTo G.ops m (bL G L m) (bh G L m) c i).set (nth (bh G L m) i).toNat (G.neg (nth (ai (bL G L m) i) c))):=λc i=>rfl;have Hk0 : Hid (∀c,kerTo G.ops m (bL G L m) (bh G L m) c 0=(List.replicate m 0).set c 1):=λc=>rfl;have Hplt : Hid (∀j,j<(bh G L m).length->0<=nth (bh G L m) j/\nth (bh G L m) j<m):=HPv.out.lt;obtain ⟨R,hRR⟩ : ∃R,bL G L m=R:=⟨_,rfl⟩
 obtain ⟨Pv,hPP⟩ : ∃Pv,bh G L m=Pv:=⟨_,rfl⟩
 rw [hRR,hPP] at Hrws Hdl Hcp Hkp Hk0 Hrl;rw [hPP] at Hplt hp2 hM2 hcl;rw [hRR] at hM2 hcl;rw [hPP];clear hRR hPP HPv Hcan;obtain ⟨t,ht⟩ : ∃t,Pv.length=t:=⟨_,rfl⟩
 have Ht:=Z5 ht;rw [ht] at hM2 hp2 Hcp Hplt hcl Hrl;rw [ht];have hMM:=hM2.jX;have hII:=hp2.ints;have hplP:=hII.pl;have hplR:=hMM.pl;have hbw2:=LY hbw1 hb2;have hb12:=LY hb1 hb2;have hG2:=hG.af hb2;have hmaxP:=hII.max;unfold maxLen at hmaxP;obtain ⟨z1,z2,z3,z4,z5,z6⟩:=Hq.out w2 hb12;clear ht hM2 hp2 hG r1 r2 r3 r4 r5 r6;go_wp2_with fail;go_loopw [10,37] (λov iv wr=>∃(k : Nat) (a1 : OA) (c1 : Nat),k<=m/\iv = .int .i64 k/\ov = .slice a1 (fu Pv k).length c1/\(∃Rr,aP wr w2.heap.size a1 (fu Pv k).length c1 Rr (dj G.ops m R Pv k))/\Mv w2 wr) (λ_ iv _=>m - (intOf iv).toNat);case atStart=>exact ⟨0,none,0,G0 _,rfl,rfl,⟨[],aP.FX w2 w2.heap.size⟩,GS _ _⟩
 case round =>
  clear z1 z2 z3 z4 z5 z6
  obtain ⟨k,a1,c1,hk,rfl,rfl,⟨Rr,hO⟩,hbr⟩:=hrel
  have hnk:=yI Pv k
  by_cases hlt : k<m
  ·have hcont:=bY ap t cp Pv k wr (hII.af hbr)
   obtain ⟨z1,_,_,_,_,_⟩:=Hq.out wr (LY hb12 hbr)
   by_cases hmem : (k : Int) ∈ Pv
   ·have hN : Hid (fu Pv (k+1)=fu Pv k):=by show _=_;rw [fu,GV hmem]
    have hKk : Hid (dj G.ops m R Pv (k+1)=dj G.ops m R Pv k):=by show _=_;rw [dj,GV hmem]
    rw [show decide ((k : Int) ∈ Pv)=true by simpa using hmem] at hcont
    have Hcont:=Z5 hcont
    clear hmem hcont
    go_wp2_with fail
    refine Hcont.out.mono ?_
    rintro e w3 ⟨rfl,rfl⟩
    go_wp2_with fail
    go_roundw
    case rel=>exact ⟨k+1,a1,c1,by omega,by go_num,by rw [hN.out],⟨Rr,by rw [hN.out,hKk.out];exact hO⟩,hbr⟩
    case measure=>simp [intOf] <;> omega
   ·have hN : Hid (fu Pv (k+1)=fu Pv k ++ [k]):=by show _=_;rw [fu,GU hmem]
    have hKk : Hid (dj G.ops m R Pv (k+1)=dj G.ops m R Pv k ++ [kerTo G.ops m R Pv k t]):=by show _=_;rw [dj,GU hmem,Ht.out]
    rw [show decide ((k : Int) ∈ Pv)=false by simpa using hmem] at hcont
    have Hcont:=Z5 hcont
    clear hmem hcont
    go_wp2_with fail
    refine Hcont.out.mono ?_
    rintro e w3 ⟨rfl,rfl⟩
    go_wp2_with (at_make;refine bP rfl _ _ 22 3 rfl (.int .i64 0) 8 underlying22 bg rfl m rfl rfl (by omega) (by unfold maxLen;omega) ?_;intro a5 w5 hown5 hbel5 hge5 hlt5;obtain ⟨hi5,hm5⟩:=L0 (l:=List.replicate m 0) (by simpa using hown5);have hc5:=hi5.cell k hlt;have hf5:=(hm5 (by omega)).2 k hlt;have hpl5:=hi5.pl)
    have hx0:=bt hown5 k hlt (.int .i64 1)
    have hx0' : (w5.setCell ⟨ablk a5,aL a5+k,none⟩ (.int .i64 1)).ownsRow w3.heap.size 3 1 (.slice a5 m m) m ((kerTo G.ops m R Pv k 0).map (Value.int .i64)):=by rw [Hk0.out,Im,Jn];exact hx0
    have hbx0:=hbel5.setCell (p:=⟨ablk a5,aL a5+k,none⟩) (hm5 (by omega)).1 (.int .i64 1)
    clear hx0 hown5 hbel5 hge5 hlt5 hi5 hm5 hc5 hf5 z1
    go_loopw [51] (λiv wx=>∃i : Nat,i<=t/\iv = .int .i64 i/\wx.ownsRow w3.heap.size 3 1 (.slice a5 m m) m ((kerTo G.ops m R Pv k i).map (Value.int .i64))/\Mv w3 wx) (λiv _=>t - (intOf iv).toNat)
    case atStart=>exact ⟨0,G0 _,rfl,hx0',hbx0⟩
    case round =>
     clear hx0' hbx0
     obtain ⟨i,hi',rfl,hown,hbx⟩:=hrel
     by_cases hli : i<t
     ·have hb2x:=LY hbr hbx
      have cpi:=(hII.af hb2x).cell i hli
      have hpb:=Hplt.out i hli
      obtain ⟨z,hz⟩ : ∃z : Nat,nth Pv i=z:=⟨(nth Pv i).toNat,by omega⟩
      have hzm : z<m:=by omega
      obtain ⟨ra,rn,rc,hcell,hrow⟩:=(hMM.af hb2x).cell i hli
      have hrn : rn=m:=by rw [<- hrow.len];exact Hrl.out i hli
      subst hrn
      have ck:=hrow.cell k hlt
      have hpr:=hrow.pl
      have hel:=Hcp.out k hlt i hli
      have hst : kerTo G.ops rn R Pv k (i+1)=(kerTo G.ops rn R Pv k i).set z (G.neg (nth (ai R i) k)):=by rw [Hkp.out,hz,GW]
      have Hst:=Z5 hst
      obtain ⟨x9,hx9⟩ : ∃x,nth (ai R i) k=x:=⟨_,rfl⟩
      rw [hx9] at ck hel Hst
      have Hng:=Z5 (EK x9 (hG2.af hb2x) hel)
      rw [hz] at cpi
      obtain ⟨hints,hmine⟩:=L0 hown
      have hpl5':=hints.pl
      have cz:=hints.cell z hzm
      have fz:=(hmine (by omega)).2 z hzm
      have hB:=(hmine (by omega)).1
      clear hz hpb hst hx9 hel
      go_wp2_with fail
      refine Hng.out.mono ?_
      rintro e w6 ⟨nd,rfl,rfl⟩
      go_wp2_with fail
      go_roundw
      case rel =>
       have h:=bt (w:=wr.drewN nd) hown z hzm (.int .i64 (G.neg x9))
       rw [<- Im,<- Hst.out] at h
       exact ⟨i+1,by omega,by go_num,h,(below_drewN hbx nd).setCell hB _⟩
      case measure=>simp [intOf] <;> omega
     ·obtain rfl : i=t:=by omega
      obtain ⟨X,hX⟩ : ∃X,kerTo G.ops m R Pv k i=X:=⟨_,rfl⟩
      have hXl : X.length=m:=by rw [<- hX];exact fE _ _ _ _ _ _
      rw [hX] at hown hKk
      have HXl:=Z5 hXl
      have hO3:=hO.af (LY hbx (an wr (.cells #[.slice a5 m m] 22)))
      have hsz:=hbr.size
      have hsx:=hbx.size
      have hs3 : w2.heap.size<=(wr.alloc (.cells #[.slice a5 m m] 22)).heap.size:=by simp;omega
      have hcn:=bm wr (.slice a5 m m) 22
      clear hX hXl
      go_wp2_with (at_builtin;refine aU rfl _ _ 25 22 rfl (.slice none 0 0) 24 underlying25 ew rfl w2.heap.size a1 (fu Pv k).length c1 _ rfl hO3.own ⟨wr.heap.size,0,none⟩ 1 (.slice a5 m m) rfl hcn rfl (by omega) (by unfold maxLen;omega) hs3 ?_;intro a7 c7 w7 hown7 hgr7 hap7)
      go_roundw
      case rel =>
       have hb4 : Mv w3 (wr.alloc (.cells #[.slice a5 m m] 22)):=LY hbx (an _ _)
       have hown4 : (wr.alloc (.cells #[.slice a5 m m] 22)).ownsRow w2.heap.size 3 1 (.slice a5 X.length m) X.length (X.map (Value.int .i64)):=by rw [HXl.out];exact bd (bj hown (an _ _)) hsz
       have hra : a5 ≠ none->¬ bI a1 Rr (ablk a5):=λh0 hI=>by have h1:=(aS hown h0).1;have h2:=(hO.lt _ hI).2;omega
       have hP:=Mi hO3 hown4 hra (by rw [HXl.out];exact hown7) hgr7 hap7
       have hb5 : Mv w2 w7:=L3 (LY hbr hb4) hO3.own hgr7 (GQ _) (H7 hsz hb4.size)
       exact ⟨k+1,a7,c7,by omega,by go_num,by rw [hN.out];simp,⟨_,by rw [hN.out,hKk.out,H5];exact hP⟩,hb5⟩
      case measure=>simp [intOf] <;> omega
  ·obtain rfl : k=m:=by omega
   have hbw:=LY hbw2 hbr
   have hcan:=rS a1 (fu Pv k).length c1 k (dj G.ops k R Pv k) (hG2.af hbr) hO.jX (Hrws.out k (GQ _)) (by omega) (by omega)
   have Hcan:=Z5 hcan
   obtain ⟨z1,z2,z3,z4,z5,z6⟩:=Hq.out wr (LY hb12 hbr)
   clear hcan hO
   go_wp2_with fail
   refine Hcan.out.mono ?_
   rintro e w8 ⟨a8,c8,ap8,cp8,rfl,hM8,hp8,hb8⟩
   have hlen8 : (bh G (dj G.ops k R Pv k) k).length=(aZ G L k).length:=by rw [Hdl.out,dB]
   have hM8' : bQ wr.heap.size w8 a8 (aZ G L k).length (aZ G L k):=by rw [<- hlen8,Hdl.out];exact hM8
   rw [hlen8]
   have hbw8:=LY hbw hb8
   have hF:=HPost.out a8 c8 ((w8.setCell ⟨w.heap.size+1+1,0,none⟩ (.int .i64 k)).setCell ⟨w.heap.size+1+1,1,none⟩ (.slice a8 (aZ G L k).length c8)) (by have hs:=HsW.out;have hs1:=(LY hb12 hbr).size;exact ((hM8'.setCell (p:=⟨w.heap.size+1+1,0,none⟩) (by simp;omega) _).setCell (p:=⟨w.heap.size+1+1,1,none⟩) (by simp;omega) _).mono (by omega)) ((hbw8.setCell (by simp;omega) _).setCell (by simp;omega) _)
   have HF2:=Z5 hF
   clear hF hM8 hp8 hM8' Hcan z1 z2 z3 z4 z5 z6 hlen8
   obtain ⟨z1,z2,z3,z4,z5,z6⟩:=Hq.out w8 (LY (LY hb12 hbr) hb8)
   generalize (aZ G L k).length=q at *
   go_wp2_with fail
   exact bodyPost_ret (v:=.tuple #[.agg #[.int .i64 k,.slice a8 q c8],.int .i64 0]) (by simp [results,results133,go_sem,z3,z4]) rfl (by rw [HGG.out];exact HF2.out)
theorem kQ {P M : Int} {mod : LI} (h : ba P M mod=true) : mod.length<=8:=by
 unfold ba bM at h;simp only [Ib,bne_iff_ne,ne_eq] at h;obtain ⟨⟨⟨h1,_⟩,h3⟩,_⟩:=h;have h2:=fV h1;by_cases hM : M=1
 ·rw [GV hM] at h3;have : mod.length=0:=by simpa using h3
  omega
 ·rw [GU hM] at h3;simp only [Ib,Iy] at h3;omega
theorem kU {P M : Int} {mod : LI} {m : Nat} {L : Ll} (hE : aG P M mod m L=0) :
  aG P M mod m (aZ (ah P M.toNat mod) L m)=0/\∀x,FW (ah P M.toNat mod).ops (aZ (ah P M.toNat mod) L m) m x=FW (ah P M.toNat mod).ops L m x:=by
 obtain ⟨N',e,hm1,hm64,F,hR⟩:=bf hE;obtain rfl : m=N':=by omega
 obtain ⟨hfB,h1,h64,h4⟩:=aQ hE;obtain ⟨h5,h6⟩:=fA h4;rw [GW] at h6;have hcan : bz (ah P M.toNat mod).ops m L=L:=h6;obtain ⟨hPv,hLd⟩:=dI F hR;have hcl:=dw F hR;rw [hcan] at hPv hLd hcl;have hK:=mJ F hR hPv hcl;have hdl : aZ (ah P M.toNat mod) L m=bz (ah P M.toNat mod).ops m (dj (ah P M.toNat mod).ops m L (aC (ah P M.toNat mod).ops L m).2 m):=by unfold aZ bh;rw [h6];rfl
 obtain ⟨k1,k2⟩:=Ba F hR hPv hLd hcl;have hKR:=di F hK;have hidem:=nF F hK;have hrk:=uh F hK;have hrg:=uh F hR;rw [hcan] at hrg;rw [<- hdl] at k1 k2 hKR hidem hrk;generalize aZ (ah P M.toNat mod) L m=D at *;constructor
 ·have hq : ((ah P M.toNat mod).q : Int)=aI P M\/True:=.inr trivial;have hm : eU (ah P M.toNat mod).q m D=0:=by
   unfold eU;rw [GU (by omega)];have hsh : gW (m : Int) D=true:=by unfold gW;rw [IG];intro r hr;have:=(hKR r hr).1;simp;omega
   rw [GU (by rw [hsh];decide),GV];rw [IG];intro r hr;unfold dR gE;rw [IG];intro x hx;have:=(hKR r hr).2 x hx;unfold bX.El at this;simp;exact this
  have hf : dk P M mod m D=0:=by unfold dk;rw [GV hfB];exact hm
  have hsp : db P M mod m D=0:=by unfold db;rw [GV hf,GW,GV];exact hidem
  have hle : gK (m : Int)=0:=o0 (by omega) (by omega);unfold aG;rw [GV hfB,GV hle];exact hsp
 ·intro x;have hs:=tl F hKR (cQ x m);have hc:=tl F hKR (cQ (qp x) m);have gs:=tl F hR (cQ x m);have gc:=tl F hR (cQ (qp x) m);have hb:=qd x m hm64;have hgl : ∀Q : LI,∀k,(rU Q k).length=k:=λQ k=>by
   induction k with
   | zero=>rfl
   | succ k ih=>rw [rU,Io,ih]
  have hS : ∀i ∈ rU (cQ x m) (cQ x m).length,i<m:=λi hi=>((jy x m i).1 hi).1;have hC : ∀i ∈ rU (cQ (qp x) m) (cQ (qp x) m).length,i<m:=λi hi=>((jy (qp x) m i).1 hi).1;have hSC : ∀p,p<m->p ∈ rU (cQ x m) (cQ x m).length\/p ∈ rU (cQ (qp x) m) (cQ (qp x) m).length:=λp hp=>by
   rw [jy,jy,rX _ _ (by omega)];cases hx : x.testBit p
   ·exact .inr ⟨hp,rfl⟩
   ·exact .inl ⟨hp,rfl⟩
  have r1:=zP F hR hKR k2 k1 hrg hrk hS hC hSC (by rw [hgl,hgl];exact hb) gc hs;have r2:=zP F hR hKR k2 k1 hrg hrk hC hS (λp hp=>(hSC p hp).symm) (by rw [hgl,hgl];omega) gs hc;rw [hgl] at r1 r2;unfold FW;omega
section
variable {O : aM} {El : Int->Prop} {m : Nat} {L : Ll}
def GJ (O : aM) (L : Ll) (Q : LI) : Nat:=(uF O L Q).length
end
def frTo (b : Bool) (U : LI) : Nat->LI
 | 0=>[]
 | k+1=>if decide ((k : Int) ∈ U)=b then frTo b U k ++ [(k : Int)] else frTo b U k
theorem ik {b : Bool} {U : LI} {x : Int} : ∀k,x ∈ frTo b U k ↔ ∃j : Nat,j<k/\x=j/\decide ((j : Int) ∈ U)=b
 | 0=>by simp [frTo]
 | k+1=>by
  rw [frTo];by_cases h : decide ((k : Int) ∈ U)=b
  ·rw [GV h,IS,ik k,IB];constructor
   ·rintro (⟨j,hj,e,hb⟩ | e)
    ·exact ⟨j,by omega,e,hb⟩
    ·exact ⟨k,by omega,e,h⟩
   ·rintro ⟨j,hj,e,hb⟩;by_cases ejk : j=k
    ·subst ejk;exact .inr e
    ·exact .inl ⟨j,by omega,e,hb⟩
  ·rw [GU h,ik k];constructor
   ·rintro ⟨j,hj,e,hb⟩;exact ⟨j,by omega,e,hb⟩
   ·rintro ⟨j,hj,e,hb⟩;by_cases ejk : j=k
    ·subst ejk;exact absurd hb h
    ·exact ⟨j,by omega,e,hb⟩
theorem ma (b : Bool) (U : LI) : ∀k,(frTo b U k).length<=k
 | 0=>GQ _
 | k+1=>by have:=ma b U k;rw [frTo];split <;> simp <;> omega
theorem p9 (O : aM) (L : Ll) (Q : LI) : ∀k,k<=Q.length->∀x ∈ (grTo O L Q k).2,x ∈ Q
 | 0,_,x,hx=>by simp [grTo] at hx
 | k+1,hk,x,hx=>by
  rw [grTo] at hx;split at hx
  ·rcases List.mem_append.1 hx with hx | hx
   ·exact p9 O L Q k (by omega) x hx
   ·rw [IB] at hx;rw [hx];exact aH (by omega)
  ·exact p9 O L Q k (by omega) x hx
def vu (O : aM) (L : Ll) (Q : LI) (most : Nat) : LI:=(uF O L Q).take most
def gP (m : Nat) (s z : LI) : LI:=cJ z ++ frTo false (s ++ z) m
structure jK where
 M : Nat
 W : Nat
 cos : Bool
 y : LI
def sQ (m : Nat) (s t : LI) : Bool:=jR m t && t.all λx=>decide (¬ x ∈ s)
structure LS where
 rows : Ll
 sum : LI
 top : Nat
def jj (O : aM) (v : LI) (i : Nat) (r : LI) : LI :=
 if nth v i=0 then v else List.zipWith (λa y=>if y=0 then a else O.add a (O.neg (O.mul (nth v i) y))) v r
def dS (O : aM) (t i : Nat) (L : Ll) : Nat->Ll
 | 0=>L
 | l+1=>if t<l then (dS O t i L l).set l (jj O (ai (dS O t i L l) l) i (ai (dS O t i L l) t)) else dS O t i L l
def lz (O : aM) (L : Ll) (t k i : Nat) : Ll :=
 dS O t i ((aX L t k).set t ((ai (aX L t k) t).map (O.mul (O.inv (nth (ai (aX L t k) t) i))))) L.length
def mC (O : aM) (st : LS) (i : Nat) : LS :=
 if aT st.rows i st.top=st.rows.length then st
 else ⟨lz O st.rows st.top (aT st.rows i st.top) i,jj O st.sum i (ai (lz O st.rows st.top (aT st.rows i st.top) i) st.top),st.top+1⟩
def il (O : aM) (L : Ll) (y t : LI) : Nat->LS
 | 0=>⟨L,y,0⟩
 | k+1=>mC O (il O L y t k) (nth t k).toNat
def ja (s v : LI) : Nat->Nat
 | 0=>0
 | k+1=>if nth v k ≠ 0/\¬ (k : Int) ∈ s then ja s v k+1 else ja s v k
def jH (O : aM) (L : Ll) (y s t : LI) : Nat:=ja s (il O L y t t.length).sum (il O L y t t.length).sum.length
def dO (O : aM) (L : Ll) (m : Nat) (C : jK) (s t : LI) : Bool :=
 sQ m s t && (decide ((uF O L t).length=t.length) &&
  if C.cos=true then decide ((uF O L (frTo false s m)).length=t.length) && decide (C.W<s.length+jH O L C.y s t) else decide (t.length=C.M))
def vn (C : jK) (s z t : LI) : LI:=if s.length<C.W then t.filter λx=>decide (¬ x ∈ z) else []
def kfol (F : LI->LI->Ll->Option Ll) (s : LI) : LI->LI->Ll->Option Ll
 | _,[],ts=>some ts
 | z,k :: ks,ts=>match F (s ++ [k]) z ts with
  | none=>none
  | some ts'=>kfol F s (z ++ [k]) ks ts'
def folS (O : aM) (L : Ll) (m : Nat) (C : jK) : Nat->LI->LI->Ll->Option Ll
 | 0,s,_,ts=>match ts with
  | []=>none
  | t :: ts=>if dO O L m C s t=true then some ts else none
 | d+1,s,z,ts=>match ts with
  | []=>none
  | t :: ts=>if dO O L m C s t=true then kfol (folS O L m C d) s z (vn C s z t) ts else none
def provS (O : aM) (L : Ll) (m : Nat) (C : jK) (T : Ll) : Int :=
 match folS O L m C C.W [] [] T with
 | some []=>0
 | _=>13
def ey (O : aM) (L : Ll) (m : Nat) (C : jK) (s z : LI) : LI:=cJ (vu O L (gP m s z) (if C.cos=true then m else C.M))
def fU (F : LI->LI->Ll->Int × Ll) (s : LI) : LI->LI->Ll->Int × Ll
 | _,[],T=>(0,T)
 | z,k :: ks,T=>if (F (s ++ [k]) z T).1=0 then fU F s (z ++ [k]) ks (F (s ++ [k]) z T).2 else ((F (s ++ [k]) z T).1,[])
def iZ (O : aM) (L : Ll) (m : Nat) (C : jK) : Nat->LI->LI->Ll->Int × Ll
 | 0,s,z,T=>if dO O L m C s (ey O L m C s z)=true then if T.length=65536 then (8,[]) else (0,T ++ [ey O L m C s z]) else (11,[])
 | d+1,s,z,T=>if dO O L m C s (ey O L m C s z)=true then if T.length=65536 then (8,[]) else fU (iZ O L m C d) s z (vn C s z (ey O L m C s z)) (T ++ [ey O L m C s z]) else (11,[])
def sJ (O : aM) (L : Ll) (m : Nat) (C : jK) : Int × Ll:=iZ O L m C C.W [] [] []
theorem wv (O : aM) (L : Ll) (Q : LI) {k : Nat} : ∀j,k<=j->(grTo O L Q k).2 <+: (grTo O L Q j).2
 | 0,h=>by
   obtain rfl : k=0:=by omega
   exact I8
 | j+1,h=>by
  by_cases e : k=j+1
  ·subst e;exact I8
  ·refine (wv O L Q j (by omega)).trans ?_;rw [grTo];split
   ·exact Ks _ _
   ·exact I8
theorem Db {O : aM} {L : Ll} {Q : LI} {k most : Nat} (hk : k<=Q.length) (h : (grTo O L Q k).2.length=most) : vu O L Q most=(grTo O L Q k).2:=by obtain ⟨l,hl⟩:=wv O L Q Q.length hk;rw [vu,uF,<- hl,<- h,List.take_left]
theorem Ef {O : aM} {L : Ll} {Q : LI} {most : Nat} (h : (grTo O L Q Q.length).2.length<=most) : vu O L Q most=(grTo O L Q Q.length).2:=by rw [vu,uF,H6 h]
theorem zq (O : aM) (L : Ll) (Q : LI) : ∀k,(grTo O L Q k).2.length<=k
 | 0=>GQ _
 | k+1=>by
  have ih:=zq O L Q k;rw [grTo];split
  ·simp;omega
  ·dsimp only;omega
theorem B1 (O : aM) (L : Ll) (Q : LI) : (uF O L Q).length<=Q.length:=zq O L Q _
theorem wW {O : aM} {L : Ll} {Q : LI} {most : Nat} (h : Q.length<=most) : vu O L Q most=uF O L Q :=
 H6 (H7 (B1 O L Q) h)
theorem zJ {O : aM} {L : Ll} {Q : LI} {most : Nat} : ∀x ∈ vu O L Q most,x ∈ Q:=λx hx =>
 p9 O L Q Q.length (GQ _) x (I1 hx)
theorem B6 (m : Nat) (s z : LI) : (gP m s z).length<=z.length+m:=by unfold gP;have:=ma false (s ++ z) m;rw [H5,eX];omega
theorem vf {m : Nat} {s z : LI} {x : Int} (h : x ∈ gP m s z) : x ∈ z\/(0<=x/\x<m/\¬ x ∈ s/\¬ x ∈ z):=by
 unfold gP at h;rcases List.mem_append.1 h with h | h
 ·exact .inl ((dc z).mem_iff.1 h)
 ·obtain ⟨j,hj,rfl,hd⟩:=(ik m).1 h;have : ¬ (j : Int) ∈ s ++ z:=by simpa using hd
  rw [IS] at this;exact .inr ⟨by omega,by omega,λh=>this (.inl h),λh=>this (.inr h)⟩
theorem Cy {m : Nat} {s t : LI} (h : sQ m s t=true) : jR m t=true/\∀x ∈ t,¬ x ∈ s:=by unfold sQ at h;rw [Ib,IG] at h;exact ⟨h.1,λx hx=>by simpa using h.2 x hx⟩
theorem CS {O : aM} {L : Ll} {m : Nat} {C : jK} {s t : LI} (h : dO O L m C s t=true) : jR m t=true/\∀x ∈ t,¬ x ∈ s:=by unfold dO at h;rw [Ib] at h;exact Cy h.1
section
theorem eK (O : aM) (v : LI) (i : Nat) (r : LI) (h : r.length=v.length) : (jj O v i r).length=v.length:=by unfold jj;split <;> simp [h]
theorem wS (O : aM) (v : LI) (i : Nat) (r : LI) (j : Nat) (h : r.length=v.length) (hj : j<v.length) (h0 : nth v i ≠ 0) :
  nth (jj O v i r) j=if nth r j=0 then nth v j else O.add (nth v j) (O.neg (O.mul (nth v i) (nth r j))):=by unfold jj;rw [GU h0,aj (show j<_ by simp [h];omega),aj hj,aj (show j<r.length by omega)];simp
theorem sW {O : aM} {El : Int->Prop} (hO : oF O El) {v r : LI} {i : Nat} (hv : ∀x ∈ v,El x) (hr : ∀x ∈ r,El x) (hl : r.length=v.length) (hi : i<v.length) : ∀x ∈ jj O v i r,El x:=by
 intro x hx;by_cases h0 : nth v i=0
 ·unfold jj at hx;rw [GV h0] at hx;exact hv x hx
 ·obtain ⟨j,hj,rfl⟩:=List.mem_iff_getElem.1 hx;rw [eK O v i r hl] at hj;have h1:=wS O v i r j hl hj h0;rw [aj (show j<(jj O v i r).length by rw [eK O v i r hl];exact hj)] at h1;rw [h1];have e1 : El (nth v j):=hv _ (aH hj);have e2 : El (nth r j):=hr _ (aH (by omega));have e3 : El (nth v i):=hv _ (aH hi);split
  ·exact e1
  ·exact hO.add _ _ e1 (hO.neg _ (hO.mul _ _ e3 e2))
variable {w : World} {b : Nat} {G : bX}
theorem oa (w0 : World) (pb : Nat) (av : OA) (cv n : Nat) (v : LI) (i : Nat) (au : OA) (cu : Nat) (u : LI) (h : dz w0 b G) (hb : Mv w0 w)
  (p0 : w0.cell? ⟨pb,0,none⟩=some (.pointer (some ⟨b,0,none⟩)))
  (hv : w.ownsRow w0.heap.size 3 1 (.slice av n cv) n (v.map (Value.int .i64))) (hu : Ints w au n u) (hap : av=none\/au=none\/ablk au ≠ ablk av)
  (hve : ∀x ∈ v,G.El x) (hue : ∀x ∈ u,G.El x) (hin : i<n) :
  Calls prog 270 #[.pointer (some ⟨pb,0,none⟩),.slice av n cv,.int .i64 i,.slice au n cu] w
   λe w'=>e = .returned (.tuple #[])/\w'.ownsRow w0.heap.size 3 1 (.slice av n cv) n ((jj G.ops v i u).map (Value.int .i64))/\bU av w w':=by
 have hul:=hu.len;have hvl : v.length=n:=by simpa using iQ hv
 have hmax:=hu.max;unfold maxLen at hmax;have hpu:=hu.pl;obtain ⟨iv0,mv0⟩:=L0 hv;have hpv:=iv0.pl;have ci:=iv0.cell i hin;have hav : 0<n->av ≠ none:=λhn e=>by have:=hpv hn;rw [e] at this;cases this
 have hxe : G.El (nth v i):=hve _ (aH (by omega));have Hul:=Z5 hul;have Hvl:=Z5 hvl;have Hav:=Z5 hav;have Hve:=Z5 hve;have Hue:=Z5 hue;have HP:=Z5 (λ(V : World) (hV : Mv w0 V)=>ak hV p0);clear hav hve hue;by_cases hx : nth v i=0
 ·have Hn : Hid (jj G.ops v i u=v):=by show _=_;rw [jj,GV hx]
  have hx' : (nth v i != 0)=false:=by simpa using hx
  clear hx hul hvl;go_enter func270,ntmps270;go_wp2_with fail;go_end0;exact ⟨rfl,by rw [Hn.out];exact hv,Mb _ _⟩
 have hx' : (nth v i != 0)=true:=by simpa using hx
 have Hnl:=Z5 (eK G.ops v i u (by omega));have Hnth:=Z5 (λj hj=>wS G.ops v i u j (by omega) hj hx);clear hx hul hvl;generalize jj G.ops v i u=N at *;go_enter func270,ntmps270;go_wp2_with fail;generalize nth v i=x at *;go_loopw [19] (λiv wr=>∃k : Nat,k<=n/\iv = .int .i64 k/\wr.ownsRow w0.heap.size 3 1 (.slice av n cv) n ((fD N v k).map (Value.int .i64))/\bU av w wr) (λiv _=>n - (intOf iv).toNat);case atStart=>exact ⟨0,G0 _,rfl,by rw [eJ];exact hv,Mb _ _⟩
 case round =>
  obtain ⟨k,hk,rfl,hown,honly⟩:=hrel
  by_cases hlt : k<n
  ·have hiu:=honly.ints hu hap
   have cu1:=hiu.cell k hlt
   have hkN : N.length=v.length:=Hnl.out
   have hkv : k<v.length:=by rw [Hvl.out];exact hlt
   have hval:=Hnth.out k hkv
   have hmix:=dU N v k k hkN (by omega)
   rw [GU (by omega)] at hmix
   by_cases hz : nth u k=0
   ·rw [GV hz] at hval
    have hsame:=lJ N v k hkN hkv hval
    have Hsame:=Z5 hsame
    have hz' : (nth u k != 0)=false:=by simpa using hz
    clear hval hmix hsame hkN hkv hz
    go_wp2_with fail
    go_roundw
    case rel=>exact ⟨k+1,by omega,by go_num,by rw [Hsame.out];exact hown,honly⟩
    case measure=>simp [intOf] <;> omega
   ·rw [GU hz] at hval
    have hset:=eC N v k hkN hkv
    obtain ⟨hiv,hmv⟩:=L0 hown
    have cv1:=hiv.cell k hlt
    have fv1:=(hmv (by omega)).2 k hlt
    rw [hmix] at cv1
    have elv : G.El (nth v k):=Hve.out _ (aH hkv)
    have elu : G.El (nth u k):=Hue.out _ (aH (by rw [Hul.out];exact hlt))
    have hbr : Mv w0 wr:=IT hb (honly.below (λha=>(aS hv ha).1) hb.size)
    have p0r:=HP.out wr hbr
    have hGr : dz wr b G:=h.af hbr
    have elm : ∀x y,G.El (G.mul x y):=λx y=>Mk h x y
    have HG : Hid (dz wr.drew b G/\∀n,dz (wr.drewN n) b G):=⟨hGr.af (GS _ _).drew,λn=>hGr.drewN n⟩
    rw [hval] at hset
    have Hset:=Z5 hset
    have hz' : (nth u k != 0)=true:=by simpa using hz
    clear hval hmix hset hkN hkv hz
    go_wp2_with fail
    go_region_law ((first
     | (go_simp;go_at_call 57;((with_reducible refine (mG x (nth u k) HG.out.1 hxe elu).mono ?_);rintro e w4 ⟨m4,rfl,rfl⟩))
     | (go_simp;go_at_call 57;((with_reducible refine (mG x (nth u k) (HG.out.2 _) hxe elu).mono ?_);rintro e w4 ⟨m4,rfl,rfl⟩))
     | (go_simp;go_at_call 199;((with_reducible refine (Fq (nth v k) (G.mul x (nth u k)) (HG.out.2 _) elv (elm _ _)).mono ?_);rintro e w4 ⟨m5,rfl,rfl⟩))))
    all_goals (
     go_wp2_with fail
     go_roundw
     case rel =>
      have hdr : aY wr (wr.drewN (1+m4+m5)):=⟨_,rfl⟩
      refine ⟨k+1,by omega,by go_num,?_,honly.trans ((L9 hdr).trans (Md _ k _ (Hav.out (by omega))))⟩
      have h1:=bt (w:=wr.drewN (1+m4+m5)) hown k hlt (.int .i64 (G.sub (nth v k) (G.mul x (nth u k))))
      rw [<- Im,show G.sub (nth v k) (G.mul x (nth u k))=G.ops.add (nth v k) (G.ops.neg (G.ops.mul x (nth u k))) from rfl,Hset.out] at h1
      exact h1
     case measure=>simp [intOf] <;> omega)
  ·obtain rfl : k=n:=by omega
   rw [fG N v k (by rw [Hnl.out,Hvl.out]) Hvl.out] at hown
   go_wp2_with fail
   go_end0
   exact ⟨rfl,hown,honly⟩
end
section
theorem fO (O : aM) (t i : Nat) (L : Ll) : ∀l,(dS O t i L l).length=L.length
 | 0=>rfl
 | l+1=>by
  rw [dS];split
  ·rw [IK];exact fO O t i L l
  ·exact fO O t i L l
theorem lq (O : aM) (L : Ll) (t k i : Nat) : (lz O L t k i).length=L.length:=by unfold lz;rw [fO,IK,bJ]
theorem bG.GB {O : aM} {El : Int->Prop} {m : Nat} (hO : oF O El) {L : Ll} {t i : Nat} (hL : bG El m L) (ht : t<L.length) (hi : i<m) : ∀l,l<=L.length->bG El m (dS O t i L l)
 | 0,_=>hL
 | l+1,hl=>by
  have ih:=bG.GB hO hL ht hi l (by omega);rw [dS];split
  ·have h1:=ih.row (i:=l) (by rw [fO];omega);have h2:=ih.row (i:=t) (by rw [fO];omega);exact ih.set l ⟨by rw [eK _ _ _ _ (by rw [h1.1,h2.1])];exact h1.1,sW hO h1.2 h2.2 (by rw [h1.1,h2.1]) (by rw [h1.1];exact hi)⟩
  ·exact ih
theorem qk (s v : LI) : ∀k,ja s v k<=k
 | 0=>GQ _
 | k+1=>by have:=qk s v k;rw [ja];split <;> omega
variable {w : World} {b : Nat} {G : bX}
theorem yN (w0 : World) (pb : Nat) (a : OA) (n c : Nat) (R : LA) (L : Ll) (m i l t : Nat) (hO : aP w w0.heap.size a n c R L)
  (h : dz w0 b G) (hb : Mv w0 w) (p0 : w0.cell? ⟨pb,0,none⟩=some (.pointer (some ⟨b,0,none⟩))) (hl : l<n) (ht : t<n) (hlt : l ≠ t) (hi : i<m) (hR : bG G.El m L) (V : World) (hd : aY w V) :
  Calls prog 270 #[.pointer (some ⟨pb,0,none⟩),.slice (aJ R l).1 m (aJ R l).2,.int .i64 i,.slice (aJ R t).1 m (aJ R t).2] V
   λe w'=>e = .returned (.tuple #[])/\(w'.cell? ⟨ablk a,aL a+l,none⟩=some (.slice (aJ R l).1 m (aJ R l).2)/\w'.cell? ⟨ablk a,aL a+t,none⟩=some (.slice (aJ R t).1 m (aJ R t).2)) /\
    aP w' w0.heap.size a n c R (L.set l (jj G.ops (ai L l) i (ai L t)))/\aB w w' (bI a R) (bI a R):=by
 have rl:=hR.row (i:=l) (by rw [hO.ll];exact hl);have rt:=hR.row (i:=t) (by rw [hO.ll];exact ht);have cl:=hO.cell hl;have ct:=hO.cell ht;have ol:=hO.row l hl;have it:=hO.ints ht;rw [rl.1] at cl ol;rw [rt.1] at ct it;have hap : (aJ R l).1=none\/(aJ R t).1=none\/ablk (aJ R t).1 ≠ ablk (aJ R l).1:=hO.sep l t hl ht hlt;refine (oa w0 pb _ _ m (ai L l) i _ _ (ai L t) h (hd.yY hb) p0 (bj ol hd.below) (it.af hd.below) hap rl.2 rt.2 hi).mono ?_;rintro e w' ⟨rfl,hown,honly⟩;have hmv : aB w w' (bI a R) (bI a R):=(L4 hd.below _).trans (honly.dG (λhn=>aP.jg (by rw [hO.rl];exact hl) hn));have hne2 : ¬ ((aJ R l).1 ≠ none/\ablk a=ablk (aJ R l).1):=by
  rintro ⟨h1,h2⟩;rcases hO.qT l hl with h3 | h3
  ·exact h1 h3
  ·exact h3 h2.symm
 refine ⟨rfl,⟨aB.cell (Mm (L4 hd.below _) honly) cl hne2,aB.cell (Mm (L4 hd.below _) honly) ct hne2⟩,?_,hmv⟩;have hOr:=hO.af hd.below;have hll : (jj G.ops (ai L l) i (ai L t)).length=(ai L l).length:=eK _ _ _ _ (by rw [rl.1,rt.1]);refine hOr.Fb hl hll (by rw [rl.1];exact hown) λb hb hne=>honly.block b hb λ⟨h1,h2⟩=>?_;rcases hne with h3 | h3
 ·exact h1 h3
 ·exact h3 h2
theorem yP (w0 V : World) (a : OA) (n c : Nat) (R : LA) (L : Ll) (t m : Nat) (r : LI) (hO : aP w w0.heap.size a n c R L) (hb : Mv w0 w) (ht : t<n) (hr : r.length=m)
  (hV : Mv w V) {a4 : OA} {c4 : Nat} (hown : V.ownsRow w.heap.size 3 1 (.slice a4 m c4) m (r.map (Value.int .i64))) :
  ∃R',aP (V.setCell ⟨ablk a,aL a+t,none⟩ (.slice a4 m c4)) w0.heap.size a n c R' (L.set t r)/\aB w (V.setCell ⟨ablk a,aL a+t,none⟩ (.slice a4 m c4)) (bI a R) (bI a R'):=by
 subst hr;have hO4:=hO.af hV;have hnew : ∀b,b<w.heap.size->eA a4 b:=λb hb=>jO hown hb;have h1:=hO4.setRow ht (bd hown hb.size) (hnew _ (hO.lt _ (.inl ⟨hO.ne (by omega),rfl⟩)).2) (λj hj _=>by
  by_cases hn : (aJ R j).1=none
  ·exact .inl hn
  ·exact .inr (hnew _ (hO.lt _ (aP.jg (by rw [hO.rl];exact hj) hn)).2))
 have h2:=hO.iR hV ht (r:=a4) (rc:=c4) (.slice a4 r.length c4) (λha=>.inr (aS hown ha).1);exact ⟨_,h1,h2⟩
end
theorem sr (U : LI) (k : Nat) : frTo false U (k+1)=if decide ((k : Int) ∈ U)=false then frTo false U k ++ [(k : Int)] else frTo false U k:=rfl
theorem lh (pb m : Nat) (sa : OA) (ns cs : Nat) (s : LI) (az : OA) (nz cz : Nat) (z : LI) (w : World) (p4 : w.cell? ⟨pb,4,none⟩=some (.int .i64 m)) (hs : Ints w sa ns s) (hz : Ints w az nz z)
  (hnz : nz<=1000000) (hm : m<=1000) :
  Calls prog 232 #[.pointer (some ⟨pb,0,none⟩),.slice sa ns cs,.slice az nz cz] w (bS w (gP m s z)):=by
 have Hzl:=Z5 hz.len;have HP:=Z5 (λ(V : World) (hV : Mv w V)=>ak hV p4);go_enter func232,ntmps232;go_wp2_with fail;refine (xH az nz cz w).mono ?_;rintro e w1 ⟨rfl,rfl⟩;have hb1 : Mv w (w.alloc (.cells #[.slice az nz cz] 22)):=an _ _;have HSo:=Z5 (xO w.heap.size az nz cz z hnz (w.alloc (.cells #[.slice az nz cz] 22)) (by simp) (aE _ _ _ rfl 0) (hz.af hb1));have hsz1 : w.heap.size<=(w.alloc (.cells #[.slice az nz cz] 22)).heap.size:=hb1.size;generalize w.alloc (.cells #[.slice az nz cz] 22)=w1 at *;go_wp2_with fail;refine HSo.out.mono ?_;rintro e w2 ⟨a2,c2,rfl,hown2,hb2⟩;have hbw2:=LY hb1 hb2;have p4':=HP.out w2 hbw2;have hO2 : w2.ownsRow w.heap.size 3 1 (.slice a2 nz c2) nz ((cJ z).map (Value.int .i64)):=bd hown2 hsz1;clear hown2 p4;go_wp2_with fail;go_loopw [7,17] (λqv iv wr=>∃(k : Nat) (aq : OA) (cq : Nat) (out : LI),k<=m/\iv = .int .i64 k/\qv = .slice aq out.length cq/\Hid (out=cJ z ++ frTo false (s ++ z) k)/\Hid (out.length<=nz+k) /\
   wr.ownsRow w.heap.size 3 1 (.slice aq out.length cq) out.length (out.map (Value.int .i64))/\Mv w wr)
  (λ_ iv _=>m - (intOf iv).toNat)
 case atStart =>
  refine ⟨0,a2,c2,cJ z,G0 _,rfl,?_,?_,?_,?_,hbw2⟩
  ·rw [eX,Hzl.out]
  ·show _=_;simp [frTo]
  ·show _<=_;rw [eX,Hzl.out];omega
  ·rw [eX,Hzl.out];exact hO2
 case round =>
  obtain ⟨k,aq,cq,out,hk,rfl,rfl,hst,hln,hop,hbr⟩:=hrel
  generalize wr=U at *
  by_cases hlt : k<m
  ·have hsU:=hs.af hbr
   have hzU:=hz.af hbr
   have hlen:=hln.out
   have Hskip : Hid (((k : Int) ∈ s ++ z)->out=cJ z ++ frTo false (s ++ z) (k+1)):=λhmem=>by rw [sr,GU (by rw [Ig hmem];decide)];exact hst.out
   have Htake : Hid (¬ ((k : Int) ∈ s ++ z)->out ++ [(k : Int)]=cJ z ++ frTo false (s ++ z) (k+1)):=λhmem=>by rw [sr,GV (by rw [Ic hmem]),<- IZ,<- hst.out]
   by_cases h1 : (k : Int) ∈ s
   ·have hmd : decide ((k : Int) ∈ s)=true:=by simpa using h1
    have HcA:=Z5 (bY sa ns cs s k U hsU)
    rw [hmd] at HcA
    have Hst : Hid (out=cJ z ++ frTo false (s ++ z) (k+1)):=Hskip.out (List.mem_append.2 (.inl h1))
    clear h1 hmd
    go_wp2_with fail
    refine HcA.out.mono ?_
    rintro e w6 ⟨rfl,rfl⟩
    go_wp2_with fail
    go_roundw
    case rel=>exact ⟨k+1,aq,cq,out,by omega,by go_num,rfl,Hst.out,(show _<=_ by omega),hop,hbr⟩
    case measure=>simp [intOf] <;> omega
   ·have hmd : decide ((k : Int) ∈ s)=false:=by simpa using h1
    have HcA:=Z5 (bY sa ns cs s k U hsU)
    rw [hmd] at HcA
    by_cases h2 : (k : Int) ∈ z
    ·have hmd2 : decide ((k : Int) ∈ z)=true:=by simpa using h2
     have HcB:=Z5 (bY az nz cz z k U hzU)
     rw [hmd2] at HcB
     have Hst : Hid (out=cJ z ++ frTo false (s ++ z) (k+1)):=Hskip.out (List.mem_append.2 (.inr h2))
     clear h1 hmd h2 hmd2
     go_wp2_with fail
     refine HcA.out.mono ?_
     rintro e w6 ⟨rfl,rfl⟩
     go_wp2_with fail
     refine HcB.out.mono ?_
     rintro e w7 ⟨rfl,rfl⟩
     go_wp2_with fail
     go_roundw
     case rel=>exact ⟨k+1,aq,cq,out,by omega,by go_num,rfl,Hst.out,(show _<=_ by omega),hop,hbr⟩
     case measure=>simp [intOf] <;> omega
    ·have hmd2 : decide ((k : Int) ∈ z)=false:=by simpa using h2
     have HcB:=Z5 (bY az nz cz z k U hzU)
     rw [hmd2] at HcB
     have Hst : Hid (out ++ [(k : Int)]=cJ z ++ frTo false (s ++ z) (k+1)):=Htake.out λh=>by
      rcases List.mem_append.1 h with h | h
      ·exact h1 h
      ·exact h2 h
     have hcn:=bm U (.int .i64 k) 3
     have hbn:=an U (.cells #[.int .i64 k] 3)
     have hszU:=hbr.size
     clear h1 hmd h2 hmd2
     go_wp2_with fail
     refine HcA.out.mono ?_
     rintro e w6 ⟨rfl,rfl⟩
     go_wp2_with fail
     refine HcB.out.mono ?_
     rintro e w7 ⟨rfl,rfl⟩
     go_wp2_with (at_builtin;refine aU rfl _ _ 22 3 rfl (.int .i64 0) 8 underlying22 bg rfl w.heap.size aq out.length cq _ rfl (hop.alloc _) ⟨w7.heap.size,0,none⟩ 1 (.int .i64 k) rfl hcn rfl (by omega) (by unfold maxLen;omega) (by simp;omega) ?_;intro a5 c5 w5 hown5 hgr5 hap5)
     go_roundw
     case rel =>
      have hb5 : Mv w w5:=L3 (IT hbr (hbn.mono hszU)) (hop.alloc _) hgr5 (GQ _) (H7 hszU hbn.size)
      refine ⟨k+1,a5,c5,out ++ [(k : Int)],by omega,by go_num,by simp,Hst.out,(show _<=_ by rw [H5,Ij];omega),?_,hb5⟩
      simpa using hown5
     case measure=>simp [intOf] <;> omega
  ·obtain rfl : k=m:=by omega
   have Ho : Hid (gP k s z=out):=by show _=_;rw [gP,hst.out]
   go_wp2_with fail
   go_ret
   exact ⟨aq,cq,by rw [Ho.out];rfl,by rw [Ho.out];exact hop,hbr⟩
section
open Go.RowKit
end
section
open Go.RowKit
end
theorem nK (b : Bool) (U : LI) : ∀k,(frTo b U k).Pairwise (λx y=>x<y)
 | 0=>List.Pairwise.nil
 | k+1=>by
  have ih:=nK b U k;rw [frTo];split
  ·rw [Kg];refine ⟨ih,by simp,λx hx y hy=>?_⟩;rw [IB] at hy;obtain ⟨j,hj,rfl,_⟩:=(ik k).1 hx;omega
  ·exact ih
theorem AX {m : Nat} {U : LI} (hn : U.Nodup) (hU : ∀x ∈ U,0<=x/\x<(m : Int)) : cJ U=frTo true U m:=by
 have h:=nK true U m;refine (mR (h.imp λh=>by omega) ((Kt (h.imp λh=>by omega) hn).2 λx=>?_)).symm;rw [ik];constructor
 ·rintro ⟨j,_,rfl,h1⟩;simpa using h1
 ·intro hx;have h1:=hU x hx;exact ⟨x.toNat,by omega,by omega,by rw [show ((x.toNat : Nat) : Int)=x by omega];simpa using hx⟩
theorem qs {m : Nat} {U : LI} (hn : U.Nodup) (hU : ∀x ∈ U,0<=x/\x<(m : Int)) : U.length<=m:=by rw [<- eX,AX hn hU];exact ma _ _ _
theorem xd {N : Int} {A : LI} (h : jR N A=true) : A.Nodup:=by
 refine qV λi j hij hj=>?_;have key : ∀d i,i+d<A.length->0<d->nth A i<nth A (i+d):=λd=>by
  induction d with
  | zero=>intro i _ h0;omega
  | succ d ih =>
   intro i hi _
   have h1:=(jm h hi).2.2 (by omega)
   rw [show i+(d+1) - 1=i+d by omega] at h1
   by_cases h0 : d=0
   ·subst h0;exact h1
   ·have:=ih i (by omega) (by omega);omega
 have:=key (j - i) i (by omega) (by omega);rw [show i+(j - i)=j by omega] at this;omega
section
variable {O : aM} {El : Int->Prop} {m : Nat} {L : Ll}
end
section
theorem iV : ∀ {s T : LI},s.Nodup->(∀x ∈ s,x ∈ T)->s.length<=T.length
 | [],_,_,_=>G0 _
 | x :: s,T,hn,h=>by have hx : x ∈ T:=h x (by simp);have hn':=List.nodup_cons.1 hn;have h1 : ∀y ∈ s,y ∈ T.erase x:=λy hy=>(List.mem_erase_of_ne (λ(e : y=x)=>hn'.1 (by rw [<- e];exact hy))).2 (h y (by simp [hy]));have h2:=iV hn'.2 h1;rw [List.length_erase_of_mem hx] at h2;have : 0<T.length:=List.length_pos_of_mem hx;simp only [Io];omega
variable {O : aM} {L : Ll} {m : Nat} {C : jK}
end
section
variable {f : Nat->Int} {N : Nat} (hf : ∀y,f y<=N)
include hf
end

section
variable {O : aM} {El : Int->Prop} {m : Nat}
end
section
variable {P M : Int} {mod : LI} {m : Nat} {L : Ll} {Q : LI}
end
section
variable {m : Nat} {Q : LI}
end
section
open Go.RowKit
end

section
open Go.RowKit
end
end Go.Proofs.YthglbncgemdcbaaGreat
