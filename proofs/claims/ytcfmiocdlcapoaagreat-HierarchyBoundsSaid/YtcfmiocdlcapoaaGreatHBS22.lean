import Derived.Test.YtcfmiocdlcapoaaGreatHBS19
import Derived.RangeFuncSeq
import Derived.Shelf.RegionOpen
import Derived.Test.YtcfmiocdlcapoaaGreatHBS21
namespace Go.Proofs.YtcfmiocdlcapoaaGreat
set_option linter.all false
set_option maxRecDepth 100000
set_option maxHeartbeats 8000000
open Go.RowKit Tryz
section
variable {O : aJ} {El : Int->Prop} {m : Nat}
theorem l8.JZ (F : bR O El) {L : ZZ} {P : Lz} {c : Nat} (h : l8 L P c) (hL : bx El m L) {v : Lz} (hv : Vc El L.length v) {φ : Lz->Int} (hφ : ja O El L.length φ)
  {t : Nat} (ht : t<=P.length) (h0 : ∀j,j<t->φ (aK L (nth P j).toNat)=0) : ∀k,k<=t->Vc El L.length (i9 O L P v k)/\φ (i9 O L P v k)=φ v/\∀i,i<L.length->nth (i9 O L P v k) i=if i<k then 0 else nth v i
 | 0,_=>⟨hv,rfl,λi _=>by rw [Mh (by omega)];rfl⟩
 | k+1,hk=>by
  obtain ⟨h1,h2,h3⟩:=h.JZ F hL hv hφ ht h0 k (by omega);have hle:=h.le;have hcol:=ch hL F.zero (nth P k).toNat;have hx:=h1.at (i:=k) (by omega);refine ⟨h1.sub F hcol hx,?_,λi hi=>?_⟩
  ·rw [i9,hφ.sub _ _ _ h1 hcol hx,h0 k (by omega),F.dt hx,F.fD,F.add_zero _ (hφ.el _ h1),h2]
  ·rw [i9,eX O _ _ _ i (by rw [hcol.1,h1.1]) (by rw [h1.1];exact hi),bM L _ i hi,h.one k i (by omega) hi];by_cases e : i=k
   ·subst e;rw [Mg rfl,F.iE hx,F.add_neg _ hx,Mg (by omega)]
   ·rw [Mh e,F.dt hx,F.fD,F.add_zero _ (h1.at hi),h3 i hi];by_cases e2 : i<k
    ·rw [Mg e2,Mg (by omega)]
    ·rw [Mh e2,Mh (by omega)]
theorem Dt {P : Lz} (ha : ∀i j,i<j->j<P.length->nth P i<nth P j) {x : Int} (hx : ¬ x ∈ P) : ∀k,k<=P.length->∃t,t<=k/\(∀j,j<t->nth P j<x)/\∀j,t<=j->j<k->x<nth P j
 | 0,_=>⟨0,Mf _,λj hj=>by omega,λj _ hj=>by omega⟩
 | k+1,hk=>by
  obtain ⟨t,h1,h2,h3⟩:=Dt ha hx k (by omega);have hne : nth P k ≠ x:=λe=>hx (e ▸ aN (by omega));by_cases ht : t=k
  ·subst ht;by_cases hlt : nth P t<x
   ·exact ⟨t+1,by omega,λj hj=>by
     by_cases e : j=t
     ·subst e;exact hlt
     ·exact h2 j (by omega),λj h4 h5=>by omega⟩
   ·exact ⟨t,by omega,h2,λj h4 h5=>by
     obtain rfl : j=t:=by omega
     omega⟩
  ·refine ⟨t,by omega,h2,λj h4 h5=>?_⟩;by_cases e : j=k
   ·subst e;have:=ha t j (by omega) (by omega);have:=h3 t (Mf _) (by omega);omega
   ·exact h3 j h4 (by omega)
theorem Jn (F : bR O El) {R : ZZ} {P : Lz} (hR : bx El m R) (hP : l8 R P m) (hl : pY R P) {f : Nat->Int} (hf : RS O El m R f) {x : Nat} (hx : x<m) (h0 : ∀y,y<x->f y=0) (hne : f x ≠ 0) : (x : Int) ∈ P:=by
 refine Mv λhn=>hne ?_;obtain ⟨t,h1,h2,h3⟩:=Dt hl.asc hn P.length (Mf _);obtain ⟨e,he,h⟩:=hf;have hlt:=hP.lt;obtain ⟨q1,q2,q3⟩:=hP.JZ F hR (ch hR F.zero x) he h1 (λj hj=>by have:=h2 j hj;have:=hlt j (by omega);rw [<- h _ (by omega)];exact h0 _ (by omega)) t (Mf _);rw [h x hx,<- q2];refine he.zero F q1 λi hi=>?_;rw [q3 i hi];split
 ·rfl
 ·rw [bM R x i hi];by_cases hi2 : i<P.length
  ·have:=h3 i (by omega) hi2;exact hl.lead i x hi2 (by omega)
  ·exact hP.zero i x (by omega) hi hx
theorem Fi (F : bR O El) {R : ZZ} {P : Lz} (hR : bx El m R) (hP : l8 R P m) {f : Nat->Int} (hf : RS O El m R f) (h0 : ∀j,j<P.length->f (nth P j).toNat=0) : ∀x,x<m->f x=0:=λx hx=>by obtain ⟨e,he,h⟩:=hf;rw [h x hx];refine hP.all F hR hx e he λy hy=>?_;obtain ⟨j,hj,rfl⟩:=(gR P _ _).1 hy;rw [<- h _ (by have:=hP.lt j hj;omega)];exact h0 j hj
theorem za {P : Lz} (ha : ∀i j,i<j->j<P.length->nth P i<nth P j) : P.Pairwise λx y=>x<y:=by rw [Nz];intro i j hi hj hij;have:=ha i j hij hj;rwa [aj hi,aj hj] at this
theorem Il {P P' : Lz} (ha : ∀i j,i<j->j<P.length->nth P i<nth P j) (ha' : ∀i j,i<j->j<P'.length->nth P' i<nth P' j) (h : ∀x,x ∈ P ↔ x ∈ P') : P=P':=by have h1:=za ha;have h2:=za ha';exact lM (h1.imp λh=>by omega) (h2.imp λh=>by omega) ((Oo (h1.imp λh=>by omega) (h2.imp λh=>by omega)).2 h)
theorem yR (F : bR O El) {R R' : ZZ} {P P' : Lz} (hR : bx El m R) (hR' : bx El m R') (hP : l8 R P m) (hP' : l8 R' P' m) (hl : pY R P) (hl' : pY R' P') (hlen : R.length=P.length) (hlen' : R'.length=P'.length)
  (h1 : gF O El m R R') (h2 : gF O El m R' R) : R=R':=by
 have key : ∀ {R R' : ZZ} {P P' : Lz},bx El m R->l8 R P m->pY R P->l8 R' P' m->pY R' P'->R'.length=P'.length->gF O El m R' R->∀x ∈ P',x ∈ P:=λ{R R' P P'} hR hP hl hP' hl' hlen' h2 x hx=>by obtain ⟨i,hi,rfl⟩:=List.mem_iff_getElem.1 hx;have hb:=hP'.lt i hi;have h3:=Jn F hR hP hl (h2 i (by omega)) (x:=(nth P' i).toNat) (by omega) (λy hy=>hl'.lead i y hi hy) (by show nth (ai R' i) (nth P' i).toNat ≠ 0;rw [hP'.one i i hi (by omega),Mg rfl];decide);rw [show (((nth P' i).toNat : Nat) : Int)=nth P' i by omega,aj hi] at h3;exact h3
 have hPP : P=P':=Il hl.asc hl'.asc λx=>⟨key hR' hP' hl' hP hl hlen h1 x,key hR hP hl hP' hl' hlen' h2 x⟩
 subst hPP;refine NP (by omega) λi hi hi'=>?_;have hr:=hR _ (MM hi);have hr':=hR' _ (MM hi');refine fR (by rw [hr.1,hr'.1]) λx hx=>?_;rw [hr.1] at hx;have hz:=Fi F hR hP ((h2 i hi').comb F (Q5 F (m:=m) hi) F.one) (λj hj=>by
  show O.add (nth (ai R' i) (nth P j).toNat) (O.neg (O.mul (nth (ai R i) (nth P j).toNat) 1))=0;rw [hP'.one j i hj hi',hP.one j i hj hi];split
  ·rw [F.iE F.one,F.add_neg _ F.one]
  ·rw [F.iE F.zero,F.add_neg _ F.zero]) x hx
 have hz' : O.add (nth (ai R' i) x) (O.neg (O.mul (nth (ai R i) x) 1))=0:=hz;have e1 : El (nth R[i] x):=hr.2 _ (aN (by rw [hr.1];exact hx));have e2 : El (nth R'[i] x):=hr'.2 _ (aN (by rw [hr'.1];exact hx));rw [aF hi,aF hi',F.iE e1] at hz';have h4:=F.nO e2 (F.cl.neg _ e1) hz';have h5:=congrArg O.neg h4;rwa [F.neg_neg e1,F.neg_neg e2] at h5
theorem iM (F : bR O El) (n k : Nat) : Vc El n (fi n k):=by
 refine ⟨kE n k,λx hx=>?_⟩;unfold fi at hx;rcases Ny hx with hx | rfl
 ·rw [NC hx];exact F.zero
 ·exact F.one
theorem mG {n k i : Nat} (hk : k<n) : nth (fi n k) i=if i=k then 1 else 0:=by
 unfold fi;rw [dD _ _ _ _ (by simpa using hk)];split
 ·rfl
 ·unfold nth;simp only [Mk,MN];split <;> rfl
def vj (O : aJ) (n : Nat) (v : Lz) : Nat->Lz
 | 0=>v
 | k+1=>dZ O (vj O n v k) (nth v k) (fi n k)
theorem y6 (F : bR O El) {n : Nat} {φ : Lz->Int} (hφ : ja O El n φ) {v : Lz} (hv : Vc El n v) : ∀k,k<=n->Vc El n (vj O n v k)/\(∀i,i<n->nth (vj O n v k) i=if i<k then 0 else nth v i) /\
  O.add (φ (vj O n v k)) (df O (λt=>φ (fi n t)) (λt=>nth v t) k)=φ v
 | 0,_=>⟨hv,λi _=>by rw [Mh (by omega)];rfl,by rw [df];exact F.add_zero _ (hφ.el _ hv)⟩
 | k+1,hk=>by
  obtain ⟨h1,h2,h3⟩:=y6 F hφ hv k (by omega);have hu:=iM F n k;have hx:=hv.at (i:=k) (by omega);refine ⟨h1.sub F hu hx,λi hi=>?_,?_⟩
  ·rw [vj,eX O _ _ _ i (by rw [hu.1,h1.1]) (by rw [h1.1];exact hi),mG (by omega),h2 i hi];by_cases e : i=k
   ·subst e;rw [Mg rfl,Mh (by omega),F.iE hx,F.add_neg _ hx,Mg (by omega)]
   ·rw [Mh e,F.dt hx,F.fD];by_cases e2 : i<k
    ·rw [Mg e2,Mg (by omega),F.add_zero _ F.zero]
    ·rw [Mh e2,Mh (by omega),F.add_zero _ (hv.at hi)]
  ·have hm:=F.cl.mul _ _ hx (hφ.el _ hu);have hd:=ml F (a:=λt=>φ (fi n t)) (b:=λt=>nth v t) k (λp _=>hφ.el _ (iM F n p)) (λp hp=>hv.at (by omega));rw [vj,hφ.sub _ _ _ h1 hu hx,df,F.mul_comm _ _ (hφ.el _ hu) hx,F.Gq (hφ.el _ h1) (F.cl.neg _ hm) hd hm,F.tw hm,F.add_zero _ (F.cl.add _ _ (hφ.el _ h1) hd),h3]
theorem jt (F : bR O El) {n : Nat} {φ : Lz->Int} (hφ : ja O El n φ) {v : Lz} (hv : Vc El n v) : φ v=df O (λt=>φ (fi n t)) (λt=>nth v t) n:=by obtain ⟨h1,h2,h3⟩:=y6 F hφ hv n (Mf _);rw [<- h3,hφ.zero F h1 λi hi=>by rw [h2 i hi,Mg hi],F.zI (ml F n (λp _=>hφ.el _ (iM F n p)) (λp hp=>hv.at hp))]
theorem fV (F : bR O El) {L : ZZ} (hL : bx El m L) {x : Lz} (hx : ∀k,k<L.length->El (nth x k)) {y : Nat} (hy : y<m) : ∀k,k<=L.length->nth (bK O m x L k) y=df O (λt=>nth x t) (λt=>nth (ai L t) y) k
 | 0,_=>by rw [bK,df];unfold nth;simp only [Mk,MN];split <;> rfl
 | k+1,hk=>by
  have ih:=fV F hL hx hy k (by omega);obtain ⟨h1,_⟩:=gH F hL hx k (by omega);have hr:=hL.row (i:=k) (by omega);have hd:=ml F (a:=λt=>nth x t) (b:=λt=>nth (ai L t) y) k (λp hp=>hx p (by omega)) (λp hp=>QV (hL.row (i:=p) (by omega)) hy);rw [bK,df];split
  ·rename_i e0;rw [ih,e0,F.kj (QV hr hy),F.add_zero _ hd]
  ·rw [jH O _ _ _ y (by rw [hr.1,h1.1]) (by rw [h1.1];exact hy),ih];split
   ·rename_i e1;show _=O.add _ (O.mul (nth x k) (nth (ai L k) y));rw [e1,F.dt (hx k (by omega)),F.add_zero _ hd]
   ·rfl
theorem Ks {P : Lz} {k : Nat} (hl : P.length=k) (hb : ∀j,j<k->0<=nth P j/\nth P j<k) (ha : ∀i j,i<j->j<P.length->nth P i<nth P j) : ∀j,j<k->nth P j=j:=by
 have h1 : ∀j,j<k->(j : Int)<=nth P j:=λj=>by
  induction j with
  | zero=>intro h;exact (hb 0 h).1
  | succ j ih=>intro h;have:=ih (by omega);have:=ha j (j+1) (by omega) (by omega);omega
 have h2 : ∀d j,j+d+1=k->nth P j<=j:=λd=>by
  induction d with
  | zero=>intro j h;have:=hb j (by omega);omega
  | succ d ih=>intro j h;have:=ih (j+1) (by omega);have:=ha j (j+1) (by omega) (by omega);omega
 intro j hj;have:=h1 j hj;have:=h2 (k - j - 1) j (by omega);omega
theorem yE (F : bR O El) {L : ZZ} (hL : bx El m L) {Q : Lz} (hQ : qW m Q) (hl : Q.length=L.length) (hg : (jP O L Q).length=Q.length) (i : Nat) (hi : i<L.length) :
  ∃e,ja O El L.length e/\(∀y,y<m->nth (ai (ew O m L Q) i) y=e (aK L y))/\∀j,j<Q.length->e (aK L (nth Q j).toNat)=if i=j then 1 else 0:=by
 have hD:=lQ hL hQ;have hpv:=FO F hL hQ hl hg;have hJr:=mK hD (tX F.zero F.one Q.length);have hDl : (L.map (aO Q)).length=Q.length:=by rw [Mx,hl]
 have hJl : (iR (L.map (aO Q)) (fN Q.length)).length=Q.length:=by simp [iR,cW,hl]
 have hJt:=lp (D:=L.map (aO Q)) (U:=fN Q.length) (k:=Q.length) (by rw [cW,hDl]) (λr hr=>(hD r hr).1);have hJd:=nP (D:=L.map (aO Q)) (U:=fN Q.length) (k:=Q.length) (by rw [cW,hDl]) (λr hr=>(hD r hr).1);obtain ⟨J,hJ⟩ : ∃J,iR (L.map (aO Q)) (fN Q.length)=J:=⟨_,rfl⟩
 have hsys : ew O m L Q=pC O m ((aC O J Q.length).1.map (List.drop Q.length)) L:=by rw [ew,oW,hJ]
 rw [hJ] at hpv hJr hJl hJt hJd;obtain ⟨h1,h2,_⟩:=jF F hJr Q.length (by omega);have h3:=o0 F hJr Q.length (by omega);have hel : (aC O J Q.length).1.length=Q.length:=by rw [cN,hJl]
 have hEr:=kA F hJr Q.length (by omega);have hid:=Ks hpv (λj hj=>h1.lt j (by omega)) h3.asc;obtain ⟨e,he,hx⟩:=h2 i (by omega);rw [hJl,hl] at he;have hcolD : ∀x,x<Q.length->aK J x=aK L (nth Q x).toNat:=λx hx=>by
  have e1 : aK J x=aK (J.map (List.take Q.length)) x:=by unfold aK;rw [N3];exact M7 λr _=>(oQ hx).symm
  rw [e1,hJt];unfold aK;rw [N3];exact M7 λr _=>ed Q r hx
 have hcolU : ∀x,x<Q.length->aK J (Q.length+x)=fi L.length x:=λx hx=>by
  have e1 : aK J (Q.length+x)=aK (J.map (List.drop Q.length)) x:=by unfold aK;rw [N3];refine M7 λr _=>?_;unfold nth;simp only [Mk,Function.comp,OF]
  rw [e1,hJd];refine fR (by rw [cC,cW,kE,hl]) λt ht=>?_;rw [cC,cW] at ht;rw [bM _ _ _ (by rw [cW];exact ht),pU ht,mG ht,<- hl,mG hx];by_cases e : x=t
  ·subst e;simp
  ·rw [Mh e,Mh λe2=>e e2.symm]
 have hT : ∀t,t<Q.length->nth (ai ((aC O J Q.length).1.map (List.drop Q.length)) i) t=e (fi L.length t):=λt ht=>by rw [iq _ List.drop_nil,<- hcolU t ht,<- hx _ (by omega)];unfold nth;simp only [Mk,OF]
 have hTl : ((aC O J Q.length).1.map (List.drop Q.length)).length=L.length:=by rw [Mx,hel,hl]
 refine ⟨e,he,λy hy=>?_,λj hj=>?_⟩
 ·rw [hsys,pC,bH _ _ (by rw [hTl];exact hi)];rw [fV F hL (λt ht=>by rw [hT t (by omega)];exact he.el _ (iM F _ t)) hy _ (Mf _),jt F he (ch hL F.zero y)];exact cT _ λt ht=>⟨hT t (by omega),(bM L y t ht).symm⟩
 ·rw [<- hcolD j hj,<- hx _ (by omega)];have:=h1.one j i (by omega) (by omega);rw [hid j hj,Mm] at this;exact this
end
section
variable {P M : Int} {mod : Lz} {m : Nat} {L : ZZ}
theorem oM (hE : aH P M mod m L=0) {Q : Lz} (hQ : qW m Q) (hl : Q.length=L.length) (hg : (jP (aa P M.toNat mod).ops L Q).length=Q.length) :
  bx (aa P M.toNat mod).El m (ew (aa P M.toNat mod).ops m L Q)/\(ew (aa P M.toNat mod).ops m L Q).length=L.length/\(ew (aa P M.toNat mod).ops m L Q).map (aO Q)=fN Q.length /\
  eW (aa P M.toNat mod) (ew (aa P M.toNat mod).ops m L Q) m=L:=by
 obtain ⟨N',e,hm1,hm64,F,hR⟩:=aS hE;obtain rfl : m=N':=by omega
 have hfull:=gg hE;have h6:=(dK (bL hE).2.2.2).2;rw [Mm] at h6;have hcan : dX (aa P M.toNat mod).ops m L=L:=h6;obtain ⟨hPv,hLd⟩:=db F hR;have hcl:=bY F hR;rw [hcan] at hPv hLd hcl;have hform:=λi hi=>yE F hR hQ hl hg i hi;have hD:=lQ hR hQ;have hIr:=zM F hD;have hIl : (oW (aa P M.toNat mod).ops (L.map (aO Q)) Q.length).length=L.length:=by rw [FL _ (by rw [Mx,hl]),hl]
 have hSl : (ew (aa P M.toNat mod).ops m L Q).length=L.length:=by unfold ew pC;rw [Mx,hIl]
 have hSr : bx (aa P M.toNat mod).El m (ew (aa P M.toNat mod).ops m L Q):=λr hr=>by unfold ew pC at hr;obtain ⟨s,hs,rfl⟩:=List.mem_map.1 hr;have hs2:=hIr s hs;exact (gH F hR (λk hk=>hs2.2 _ (aN (by rw [hs2.1];omega))) _ (Mf _)).1
 show _/\_/\_/\dX (aa P M.toNat mod).ops m (ew (aa P M.toNat mod).ops m L Q)=L;generalize ew (aa P M.toNat mod).ops m L Q=S at *;generalize (aa P M.toNat mod).ops=O at *;generalize (aa P M.toNat mod).El=El at *;refine ⟨hSr,hSl,?_,?_⟩
 ·refine NP (by rw [Mx,cW,hSl,hl]) λi h1 h2=>?_;rw [Mx,hSl] at h1;rw [<- aF,<- aF,bH _ _ (by rw [hSl];exact h1),pU (by omega)];obtain ⟨e,he,hy,hj⟩:=hform i h1;refine fR (by rw [kE];simp [aO]) λj hj2=>?_;have hj3 : j<Q.length:=by simpa [aO] using hj2
  have hqj:=hQ j hj3;rw [ed Q _ hj3,mG (by omega),hy _ (by omega),hj j hj3];by_cases e2 : i=j
  ·subst e2;simp
  ·rw [Mh e2,Mh λe3=>e2 e3.symm]
 ·obtain ⟨k1,k2⟩:=db F hSr;have k3:=bY F hSr;obtain ⟨s1,s2⟩:=gd F hSr;have hSL : gF O El m S L:=λi hi=>by obtain ⟨e,he,hy,_⟩:=hform i (by omega);exact ⟨e,he,hy⟩
  have hclA : ∀x,x<m->ie O El L.length (aK L) (gA Q) x:=λx hx=>by
   refine Mv λhn=>?_;have h1:=ru F hR (Q:=Q) (x:=(x : Int)) (by simpa using hn);have h2:=Rm (da F hR) (dP F hR (Q ++ [(x : Int)])) hfull λy hy=>by
    refine (da F hR).mem _ _ ?_;rw [M8];obtain ⟨z,hz,rfl⟩:=dp.1 hy;rcases List.mem_append.1 hz with hz | hz
    ·obtain ⟨j,hj,rfl⟩:=List.mem_iff_getElem.1 hz;have:=hQ j hj;rw [aj hj] at this;omega
    ·rw [MK] at hz;subst hz;simpa using hx
   have h3 : jI O L Q=Q.length:=hg;omega
  have hLS : gF O El m L S:=λi hi=>by
   have hcx : ∀k,k<S.length->El (nth (aO Q (ai L i)) k):=λk hk=>by
    have hk2 : k<Q.length:=by omega
    have:=hQ k hk2;rw [ed Q _ hk2];exact QV (hR.row (i:=i) hi) (by omega)
   obtain ⟨c1,c2⟩:=gH F hSr hcx S.length (Mf _);have hd:=(Q5 F (m:=m) (O:=O) (El:=El) hi).comb F (hSL.rs c2) F.one;obtain ⟨e,he,hx⟩:=hd;have hz : ∀x,x<m->O.add (nth (ai L i) x) (O.neg (O.mul (nth (bK O m (aO Q (ai L i)) S S.length) x) 1))=0:=λx hxm=>by
    have h1 : O.add (nth (ai L i) x) (O.neg (O.mul (nth (bK O m (aO Q (ai L i)) S S.length) x) 1))=e (aK L x):=hx x hxm;rw [h1];refine hclA x hxm e he λy hy=>?_;obtain ⟨q,hq,rfl⟩:=dp.1 hy;obtain ⟨j,hj,rfl⟩:=List.mem_iff_getElem.1 hq;have hqj:=hQ j hj;rw [aj hj] at hqj;have h2 : O.add (nth (ai L i) (Q[j]).toNat) (O.neg (O.mul (nth (bK O m (aO Q (ai L i)) S S.length) (Q[j]).toNat) 1))=e (aK L (Q[j]).toNat):=hx _ (by omega);rw [<- h2];have hvi : El (nth (ai L i) (Q[j]).toNat):=QV (hR.row (i:=i) hi) (by omega);have h3 : nth (bK O m (aO Q (ai L i)) S S.length) (Q[j]).toNat=nth (ai L i) (Q[j]).toNat:=by
     rw [fV F hSr hcx (by omega) _ (Mf _)];have hone : ∀t,t<S.length->nth (ai S t) (Q[j]).toNat=if t=j then 1 else 0:=λt ht=>by obtain ⟨e',_,hy',hj'⟩:=hform t (by omega);have h4:=hj' j hj;rw [aj hj] at h4;rw [hy' _ (by omega),h4]
     have hpj : nth (aO Q (ai L i)) j=nth (ai L i) (Q[j]).toNat:=by rw [ed Q _ hj,aj hj]
     rw [jB F (x:=j) (by
      show El (O.mul (nth (aO Q (ai L i)) j) (nth (ai S j) (Q[j]).toNat));rw [hone j (by omega),Mg rfl,hpj,F.iE hvi];exact hvi) S.length (λp hp hpj=>by
      show O.mul (nth (aO Q (ai L i)) p) (nth (ai S p) (Q[j]).toNat)=0;rw [hone p hp,Mh hpj,F.dt (hcx p hp)]),Mg (by omega)]
     show O.mul (nth (aO Q (ai L i)) j) (nth (ai S j) (Q[j]).toNat)=_;rw [hone j (by omega),Mg rfl,hpj,F.iE hvi]
    rw [h3,F.iE hvi,F.add_neg _ hvi]
   refine c2.congr λx hxm=>?_;have h1:=hz x hxm;have hvi : El (nth (ai L i) x):=QV (hR.row (i:=i) hi) hxm;have hvc:=c1.at hxm;rw [F.iE hvc] at h1;have h4:=F.nO hvi (F.cl.neg _ hvc) h1;have h5:=congrArg O.neg h4;rw [F.neg_neg hvc,F.neg_neg hvi] at h5;exact h5.symm
  exact yR F (dH F hSr) hR k1 hPv k2 hLd k3 hcl (s1.trans hSL) (hLS.trans s2)
end
section
def pf (O : aJ) (p : Lz) (i : Nat) (r : Lz) : Lz :=
 if nth r i=0 then r else List.zipWith (λa x=>O.add a (O.neg (O.mul (O.mul (nth r i) (O.inv (nth p i))) x))) r p
def jl (O : aJ) (R : ZZ) (p i : Nat) : Nat->ZZ
 | 0=>[]
 | l+1=>if l=p then jl O R p i l else jl O R p i l ++ [pf O (ai R p) i (ai R l)]
def tZ (O : aJ) (R : ZZ) (i : Nat) : ZZ :=
 if aW R i 0=R.length then R else jl O R (aW R i 0) i R.length
def eQ (O : aJ) (n : Nat) : Nat->ZZ->Nat->Lz->Lz
 | 0,R,x,o=>if R.length=0 then o else o.set x R.length
 | d+1,R,x,o=>if R.length=0 then o else eQ O n d (tZ O R (n - (d+1))) x (eQ O n d R (x+2 ^ (n - (d+1))) o)
def fy (O : aJ) (n : Nat) (L : ZZ) : Lz:=eQ O n n L 0 (List.replicate (2 ^ n) 0)
def jZ (O : aJ) (n x : Nat) : Nat->ZZ->ZZ
 | 0,R=>R
 | d+1,R=>jZ O n x d (if x.testBit (n - (d+1))=true then R else tZ O R (n - (d+1)))
variable {O : aJ} {El : Int->Prop} {m : Nat} {L : ZZ}
theorem j8 (O : aJ) {p r : Lz} {i : Nat} (h : p.length=r.length) : (pf O p i r).length=r.length:=by
 unfold pf;split
 ·rfl
 ·rw [Pg];omega
theorem oh (O : aJ) {p r : Lz} {i j : Nat} (h : p.length=r.length) (hj : j<r.length) : nth (pf O p i r) j=if nth r i=0 then nth r j else O.add (nth r j) (O.neg (O.mul (O.mul (nth r i) (O.inv (nth p i))) (nth p j))):=by
 have hl:=j8 O (i:=i) h;unfold pf at hl ⊢;split
 ·rfl
 ·rename_i h0;rw [Mh h0] at hl;rw [aj (by omega),aj hj,aj (show j<p.length by omega)];simp
theorem jw {R : ZZ} {p i : Nat} {r : Lz} : ∀ {l},r ∈ jl O R p i l ↔ ∃j,j<l/\j ≠ p/\r=pf O (ai R p) i (ai R j)
 | 0=>by simp [jl]
 | l+1=>by
  have ih:=jw (R:=R) (p:=p) (i:=i) (r:=r) (l:=l);rw [jl];constructor
  ·intro h;by_cases e : l=p
   ·rw [Mg e] at h;obtain ⟨j,h1,h2⟩:=ih.1 h;exact ⟨j,by omega,h2⟩
   ·rw [Mh e] at h;rcases List.mem_append.1 h with h | h
    ·obtain ⟨j,h1,h2⟩:=ih.1 h;exact ⟨j,by omega,h2⟩
    ·exact ⟨l,by omega,e,List.mem_singleton.1 h⟩
  ·rintro ⟨j,h1,h2,h3⟩;by_cases e : l=p
   ·rw [Mg e];exact ih.2 ⟨j,by omega,h2,h3⟩
   ·rw [Mh e];by_cases e2 : j=l
    ·subst e2;exact List.mem_append.2 (.inr (List.mem_singleton.2 h3))
    ·exact List.mem_append.2 (.inl (ih.2 ⟨j,by omega,h2,h3⟩))
theorem lS (O : aJ) (R : ZZ) (p i : Nat) : ∀l,(jl O R p i l).length=if p<l then l - 1 else l
 | 0=>by simp [jl]
 | l+1=>by
  have ih:=lS O R p i l;rw [jl];split
  ·rename_i e;subst e;rw [ih,Mh (by omega),Mg (by omega)];rfl
  ·rename_i e;rw [Mp,ih,Mz];by_cases h : p<l
   ·rw [Mg h,Mg (by omega)];omega
   ·rw [Mh h,Mh (by omega)]
theorem fJ {R : ZZ} {r : Lz} (h : r ∈ R) : ∃j,j<R.length/\ai R j=r:=by obtain ⟨j,hj,e⟩:=List.mem_iff_getElem.1 h;exact ⟨j,hj,by rw [aF hj];exact e⟩
theorem RS.mem (F : bR O El) {r : Lz} (h : r ∈ L) : RS O El m L (λx=>nth r x):=by obtain ⟨j,hj,rfl⟩:=fJ h;exact .row F hj
theorem RS.el (F : bR O El) (hL : bx El m L) {f : Nat->Int} (h : RS O El m L f) {x : Nat} (hx : x<m) : El (f x):=by obtain ⟨e,he,h2⟩:=h;rw [h2 x hx];exact he.el _ (ch hL F.zero x)
theorem RS.Lr (F : bR O El) (hL : bx El m L) {f : Nat->Int} (h : RS O El m L f) {x : Nat} (hx : x<m) (h0 : ∀r ∈ L,nth r x=0) : f x=0:=by obtain ⟨e,he,h2⟩:=h;rw [h2 x hx,jt F he (ch hL F.zero x)];refine o6 F _ λp hp=>?_;show O.mul (e (fi L.length p)) (nth (aK L x) p)=0;rw [bM _ _ p hp,h0 _ (dj hp),F.dt (he.el _ (iM F _ p))]
theorem IP (F : bR O El) (hL : bx El m L) {r : Lz} (hr : Vc El m r) {f : Nat->Int} (h : RS O El m (L ++ [r]) f) : ∃s g,El s/\RS O El m L g/\∀x,x<m->f x=O.add (g x) (O.mul s (nth r x)):=by
 obtain ⟨e,he,h2⟩:=h;have hLr : bx El m (L ++ [r]):=λy hy=>by
  rcases List.mem_append.1 hy with hy | hy
  ·exact hL y hy
  ·rw [List.mem_singleton.1 hy];exact hr
 have hlen : (L ++ [r]).length=L.length+1:=by simp
 obtain ⟨c,hc⟩ : ∃c,((List.range L.length).map λt=>e (fi (L.length+1) t))=c:=⟨_,rfl⟩
 have hcn : ∀t,t<L.length->nth c t=e (fi (L.length+1) t):=λt ht=>by rw [<- hc,aj (by simpa using ht)];simp
 have hel : ∀t,El (e (fi (L.length+1) t)):=λt=>by refine he.el _ ?_;rw [hlen];exact iM F _ t
 have hce : ∀k,k<L.length->El (nth c k):=λk hk=>by rw [hcn k hk];exact hel k
 obtain ⟨c1,c2⟩:=gH F hL hce L.length (Mf _);refine ⟨e (fi (L.length+1) L.length),_,hel _,c2,λx hx=>?_⟩;rw [h2 x hx,jt F he (ch hLr F.zero x),fV F hL hce hx _ (Mf _)];rw [hlen,df];have h3 : nth (aK (L ++ [r]) x) L.length=nth r x:=by rw [bM _ _ _ (by rw [hlen];omega)];congr 1;rw [aF (by rw [hlen];omega)];simp
 rw [h3];congr 1;refine cT _ λp hp=>⟨(hcn p hp).symm,?_⟩
 rw [bM _ _ _ (by rw [hlen];omega)];congr 1;rw [aF (by rw [hlen];omega),aF hp,OE]
theorem Dp (hO : sV O El) {p r : Lz} (hp : Vc El m p) (hr : Vc El m r) {i : Nat} (hi : i<m) (h0 : nth p i ≠ 0) : Vc El m (pf O p i r):=by
 have hl : p.length=r.length:=by rw [hp.1,hr.1]
 refine ⟨by rw [j8 O hl];exact hr.1,λx hx=>?_⟩;obtain ⟨j,hj,rfl⟩:=List.mem_iff_getElem.1 hx;rw [<- aj];rw [j8 O hl] at hj;rw [oh O hl hj];have hj' : j<m:=by rw [hr.1] at hj;exact hj
 split
 ·exact hr.at hj'
 ·exact hO.add _ _ (hr.at hj') (hO.neg _ (hO.mul _ _ (hO.mul _ _ (hr.at hi) (hO.inv _ (hp.at hi) h0)) (hp.at hj')))
theorem BU (O : aJ) (R : ZZ) (i : Nat) : (tZ O R i).length<=R.length:=by
 unfold tZ;split
 ·exact Mf _
 ·rw [lS];split <;> omega
theorem Ji (hO : sV O El) {R : ZZ} (hR : bx El m R) {i : Nat} (hi : i<m) : bx El m (tZ O R i):=by
 unfold tZ;split
 ·exact hR
 ·rename_i hf;obtain ⟨_,hp,hp0⟩:=xj (Mj _) hf;intro r hr;obtain ⟨j,hj,_,rfl⟩:=jw.1 hr;exact Dp hO (hR.row hp) (hR.row hj) hi hp0
theorem DU (F : bR O El) {p r : Lz} (hp : Vc El m p) (hr : Vc El m r) {i : Nat} (hi : i<m) (h0 : nth p i ≠ 0) : nth (pf O p i r) i=0:=by
 have hl : p.length=r.length:=by rw [hp.1,hr.1]
 rw [oh O hl (by rw [hr.1];exact hi)];split
 ·assumption
 ·have h1:=hp.at hi;have h2:=hr.at hi;have h3:=F.cl.inv _ h1 h0;rw [F.mul_assoc _ _ _ h2 h3 h1,F.mul_comm _ _ h3 h1,F.mul_inv _ h1 h0,F.iE h2,F.add_neg _ h2]
structure yP (O : aJ) (El : Int->Prop) (m : Nat) (L R : ZZ) (Z : Lz) : Prop where
 rws : bx El m R
 sub : gF O El m R L
 zero : ∀r ∈ R,∀z ∈ Z,nth r z.toNat=0
 all : ∀f,RS O El m L f->(∀z ∈ Z,f z.toNat=0)->RS O El m R f
 cnt : R.length+jI O L Z=L.length
theorem yP.init (F : bR O El) (hL : bx El m L) : yP O El m L L [] :=
 ⟨hL,gF.refl F L,λ_ _ z hz=>by simp at hz,λ_ h _=>h,by have:=BG O L [];simp at this;omega⟩
theorem Je (F : bR O El) (hL : bx El m L) {Q : Lz} {x : Int} (h : ie O El L.length (aK L) (gA Q) x.toNat) : jI O L (Q ++ [x])=jI O L Q:=by have h1:=dP F hL (Q ++ [x]);rw [nX] at h1;exact h1.uniq (Rk.dep _ h (dP F hL Q))
theorem yP.step (F : bR O El) (hL : bx El m L) {R : ZZ} {Z : Lz} (h : yP O El m L R Z) (hZ : ∀z ∈ Z,0<=z/\z<(m : Int)) {i : Nat} (hi : i<m) : yP O El m L (tZ O R i) (Z ++ [(i : Int)]):=by
 unfold tZ;by_cases hf : aW R i 0=R.length
 ·rw [Mg hf];have h0 : ∀r ∈ R,nth r i=0:=λr hr=>by obtain ⟨j,hj,rfl⟩:=fJ hr;refine j4 R i (R.length - 0) 0 j (Mj _) ?_;unfold aW at hf;omega
  have hall : ∀f,RS O El m L f->(∀z ∈ Z,f z.toNat=0)->f i=0:=λf hf hz=>RS.Lr F h.rws (h.all f hf hz) hi h0;refine ⟨h.rws,h.sub,λr hr z hz=>?_,λf hf hz=>h.all f hf λz hz'=>hz z (List.mem_append.2 (.inl hz')),?_⟩
  ·rcases List.mem_append.1 hz with hz | hz
   ·exact h.zero r hr z hz
   ·rw [List.mem_singleton.1 hz];simpa using h0 r hr
  ·rw [Je F hL λφ hφ h1=>?_]
   ·exact h.cnt
   ·refine hall (λx=>φ (aK L x)) ⟨φ,hφ,λ_ _=>rfl⟩ λz hz=>h1 _ (dp.2 ⟨z,hz,rfl⟩)
 ·rw [Mh hf];obtain ⟨_,hp,hp0⟩:=xj (Mj _) hf;obtain ⟨p,hpe⟩ : ∃p,aW R i 0=p:=⟨_,rfl⟩
  rw [hpe] at hp hp0 ⊢;clear hf hpe;have hpv : Vc El m (ai R p):=h.rws.row hp;have hR' : bx El m (jl O R p i R.length):=λr hr=>by obtain ⟨j,hj,_,rfl⟩:=jw.1 hr;exact Dp F.cl hpv (h.rws.row hj) hi hp0
  have hpr : RS O El m R (λx=>nth (ai R p) x):=.row F hp;have hpi:=hpv.at hi;have hinv:=F.cl.inv _ hpi hp0;have hat : ∀j x,j<R.length->x<m->nth (pf O (ai R p) i (ai R j)) x=O.add (nth (ai R j) x) (O.neg (O.mul (nth (ai R p) x) (if nth (ai R j) i=0 then 0 else O.mul (nth (ai R j) i) (O.inv (nth (ai R p) i))))):=λj x hj hx=>by
   have hjv : Vc El m (ai R j):=h.rws.row hj;rw [oh O (by rw [hpv.1,hjv.1]) (by rw [hjv.1];exact hx)];by_cases h0 : nth (ai R j) i=0
   ·rw [Mg h0,Mg h0,F.dt (hpv.at hx),F.fD,F.add_zero _ (hjv.at hx)]
   ·rw [Mh h0,Mh h0,F.mul_comm _ _ (hpv.at hx) (F.cl.mul _ _ (hjv.at hi) hinv)]
  have hs : ∀j,j<R.length->El (if nth (ai R j) i=0 then 0 else O.mul (nth (ai R j) i) (O.inv (nth (ai R p) i))):=λj hj=>by
   split
   ·exact F.zero
   ·exact F.cl.mul _ _ (QV (h.rws.row hj) hi) hinv
  have hsub : gF O El m (jl O R p i R.length) R:=λk hk=>by obtain ⟨j,hj,_,e⟩:=jw.1 (dj hk);rw [e];exact ((Q5 F hj).comb F hpr (hs j hj)).congr λx hx=>hat j x hj hx
  have hz' : ∀r ∈ jl O R p i R.length,nth r i=0:=λr hr=>by obtain ⟨j,hj,_,rfl⟩:=jw.1 hr;exact DU F hpv (h.rws.row hj) hi hp0
  refine ⟨hR',hsub.trans h.sub,λr hr z hz=>?_,λf hf hz=>?_,?_⟩
  ·rcases List.mem_append.1 hz with hz | hz
   ·obtain ⟨j,hj,_,rfl⟩:=jw.1 hr;have hzb:=hZ z hz;rw [hat j _ hj (by omega),h.zero _ (dj hj) z hz,h.zero _ (dj hp) z hz,F.kj (hs j hj),F.fD,F.add_zero _ F.zero]
   ·rw [List.mem_singleton.1 hz];simpa using hz' r hr
  ·have hfR := h.all f hf λz hz'' => hz z (List.mem_append.2 (.inl hz''));have hRJ : bx El m (jl O R p i R.length ++ [ai R p]):=λy hy=>by
    rcases List.mem_append.1 hy with hy | hy
    ·exact hR' y hy
    ·rw [List.mem_singleton.1 hy];exact hpv
   have hback : gF O El m R (jl O R p i R.length ++ [ai R p]):=λj hj=>by
    have hlast : RS O El m (jl O R p i R.length ++ [ai R p]) (λx=>nth (ai R p) x):=RS.mem F (List.mem_append.2 (.inr (List.mem_singleton.2 rfl)));by_cases e : j=p
    ·subst e;exact hlast
    ·have hj' : RS O El m (jl O R p i R.length ++ [ai R p]) (λx=>nth (pf O (ai R p) i (ai R j)) x):=RS.mem F (List.mem_append.2 (.inl (jw.2 ⟨j,hj,e,rfl⟩)));refine (RS.add F hRJ hj' hlast (hs j hj)).congr λx hx=>?_;have hq:=F.cl.mul _ _ (hpv.at hx) (hs j hj);have hjx : El (nth (ai R j) x):=QV (h.rws.row hj) hx;rw [hat j x hj hx,F.add_assoc _ _ _ hjx (F.cl.neg _ hq) hq,F.tw hq,F.add_zero _ hjx]
   obtain ⟨s,g,hse,hg,hfx⟩:=IP F hR' hpv (hback.rs hfR);have hgi:=RS.Lr F hR' hg hi hz';have hfi:=hz i (List.mem_append.2 (.inr (List.mem_singleton.2 rfl)));rw [Mm,hfx i hi,hgi,F.zI (F.cl.mul _ _ hse hpi)] at hfi;have hs0 : s=0:=by have h1:=congrArg (λy=>O.mul y (O.inv (nth (ai R p) i))) hfi;change O.mul (O.mul s (nth (ai R p) i)) (O.inv (nth (ai R p) i))=O.mul 0 (O.inv (nth (ai R p) i)) at h1;rw [F.mul_assoc _ _ _ hse hpi hinv,F.mul_inv _ hpi hp0,F.iE hse,F.kj hinv] at h1;exact h1
   refine hg.congr λx hx=>?_;rw [hfx x hx,hs0,F.kj (hpv.at hx),F.add_zero _ (RS.el F hR' hg hx)]
  ·have hne : ¬ ie O El L.length (aK L) (gA Z) ((i : Int)).toNat:=λhcl=>by obtain ⟨φ,hφ,h2'⟩:=h.sub p hp;have h2 : ∀x,x<m->nth (ai R p) x=φ (aK L x):=h2';rw [Mm] at hcl;refine hp0 ?_;rw [h2 i hi];refine hcl φ hφ λy hy=>?_;obtain ⟨z,hz,rfl⟩:=dp.1 hy;have hzb:=hZ z hz;rw [<- h2 _ (by omega)];exact h.zero _ (dj hp) z hz
   rw [ru F hL hne,lS,Mg hp];have:=h.cnt;omega
def ky (x : Nat) : Nat->Lz
 | 0=>[]
 | k+1=>if x.testBit k=true then ky x k else ky x k ++ [(k : Int)]
theorem po {x : Nat} {y : Int} : ∀ {k},y ∈ ky x k ↔ ∃j : Nat,j<k/\y=j/\x.testBit j=false
 | 0=>by simp [ky]
 | k+1=>by
  have ih:=po (x:=x) (y:=y) (k:=k);rw [ky];constructor
  ·intro h;split at h
   ·obtain ⟨j,h1,h2⟩:=ih.1 h;exact ⟨j,by omega,h2⟩
   ·rename_i hb;rcases List.mem_append.1 h with h | h
    ·obtain ⟨j,h1,h2⟩:=ih.1 h;exact ⟨j,by omega,h2⟩
    ·exact ⟨k,by omega,List.mem_singleton.1 h,by simpa using hb⟩
  ·rintro ⟨j,h1,h2,h3⟩;by_cases e : j=k
   ·subst e;rw [Mh (by rw [h3];decide)];exact List.mem_append.2 (.inr (List.mem_singleton.2 h2))
   ·split
    ·exact ih.2 ⟨j,by omega,h2,h3⟩
    ·exact List.mem_append.2 (.inl (ih.2 ⟨j,by omega,h2,h3⟩))
theorem yJ (F : bR O El) (hL : bx El m L) {n x : Nat} (hn : n<=m) : ∀(d : Nat) (R : ZZ),d<=n->yP O El m L R (ky x (n - d))->yP O El m L (jZ O n x d R) (ky x n)
 | 0,R,_,h=>by rw [jZ];exact h
 | d+1,R,hd,h=>by
  rw [jZ];refine yJ F hL hn d _ (by omega) ?_;have e : n - d=(n - (d+1))+1:=by omega
  rw [e,ky];split
  ·exact h
  ·refine h.step F hL (λz hz=>?_) (by omega);obtain ⟨j,h1,h2,_⟩:=po.1 hz;omega
theorem z8 (F : bR O El) (hL : bx El m L) (x : Nat) : (jZ O m x m L).length+jI O L (ky x m)=L.length :=
 (yJ F hL (Mf m) m L (Mf m) (by rw [NS];exact yP.init F hL)).cnt
theorem C4 (O : aJ) {R : ZZ} (h : R.length=0) (i : Nat) : (tZ O R i).length=0:=by obtain rfl:=MF h;unfold tZ;simp [aW,dR]
theorem yM (O : aJ) (n x : Nat) : ∀(d : Nat) (R : ZZ),R.length=0->(jZ O n x d R).length=0
 | 0,R,h=>by rw [jZ];exact h
 | d+1,R,h=>by
  rw [jZ];refine yM O n x d _ ?_;split
  ·exact h
  ·exact C4 O h _
theorem pA (O : aJ) (n : Nat) : ∀(d : Nat) (R : ZZ) (x : Nat) (o : Lz),(eQ O n d R x o).length=o.length
 | 0,R,x,o=>by
  rw [eQ];split
  ·rfl
  ·rw [M9]
 | d+1,R,x,o=>by
  rw [eQ];split
  ·rfl
  ·rw [pA O n d,pA O n d]
theorem mod_succ (y k : Nat) : y % 2 ^ (k+1)=y % 2 ^ k+(if y.testBit k=true then 2 ^ k else 0):=by rw [Nat.mod_pow_succ,qz];rcases Nt (y / 2 ^ k) with h | h <;> simp [h]
theorem pr (O : aJ) (n : Nat) : ∀(d : Nat) (R : ZZ) (x : Nat) (o : Lz),d<=n->o.length=2 ^ n->x<2 ^ (n - d)->∀y,y<2 ^ n ->
  nth (eQ O n d R x o) y=if y % 2 ^ (n - d)=x/\(jZ O n y d R).length ≠ 0 then ((jZ O n y d R).length : Int) else nth o y
 | 0,R,x,o,_,ho,hx,y,hy=>by
  rw [eQ,jZ,OS,NY hy];by_cases h : R.length=0
  ·rw [Mg h,Mh λhh=>hh.2 h]
  ·rw [Mh h,dD _ _ _ _ (by rw [ho];simpa using hx)];by_cases e : y=x
   ·rw [Mg e,Mg ⟨e,h⟩]
   ·rw [Mh e,Mh λhh=>e hh.1]
 | d+1,R,x,o,hd,ho,hx,y,hy=>by
  rw [eQ,jZ];by_cases h : R.length=0
  ·rw [Mg h,Mh];refine λhh=>hh.2 (yM O n y d _ ?_);split
   ·exact h
   ·exact C4 O h _
  ·rw [Mh h];obtain ⟨k,hk⟩ : ∃k,n - (d+1)=k:=⟨_,rfl⟩
   have e : n - d=k+1:=by omega
   rw [hk] at hx ⊢;have hx2 : x<2 ^ (n - d):=by rw [e,NJ];omega
   have hx3 : x+2 ^ k<2 ^ (n - d):=by rw [e,NJ];omega
   rw [pr O n d _ _ _ (by omega) (by rw [pA];exact ho) hx2 y hy,pr O n d _ _ _ (by omega) ho hx3 y hy,e,mod_succ];have hym : y % 2 ^ k<2 ^ k:=Po _ (PV k);by_cases hb : y.testBit k=true
   ·rw [Mg hb,Mg hb,Mh λhh=>by omega];by_cases e2 : y % 2 ^ k=x
    ·simp only [e2,true_and]
    ·rw [Mh λhh=>e2 (by omega),Mh λhh=>e2 hh.1]
   ·rw [Mh hb,Mh hb,Pm];by_cases e2 : y % 2 ^ k=x/\(jZ O n y d (tZ O R k)).length ≠ 0
    ·rw [Mg e2,Mg e2]
    ·rw [Mh e2,Mh e2,Mh λhh=>by omega]
theorem sO (F : bR O El) (hL : bx El m L) {x : Nat} (hx : x<2 ^ m) : nth (fy O m L) x=((L.length - jI O L (ky x m) : Nat) : Int):=by
 have h:=z8 F hL x;unfold fy;rw [pr O m m L 0 _ (Mf _) (by simp) (by simp) x hx];rw [show m - m=0 by omega,Nat.pow_zero,Nat.mod_one];by_cases h0 : (jZ O m x m L).length=0
 ·rw [Mh λhh=>hh.2 h0];have e : nth (List.replicate (2 ^ m) (0 : Int)) x=0:=by unfold nth;simp only [Mk,MN];split <;> rfl
  rw [e];omega
 ·rw [Mg ⟨rfl,h0⟩];omega
end
theorem xl (pb : Nat) (a : OA) (n c : Nat) (L : ZZ) (i : Nat) (w : World) (p5 : w.cell? ⟨pb,5,none⟩=some (.slice a n c)) (hi : cU w a n L) (hL : ∀r ∈ L,i<r.length) (hn : n<=1000000) :
  Calls prog 269 #[.pointer (some ⟨pb,0,none⟩),.int .i64 i] w (cX w (aK L i)):=by
 have Hlen:=Z5 hi.len;have hpl:=hi.pl;have HL:=Z5 hL;clear hL;go_enter func269,ntmps269;go_wp2_with (at_make;refine b9 rfl _ _ 22 3 rfl (.int .i64 0) 8 underlying22 bt rfl n rfl rfl (by omega) (by unfold maxLen;omega) ?_;intro a1 w1 hown hbel hge hlt;have c5 : w1.cell? ⟨pb,5,none⟩=some (.slice a n c):=aA hbel p5);have hbw : Rs w w1:=hbel;have hown1 : w1.ownsRow w.heap.size 3 1 (.slice a1 n n) n (List.replicate n (.int .i64 0)):=hown;clear hown hbel;go_loopw [21] (λiv wr=>∃k : Nat,k<=n/\iv = .int .i64 k /\
   wr.ownsRow w.heap.size 3 1 (.slice a1 n n) n ((dn ((aK L i).take k) k n).map (Value.int .i64))/\Rs w wr)
  (λi _=>n - (intOf i).toNat)
 case atStart=>exact ⟨0,Mj _,rfl,by simpa [dn] using hown1,hbw⟩
 case round =>
  obtain ⟨k,hk,rfl,hown,hbel⟩:=hrel
  obtain ⟨hints,hmine⟩:=QR hown
  have hpl1:=hints.pl
  by_cases hlt : k<n
  ·obtain ⟨ra,rn,rc,hcell,hrow⟩:=(hi.ah hbel).cell k hlt
   have hkL : k<L.length:=by rw [Hlen.out];exact hlt
   have hri : i<rn:=by rw [<- hrow.len,aF hkL];exact HL.out _ (MM hkL)
   have ci:=hrow.cell i hri
   have hpr:=hrow.pl
   have hf:=(hmine (by omega)).2 k hlt
   have hc2:=hints.cell k hlt
   have hB:=(hmine (by omega)).1
   have Hv:=Z5 (bM L i k hkL)
   go_wp2_with fail
   go_roundw
   case rel =>
    refine ⟨k+1,by omega,by go_num,?_,hbel.setCell hB _⟩
    have h:=bN hown k hlt (.int .i64 (nth (ai L k) i))
    rw [<- MH,fK _ _ _ _ (by rw [MJ,cC];omega) hlt] at h
    rw [Mu (by rw [cC];omega),<- aj,Hv.out]
    exact h
   case measure=>simp [intOf] <;> omega
  ·obtain rfl : k=n:=by omega
   have hl : (aK L i).length=k:=by rw [cC];exact Hlen.out
   rw [gD,Ms (by omega)] at hown
   have Hl:=Z5 hl
   clear hl
   go_wp2_with fail
   go_ret
   exact ⟨a1,k,by rw [Hl.out];rfl,by rw [Hl.out];exact hown,hbel⟩
theorem oz {w : World} {b : Nat} {G : cJ} (pb : Nat) (a : OA) (n c : Nat) (L : ZZ) (m : Nat) (ao : OA) (no co : Nat) (Q : Lz) (most : Nat)
  (p0 : w.cell? ⟨pb,0,none⟩=some (.pointer (some ⟨b,0,none⟩))) (p5 : w.cell? ⟨pb,5,none⟩=some (.slice a n c))
  (h : dW w b G) (hi : cU w a n L) (hR : bx G.El m L) (hq : Ints w ao no Q) (hQ : ∀k,k<no->0<=nth Q k/\nth Q k<m) (hn : n<=1000000) (hno : no<=1000000) :
  Calls prog 261 #[.pointer (some ⟨pb,0,none⟩),.slice ao no co,.int .i64 most] w (cX w (y8 G.ops L Q most)):=by
 have Hlen:=Z5 hi.len;have HR:=Z5 hR;have HQ:=Z5 hQ;have Hql:=Z5 hq.len;have hplq:=hq.pl;have hcl:=Z5 (Q6 h);have HP:=Z5 (λ(V : World) (hV : Rs w V)=>aA hV p5);clear hR hQ;go_enter func261,ntmps261;go_wp2_with fail;obtain ⟨V,hV⟩ : ∃V : World,V=w.alloc (.cells #[.pointer (some ⟨b,0,none⟩),.slice none 0 0,.slice none 0 0] 260):=⟨_,rfl⟩
 rw [<- hV];have hbV : Rs w V:=by rw [hV];exact aB _ _
 have hB0 : nS V w.heap.size w.heap.size b none 0 [] none 0 ⟨[],[]⟩:=nS.start (Mf _) (by rw [hV];exact QS _ _ _ rfl);clear hV p0 p5;go_loopw [8,19] (λqv iv wr=>∃(k : Nat) (aq : OA) (cq : Nat) (out : Lz) (s : BS) (ar : OA) (cr : Nat) (R : Z4) (ap : OA) (cp : Nat),k<=no/\iv = .int .i64 k/\qv = .slice aq out.length cq /\
   Hid (cO G.ops L Q k=(s,out))/\nS wr w.heap.size w.heap.size b ar cr R ap cp s/\wr.ownsRow w.heap.size 3 1 (.slice aq out.length cq) out.length (out.map (Value.int .i64))/\Hid (aq ≠ none->¬ td w.heap.size ar R ap (an aq)) /\
   Rs w wr/\Hid (s.Ok G.El n)/\s.rows.length<=k/\out.length<=k/\Hid (out.length<=most))
  (λ_ iv _=>no - (intOf iv).toNat)
 case atStart=>exact ⟨0,none,0,[],⟨[],[]⟩,none,0,[],none,0,Mj _,rfl,rfl,rfl,hB0,bP,λh0=>absurd rfl h0,hbV,⟨λr hr=>by simp at hr,rfl,λi hi=>by simp at hi⟩,Mj _,Mj _,Mj _⟩
 case round =>
  obtain ⟨k,aq,cq,out,s,ar,cr,R,ap,cp,hk,rfl,rfl,hst,hBr,hop,hdq,hbr,hok,hsk,hok2,hom⟩:=hrel
  generalize wr=U at *
  by_cases hlt : k<no
  ·have cq1:=(hq.ah hbr).cell k hlt
   have hQk:=HQ.out k hlt
   obtain ⟨i,hik⟩ : ∃i : Nat,nth Q k=i:=⟨(nth Q k).toNat,by omega⟩
   rw [hik] at cq1 hQk
   by_cases hmo : out.length=most
   ·have Ho : Hid (y8 G.ops L Q most=out):=by show _=_;have h1:=FM (O:=G.ops) (L:=L) (Q:=Q) (k:=k) (most:=most) (by rw [Hql.out];exact hk) (by rw [hst.out];exact hmo);rw [h1,hst.out]
    have hd : ((out.length : Int) == (most : Int))=true:=by simp;omega
    clear hmo
    go_wp2_with fail
    go_ret
    exact ⟨aq,cq,by rw [Ho.out];rfl,by rw [Ho.out];exact hop,hbr⟩
   have hd : ((out.length : Int) == (most : Int))=false:=by simp;omega
   have Hom : Hid (out.length+1<=most):=by have:=hom.out;show _<=_;omega
   have him : i<m:=by omega
   have p5:=HP.out U hbr
   have hcol:=Dd HR.out him
   rw [Hlen.out] at hcol
   have hstep : cO G.ops L Q (k+1)=(s.next G.ops (aK L i),if s.eh G.ops (aK L i)=true then out ++ [(i : Int)] else out):=by rw [cO,hst.out,hik,Mm]
   have Hstep:=Z5 hstep
   have Hcol:=Z5 hcol
   clear hstep hcol hik hmo
   go_wp2_with fail
   refine (xl pb a n c L i U p5 (hi.ah hbr) (λr hr=>by rw [(HR.out r hr).1];exact him) hn).mono ?_
   rintro e w3 ⟨a3,c3,rfl,hown3,hb3⟩
   rw [Hcol.out.1] at hown3
   rw [Hcol.out.1]
   have hB3:=hBr.ah hb3
   have hbw3:=QQ hbr hb3
   have hn3 : a3 ≠ none->¬ td w.heap.size ar R ap (an a3):=λh0 hI=>by have h1:=(aZ hown3 h0).1;have h2:=(hBr.lt _ hI).2;omega
   clear p5
   go_wp2_with fail
   refine (D6 w.heap.size ar cr R ap cp s a3 c3 n (aK L i) h hbw3 hB3 hok.out (bg hown3 hbr.size) hn3 Hcol.out.2 hn (by omega)).mono ?_
   rintro e w4 ⟨ar',cr',R',ap',cp',rfl,hB4,hM4⟩
   have hbw4 : Rs w w4:=hbw3.trans (hM4.below (λx hx=>by
    rcases hx with h1 | ⟨h1,h2⟩
    ·exact (hB3.lt x h1).1
    ·rw [h2];exact Mt hbr.size (aZ hown3 h1).1) hbw3.size)
   have hop3:=ba hop hb3
   have hnI : aq ≠ none->¬ (td w.heap.size ar R ap (an aq)\/(a3 ≠ none/\an aq=an a3)):=λh0 hI=>by
    rcases hI with h1 | ⟨h1,h2⟩
    ·exact hdq.out h0 h1
    ·have e1:=(aZ hop h0).2;have e2:=(aZ hown3 h1).1;omega
   have hop4:=hM4.own hop3 hnI
   have hdq4 : aq ≠ none->¬ td w.heap.size ar' R' ap' (an aq):=λh0=>hM4.not (aZ hop3 h0).2 (hnI h0)
   have hok4 : (s.next G.ops (aK L i)).Ok G.El n:=BS.Ok.next hcl.out hok.out Hcol.out
   have hlen4:=BS.zK G.ops s (aK L i)
   have Hok4:=Z5 hok4
   have Hdq4:=Z5 hdq4
   clear hnI hdq4 hok4
   by_cases ht : s.eh G.ops (aK L i)=true
   ·rw [ht]
    have Hst : Hid (cO G.ops L Q (k+1)=(s.next G.ops (aK L i),out ++ [(i : Int)])):=by show _=_;rw [Hstep.out,Mg ht]
    clear ht
    generalize s.next G.ops (aK L i)=s' at *
    have hcn:=bm w4 (.int .i64 i) 3
    have hbn:=aB w4 (.cells #[.int .i64 i] 3)
    have hsz4:=hbw4.size
    go_wp2_with (at_builtin;refine bj rfl _ _ 22 3 rfl (.int .i64 0) 8 underlying22 bt rfl w.heap.size aq out.length cq _ rfl (hop4.alloc _) ⟨w4.heap.size,0,none⟩ 1 (.int .i64 i) rfl hcn rfl (by omega) (by unfold maxLen;omega) (by simp;omega) ?_;intro a5 c5 w5 hown5 hgr5 hap5)
    go_roundw
    case rel =>
     have hBn:=hB4.ah hbn
     have haq : ∀x,td w.heap.size ar' R' ap' x->cF aq x:=λx hx=>by
      by_cases h0 : aq=none
      ·exact .inl h0
      ·exact .inr λe=>Hdq4.out h0 (e ▸ hx)
     have hB5 : nS w5 w.heap.size w.heap.size b ar' cr' R' ap' cp' s':=hBn.bu λx hx=>hgr5.block x (hBn.lt x hx).2 λe=>(haq x hx).own _ _ e.symm
     have hb5 : Rs w w5:=QT (MS hbw4 (hbn.mono hsz4)) (hop4.alloc _) hgr5 (Mf _) (Mt hsz4 hbn.size)
     refine ⟨k+1,a5,c5,out ++ [(i : Int)],s',ar',cr',R',ap',cp',by omega,by go_num,by simp,Hst.out,hB5,?_,?_,hb5,Hok4.out,by omega,by simp;omega,?_⟩
     ·simpa using hown5
     ·show a5 ≠ none->_
      intro h0 hI
      rcases hap5 _ (hBn.lt _ hI).2 (haq _ hI) with h1 | h1
      ·exact h0 h1
      ·exact h1 rfl
     ·show _<=_
      rw [Mp];exact Hom.out
    case measure=>simp [intOf] <;> omega
   ·have ht' : s.eh G.ops (aK L i)=false:=by simpa using ht
    rw [ht']
    have Hst : Hid (cO G.ops L Q (k+1)=(s.next G.ops (aK L i),out)):=by show _=_;rw [Hstep.out,Mh ht]
    clear ht ht'
    generalize s.next G.ops (aK L i)=s' at *
    go_wp2_with fail
    go_roundw
    case rel=>exact ⟨k+1,aq,cq,out,s',ar',cr',R',ap',cp',by omega,by go_num,rfl,Hst.out,hB4,hop4,Hdq4.out,hbw4,Hok4.out,by omega,by omega,hom.out⟩
    case measure=>simp [intOf] <;> omega
  ·obtain rfl : k=no:=by omega
   have Ho : Hid (y8 G.ops L Q most=out):=by show _=_;have h1:=Ju (O:=G.ops) (L:=L) (Q:=Q) (most:=most) (by rw [Hql.out,hst.out];exact hom.out);rw [h1,Hql.out,hst.out]
   go_wp2_with fail
   go_ret
   exact ⟨aq,cq,by rw [Ho.out];rfl,by rw [Ho.out];exact hop,hbr⟩
section
structure RX where
 a : OA
 c : Nat
 l : Lz
structure gG (A : Nat->Prop) (w : World) (a : OA) (n : Nat) (L : ZZ) : Prop where
 len : L.length=n
 pl : Pl a n
 max : n<=maxLen
 no : 0<n->¬ A (an a)
 cell : ∀i,i<n->∃b m c,w.cell? ⟨an a,aP a+i,none⟩=some (.slice b m c)/\Ints w b m (ai L i)/\(0<m->¬ A (an b))
theorem gG.rC {A : Nat->Prop} {w : World} {a : OA} {n : Nat} {L : ZZ} (h : gG A w a n L) : cU w a n L :=
 ⟨h.len,h.pl,h.max,λi hi=>by obtain ⟨b,m,c,h1,h2,_⟩:=h.cell i hi;exact ⟨b,m,c,h1,h2⟩⟩
theorem gG.cQ {A A' : Nat->Prop} {w w' : World} {a : OA} {n : Nat} {L : ZZ} (h : gG A w a n L) (hM : aw w w' A A') : gG A w' a n L :=
 ⟨h.len,h.pl,h.max,h.no,λi hi=>by obtain ⟨b,m,c,h1,h2,h3⟩:=h.cell i hi;exact ⟨b,m,c,hM.cell h1 (h.no (by omega)),h2.cQ hM h3,h3⟩⟩
theorem gG.ah {A : Nat->Prop} {w w' : World} {a : OA} {n : Nat} {L : ZZ} (h : gG A w a n L) (hb : Rs w w') : gG A w' a n L:=h.cQ (QU hb A)
theorem gG.Kx {A : Nat->Prop} {w : World} {a : OA} {n : Nat} {L : ZZ} (h : cU w a n L) (hA : ∀b,A b->w.heap.size<=b) : gG A w a n L :=
 ⟨h.len,h.pl,h.max,λhn hc=>by have:=hA _ hc;have:=h.lt hn;omega,λi hi=>by obtain ⟨b,m,c,h1,h2⟩:=h.cell i hi;exact ⟨b,m,c,h1,h2,λhm hc=>by have:=hA _ hc;have:=h2.lt hm;omega⟩⟩
def LF (m : Nat) (x : RX) : Value:=.slice x.a m x.c
theorem gG.own {A : Nat->Prop} {w : World} {B m : Nat} {a : OA} {c : Nat} {xs : List RX} (h : w.ownsRow B 22 1 (.slice a xs.length c) xs.length (xs.map (LF m)))
  (hA : ∀b,A b->b<B) (hm : xs.length<=maxLen) (hx : ∀x ∈ xs,Ints w x.a m x.l/\(0<m->¬ A (an x.a))) : gG A w a xs.length (xs.map RX.l):=by
 refine ⟨by simp,?_,hm,λhn hc=>?_,λi hi=>?_⟩
 ·obtain ⟨a',c',hv,hp⟩:=Q0 h;cases hv
  exact hp
 ·have:=hA _ hc;have:=(fG h hn).1;omega
 ·have h1:=(bC h i hi).1;have e1 : (xs.map (LF m))[i]? = some (LF m xs[i]):=by rw [NV,MP hi];rfl
  obtain ⟨h2,h3⟩:=hx xs[i] (MM hi);refine ⟨xs[i].a,m,xs[i].c,?_,?_,h3⟩
  ·rw [h1,e1];rfl
  ·rw [aF (by rw [Mx];exact hi),NH];exact h2
variable {w : World} {b : Nat} {G : cJ}
theorem Lu (x y : Int) (h : dW w b G) (hx : G.El x) (hy : G.El y) (hy0 : y ≠ 0) :
  Calls prog 257 #[.pointer (some ⟨b,0,none⟩),.int .i64 x,.int .i64 y] w λe w'=>∃n,e = .returned (.tuple #[.int .i64 (G.mul x (G.inv y)),.int .i64 0])/\w'=w.drewN n:=by
 have Hi:=Z5 (Ax y h hy hy0);have Hinv : Hid (G.El (G.inv y)):=Q6 h |>.inv y hy hy0
 have HG : Hid (∀n,dW (w.drewN n) b G):=λn=>h.drewN n;clear hy0;go_enter func257,ntmps257;go_wp2_with fail;refine Hi.out.mono ?_;rintro e w1 ⟨n1,rfl,rfl⟩;go_wp2_with fail;refine (oK x (G.inv y) (HG.out n1) hx Hinv.out).mono ?_;rintro e w2 ⟨n2,rfl,rfl⟩;go_wp2_with fail;go_ret2;exact ⟨n1+n2,rfl,rfl⟩
end
theorem vn (U : Lz) (k : Nat) : aL false U (k+1)=if decide ((k : Int) ∈ U)=false then aL false U k ++ [(k : Int)] else aL false U k:=rfl
theorem uC (pb m : Nat) (sa : OA) (ns cs : Nat) (s : Lz) (az : OA) (nz cz : Nat) (z : Lz) (w : World) (p4 : w.cell? ⟨pb,4,none⟩=some (.int .i64 m)) (hs : Ints w sa ns s) (hz : Ints w az nz z)
  (hnz : nz<=1000000) (hm : m<=1000) :
  Calls prog 262 #[.pointer (some ⟨pb,0,none⟩),.slice sa ns cs,.slice az nz cz] w (cX w (jR m s z)):=by
 have Hzl:=Z5 hz.len;have HP:=Z5 (λ(V : World) (hV : Rs w V)=>aA hV p4);go_enter func262,ntmps262;go_wp2_with fail;refine (AR az nz cz w).mono ?_;rintro e w1 ⟨rfl,rfl⟩;have hb1 : Rs w (w.alloc (.cells #[.slice az nz cz] 22)):=aB _ _;have HSo:=Z5 (Cs w.heap.size az nz cz z hnz (w.alloc (.cells #[.slice az nz cz] 22)) (by simp) (aE _ _ _ rfl 0) (hz.ah hb1));have hsz1 : w.heap.size<=(w.alloc (.cells #[.slice az nz cz] 22)).heap.size:=hb1.size;generalize w.alloc (.cells #[.slice az nz cz] 22)=w1 at *;go_wp2_with fail;refine HSo.out.mono ?_;rintro e w2 ⟨a2,c2,rfl,hown2,hb2⟩;have hbw2:=QQ hb1 hb2;have p4':=HP.out w2 hbw2;have hO2 : w2.ownsRow w.heap.size 3 1 (.slice a2 nz c2) nz ((b8 z).map (Value.int .i64)):=bg hown2 hsz1;clear hown2 p4;go_wp2_with fail;go_loopw [7,17] (λqv iv wr=>∃(k : Nat) (aq : OA) (cq : Nat) (out : Lz),k<=m/\iv = .int .i64 k/\qv = .slice aq out.length cq/\Hid (out=b8 z ++ aL false (s ++ z) k)/\Hid (out.length<=nz+k) /\
   wr.ownsRow w.heap.size 3 1 (.slice aq out.length cq) out.length (out.map (Value.int .i64))/\Rs w wr)
  (λ_ iv _=>m - (intOf iv).toNat)
 case atStart =>
  refine ⟨0,a2,c2,b8 z,Mj _,rfl,?_,?_,?_,?_,hbw2⟩
  ·rw [gK,Hzl.out]
  ·show _=_;simp [aL]
  ·show _<=_;rw [gK,Hzl.out];omega
  ·rw [gK,Hzl.out];exact hO2
 case round =>
  obtain ⟨k,aq,cq,out,hk,rfl,rfl,hst,hln,hop,hbr⟩:=hrel
  generalize wr=U at *
  by_cases hlt : k<m
  ·have hsU:=hs.ah hbr
   have hzU:=hz.ah hbr
   have hlen:=hln.out
   have Hskip : Hid (((k : Int) ∈ s ++ z)->out=b8 z ++ aL false (s ++ z) (k+1)):=λhmem=>by rw [vn,Mh (by rw [MO hmem];decide)];exact hst.out
   have Htake : Hid (¬ ((k : Int) ∈ s ++ z)->out ++ [(k : Int)]=b8 z ++ aL false (s ++ z) (k+1)):=λhmem=>by rw [vn,Mg (by rw [M1 hmem]),<- NK,<- hst.out]
   by_cases h1 : (k : Int) ∈ s
   ·have hmd : decide ((k : Int) ∈ s)=true:=by simpa using h1
    have HcA:=Z5 (bI sa ns cs s k U hsU)
    rw [hmd] at HcA
    have Hst : Hid (out=b8 z ++ aL false (s ++ z) (k+1)):=Hskip.out (List.mem_append.2 (.inl h1))
    clear h1 hmd
    go_wp2_with fail
    refine HcA.out.mono ?_
    rintro e w6 ⟨rfl,rfl⟩
    go_wp2_with fail
    go_roundw
    case rel=>exact ⟨k+1,aq,cq,out,by omega,by go_num,rfl,Hst.out,(show _<=_ by omega),hop,hbr⟩
    case measure=>simp [intOf] <;> omega
   ·have hmd : decide ((k : Int) ∈ s)=false:=by simpa using h1
    have HcA:=Z5 (bI sa ns cs s k U hsU)
    rw [hmd] at HcA
    by_cases h2 : (k : Int) ∈ z
    ·have hmd2 : decide ((k : Int) ∈ z)=true:=by simpa using h2
     have HcB:=Z5 (bI az nz cz z k U hzU)
     rw [hmd2] at HcB
     have Hst : Hid (out=b8 z ++ aL false (s ++ z) (k+1)):=Hskip.out (List.mem_append.2 (.inr h2))
     clear h1 hmd h2 hmd2
     go_wp2_with fail
     refine HcA.out.mono ?_
     rintro e w6 ⟨rfl,rfl⟩
     go_wp2_with fail
     refine HcB.out.mono ?_
     rintro e w7 ⟨rfl,rfl⟩
     go_wp2_with fail
     go_roundw
     case rel=>exact ⟨k+1,aq,cq,out,by omega,by go_num,rfl,Hst.out,(show _<=_ by omega),hop,hbr⟩
     case measure=>simp [intOf] <;> omega
    ·have hmd2 : decide ((k : Int) ∈ z)=false:=by simpa using h2
     have HcB:=Z5 (bI az nz cz z k U hzU)
     rw [hmd2] at HcB
     have Hst : Hid (out ++ [(k : Int)]=b8 z ++ aL false (s ++ z) (k+1)):=Htake.out λh=>by
      rcases List.mem_append.1 h with h | h
      ·exact h1 h
      ·exact h2 h
     have hcn:=bm U (.int .i64 k) 3
     have hbn:=aB U (.cells #[.int .i64 k] 3)
     have hszU:=hbr.size
     clear h1 hmd h2 hmd2
     go_wp2_with fail
     refine HcA.out.mono ?_
     rintro e w6 ⟨rfl,rfl⟩
     go_wp2_with fail
     refine HcB.out.mono ?_
     rintro e w7 ⟨rfl,rfl⟩
     go_wp2_with (at_builtin;refine bj rfl _ _ 22 3 rfl (.int .i64 0) 8 underlying22 bt rfl w.heap.size aq out.length cq _ rfl (hop.alloc _) ⟨w7.heap.size,0,none⟩ 1 (.int .i64 k) rfl hcn rfl (by omega) (by unfold maxLen;omega) (by simp;omega) ?_;intro a5 c5 w5 hown5 hgr5 hap5)
     go_roundw
     case rel =>
      have hb5 : Rs w w5:=QT (MS hbr (hbn.mono hszU)) (hop.alloc _) hgr5 (Mf _) (Mt hszU hbn.size)
      refine ⟨k+1,a5,c5,out ++ [(k : Int)],by omega,by go_num,by simp,Hst.out,(show _<=_ by rw [Mp,Mz];omega),?_,hb5⟩
      simpa using hown5
     case measure=>simp [intOf] <;> omega
  ·obtain rfl : k=m:=by omega
   have Ho : Hid (jR k s z=out):=by show _=_;rw [jR,hst.out]
   go_wp2_with fail
   go_ret
   exact ⟨aq,cq,by rw [Ho.out];rfl,by rw [Ho.out];exact hop,hbr⟩
section
variable {w : World} {b : Nat} {G : cJ}
theorem AQ {L : ZZ} {i k : Nat} (hk : k<L.length) (h0 : ∀j,j<k->nth (ai L j) i=0) (h1 : nth (ai L k) i ≠ 0) : aW L i 0=k:=by
 have hb:=mD L i (L.length - 0) 0;have hs:=fP L i (L.length - 0) 0;have hz:=j4 L i (L.length - 0) 0;unfold aW;generalize dR L i 0 (L.length - 0)=p at *;rcases Pz p k with h | h | h
 ·exact absurd (h0 p h) (hs (by omega))
 ·exact h
 ·exact absurd (hz k (Mj _) h) h1
theorem yi {L : ZZ} {i : Nat} (h0 : ∀j,j<L.length->nth (ai L j) i=0) : aW L i 0=L.length:=by
 have hb:=mD L i (L.length - 0) 0;have hs:=fP L i (L.length - 0) 0;unfold aW;generalize dR L i 0 (L.length - 0)=p at *;rcases MU p L.length with h | h
 ·exact absurd (h0 p h) (hs (by omega))
 ·omega
def Jm (L : ZZ) (i : Nat) : Int:=if aW L i 0<L.length then aW L i 0 else -1
theorem IV (q i : Nat) (a : OA) (n c : Nat) (r : Lz) (w : World) (hc : w.cell? ⟨q,0,none⟩=some (.int .i64 i)) (hr : Ints w a n r) (hi : i<n) :
  Calls prog 256 #[.slice a n c,.pointer (some ⟨q,0,none⟩)] w λe w'=>e = .returned (.bool (nth r i != 0))/\w=w':=by have ci:=hr.cell i hi;have hpl:=hr.pl;go_enter func256,ntmps256;go_wp2;go_ret;exact ⟨rfl,rfl⟩
theorem yH (q i m : Nat) (a : OA) (n c : Nat) (R : ZZ) (w : World) (hc : w.cell? ⟨q,0,none⟩=some (.int .i64 i)) (hi : cU w a n R) (hR : ∀r ∈ R,r.length=m) (him : i<m) :
  Calls prog 255 #[.slice a n c,.func (.func 256) #[] #[.pointer (some ⟨q,0,none⟩)]] w λe w'=>e = .returned (.int .i64 (Jm R i))/\w=w':=by
 have Hlen:=Z5 hi.len;have hpl:=hi.pl;have hmax:=hi.max;unfold maxLen at hmax;have HR:=Z5 hR;clear hR;go_enter func255,ntmps255;go_wp2_with fail;go_loop [8] (λiv=>∃k : Nat,k<=n/\iv = .int .i64 k/\Hid (∀j,j<k->nth (ai R j) i=0)) (λiv=>n - (intOf iv).toNat);case atStart=>exact ⟨0,Mj _,rfl,λj hj=>by omega⟩
 case round =>
  obtain ⟨k,hk,rfl,hall⟩:=hrel
  by_cases hlt : k<n
  ·obtain ⟨br,mr,cr,ck,hrow⟩:=hi.cell k hlt
   have hml : mr=m:=by rw [<- hrow.len];exact HR.out _ (dj (by rw [Hlen.out];exact hlt))
   subst hml
   have Hc:=Z5 (IV q i br mr cr _ w hc hrow him)
   by_cases hz : nth (ai R k) i=0
   ·have hz' : (nth (ai R k) i != 0)=false:=by simpa using hz
    have Hz:=Z5 hz
    rw [hz'] at Hc
    clear hz hrow
    go_wp2_with fail
    refine Hc.out.mono ?_
    rintro e w' ⟨rfl,rfl⟩
    go_wp2_with fail
    go_round
    case rel=>exact ⟨k+1,by omega,by go_num,λj hj=>by
     rcases MU j k with h | h
     ·exact hall.out j h
     ·rw [show j=k by omega];exact Hz.out⟩
    case measure=>simp [intOf] <;> omega
   ·have hz' : (nth (ai R k) i != 0)=true:=by simpa using hz
    have Hf : Hid (Jm R i=k):=by show _=_;have:=AQ (L:=R) (i:=i) (k:=k) (by rw [Hlen.out];exact hlt) hall.out hz;rw [Jm,this,Mg (by rw [Hlen.out];exact hlt)]
    rw [hz'] at Hc
    clear hz hrow
    go_wp2_with fail
    refine Hc.out.mono ?_
    rintro e w' ⟨rfl,rfl⟩
    go_wp2_with fail
    go_ret
    exact ⟨aI Hf.out.symm,rfl⟩
  ·obtain rfl : k=n:=by omega
   have Hf : Hid (Jm R i = -1):=by show _=_;have:=yi (L:=R) (i:=i) (by rw [Hlen.out];exact hall.out);rw [Jm,this,Mh (by omega)]
   go_wp2_with fail
   go_ret
   exact ⟨aI Hf.out.symm,rfl⟩
theorem y9 (A : Nat->Prop) (a : OA) (n c : Nat) (R : ZZ) (m i : Nat) (h : dW w b G) (hA : ∀x,A x->x<w.heap.size) (hi : gG A w a n R) (hR : bx G.El m R) (him : i<m) (hn : n<=1000000) (hm : m<=1000000) :
  Calls prog 219 #[.pointer (some ⟨b,0,none⟩),.slice a n c,.int .i64 i] w λe w'=>∃a1 n1 c1,e = .returned (.slice a1 n1 c1)/\gG A w' a1 n1 (tZ G.ops R i)/\Rs w w':=by
 have Hlen:=Z5 hi.len;have HA:=Z5 hA;have HR:=Z5 hR;have hplR:=hi.pl;clear hA hR;go_enter func219,ntmps219;have hmf : ∀(fn : Fn) (first cap : Array Value) (w : World),(Instr.makeFunc fn first cap).run prog w = .ok (.func fn first cap) w:=λ_ _ _ _=>rfl;go_wp2_with fail;obtain ⟨W,hW⟩ : ∃W : World,W=w.alloc (.cells #[.int .i64 i] 3):=⟨_,rfl⟩
 rw [<- hW];have hbW : Rs w W:=by rw [hW];exact aB _ _
 have cI : W.cell? ⟨w.heap.size,0,none⟩=some (.int .i64 i):=by rw [hW];exact bm _ _ _
 have HbW:=Z5 hbW;have hiW:=hi.ah hbW;have hGW : dW W b G:=h.ah hbW;clear hW;refine (yH w.heap.size i m a n c R W cI hiW.rC (λr hr=>(HR.out r hr).1) him).mono ?_;rintro e w1 ⟨rfl,rfl⟩;by_cases hf : aW R i 0=R.length
 ·have Hw : Hid (tZ G.ops R i=R):=by show _=_;rw [tZ,Mg hf]
  have hv : Jm R i = -1:=by rw [Jm,Mh (by omega)]
  rw [hv];clear hf hv;go_wp2_with fail;go_ret;exact ⟨a,n,c,rfl,by rw [Hw.out];exact hiW,HbW.out⟩
 obtain ⟨_,hp,hp0⟩:=xj (Mj _) hf;obtain ⟨p,hpe⟩ : ∃p,aW R i 0=p:=⟨_,rfl⟩
 have Hw : Hid (tZ G.ops R i=jl G.ops R p i n):=by show _=_;rw [tZ,Mh hf,hpe,Hlen.out]
 have hv : Jm R i=p:=by rw [Jm,hpe,Mg (by rw [<- hpe];exact hp)]
 rw [hpe] at hp hp0;rw [hv];have hpn : p<n:=by rw [<- Hlen.out];exact hp
 have hp1 : nth (ai R p) i ≠ 0:=hp0;have Hp0:=Z5 hp1;clear hf hpe hv hp0 hp1;go_wp2_with fail;go_loopw [8,23] (λov iv wr=>∃(l : Nat) (ao : OA) (co : Nat) (xs : List RX),l<=n/\ov = .slice ao xs.length co/\iv = .int .i64 l/\wr.ownsRow W.heap.size 22 1 (.slice ao xs.length co) xs.length (xs.map (LF m))/\xs.length<=l /\
   Hid (xs.map RX.l=jl G.ops R p i l)/\Hid (∀x ∈ xs,Ints wr x.a m x.l/\¬ A (an x.a)/\cF ao (an x.a))/\Rs W wr) (λ_ iv _=>n - (intOf iv).toNat)
 case atStart=>exact ⟨0,none,0,[],Mj _,rfl,rfl,bP,Mj _,rfl,λx hx=>by simp at hx,Mi _ _⟩
 case round =>
  obtain ⟨l,ao,co,xs,hl,rfl,rfl,hown,hxl,hxs,hxo,hbr⟩:=hrel
  generalize wr=U at *
  by_cases hlt : l<n
  ·have hiU:=hiW.ah hbr
   have cIU:=aA hbr cI
   obtain ⟨br,mr,cr,crow,hrow,hno⟩:=hiU.cell l hlt
   have hrv:=HR.out _ (dj (show l<R.length by rw [Hlen.out];exact hlt))
   have hml : mr=m:=by rw [<- hrow.len];exact hrv.1
   subst hml
   by_cases hlp : l=p
   ·have Hwo : Hid (jl G.ops R p i (l+1)=jl G.ops R p i l):=by show _=_;rw [jl,Mg hlp]
    have he : ((l : Int) == (p : Int))=true:=by simp;omega
    clear hlp hrow hrv
    go_wp2_with fail
    go_roundw
    case rel=>exact ⟨l+1,ao,co,xs,by omega,rfl,by go_num,hown,by omega,by rw [Hwo.out];exact hxs,hxo,hbr⟩
    case measure=>simp [intOf] <;> omega
   have he : ((l : Int) == (p : Int))=false:=by simp;omega
   have Hwo : Hid (jl G.ops R p i (l+1)=jl G.ops R p i l ++ [pf G.ops (ai R p) i (ai R l)]):=by show _=_;rw [jl,Mh hlp]
   have hpl:=hrow.pl
   have cri:=hrow.cell i him
   obtain ⟨N,hN⟩ : ∃N,pf G.ops (ai R p) i (ai R l)=N:=⟨_,rfl⟩
   have hpv:=HR.out _ (dj (show p<R.length by rw [Hlen.out];exact hpn))
   have hprl : (ai R p).length=(ai R l).length:=by rw [hpv.1,hrv.1]
   have HN:=Z5 hN
   go_upto_if 35 with fail
   go_cut [10] (λv wx=>∃a4 c4,v = .slice a4 mr c4/\Ints wx a4 mr N/\¬ A (an a4)/\(an a4<W.heap.size\/U.heap.size<=an a4)/\Rs U wx)
   case first =>
    by_cases hz : nth (ai R l) i=0
    ·have hz' : (nth (ai R l) i != 0)=false:=by simpa using hz
     have hNe : N=ai R l:=by rw [<- hN,pf,Mg hz]
     have HNe:=Z5 hNe
     have hlow : an br<W.heap.size:=by
      obtain ⟨b0,m0,c0,k0,k1,k2⟩:=hiW.cell l hlt;have k3:=(aA hbr k0).symm.trans crow;injection k3 with k3
      injection k3 with e1 e2 e3
      subst e1 e2;exact k1.lt (by omega)
     clear hz hN hNe
     go_wp2_with fail
     go_meet
     exact ⟨br,cr,rfl,by rw [HNe.out];exact hrow,hno (by omega),.inl hlow,Mi _ _⟩
    ·have hz' : (nth (ai R l) i != 0)=true:=by simpa using hz
     obtain ⟨bp,mp,cp,cprow,hprow,hpno⟩:=hiU.cell p hpn
     have hmp : mp=mr:=by rw [<- hprow.len];exact hpv.1
     subst hmp
     have cpi:=hprow.cell i him
     have hppl:=hprow.pl
     have hGU : dW U b G:=hGW.ah hbr
     have elr : G.El (nth (ai R l) i):=QV hrv him
     have elp : G.El (nth (ai R p) i):=QV hpv him
     have HDv : Hid (∀k,Calls prog 257 #[.pointer (some ⟨b,0,none⟩),.int .i64 (nth (ai R l) i),.int .i64 (nth (ai R p) i)] (U.drewN k) λe w'=>∃n,e = .returned (.tuple #[.int .i64 (G.mul (nth (ai R l) i) (G.inv (nth (ai R p) i))),.int .i64 0])/\w'=(U.drewN k).drewN n):=λk=>Lu _ _ (hGU.drewN k) elr elp Hp0.out
     have HDv0 : Hid (Calls prog 257 #[.pointer (some ⟨b,0,none⟩),.int .i64 (nth (ai R l) i),.int .i64 (nth (ai R p) i)] U.drew λe w'=>∃n,e = .returned (.tuple #[.int .i64 (G.mul (nth (ai R l) i) (G.inv (nth (ai R p) i))),.int .i64 0])/\w'=U.drew.drewN n):=Lu _ _ (hGU.ah (Mi _ _).drew) elr elp Hp0.out
     have elq : G.El (G.mul (nth (ai R l) i) (G.inv (nth (ai R p) i))):=Rc hGU _ _
     have hNl : N.length=mp:=by rw [<- hN,j8 _ hprl];exact hrv.1
     have hNth : ∀j,j<mp->nth N j=G.ops.add (nth (ai R l) j) (G.ops.neg (G.ops.mul (G.mul (nth (ai R l) i) (G.inv (nth (ai R p) i))) (nth (ai R p) j))):=λj hj=>by rw [<- hN,oh _ hprl (by rw [hrv.1];exact hj),Mh hz];rfl
     have HNl:=Z5 hNl
     have HNth:=Z5 hNth
     have Hrl:=Z5 hrv
     have Hpv:=Z5 hpv
     have Hprow:=Z5 hprow
     have Hrow:=Z5 hrow
     clear hz hN hNl hNth hrv hpv hprl
     obtain ⟨s,hs⟩ : ∃s,G.mul (nth (ai R l) i) (G.inv (nth (ai R p) i))=s:=⟨_,rfl⟩
     rw [hs] at elq HNth HDv HDv0
     go_upto_region 10 with fail
     go_cut [11,12] (λv ev wx=>v = .int .i64 s/\ev = .int .i64 0/\bs U wx)
     case first =>
      go_region_law ((first
       | (go_simp;go_at_call 257;((with_reducible refine HDv0.out.mono ?_);rintro e w4 ⟨m4,rfl,rfl⟩))
       | (go_simp;go_at_call 257;((with_reducible refine (HDv.out _).mono ?_);rintro e w4 ⟨m4,rfl,rfl⟩))))
      all_goals (go_wp2_with fail;go_meet;exact ⟨rfl,rfl,⟨_,rfl⟩⟩)
     obtain ⟨rfl,rfl,hdU⟩:=hcut
     generalize wc=U1 at *
     have hbU1 : Rs U U1:=hdU.below
     clear HDv HDv0 hdU
     all_goals (
      obtain ⟨ro,hro⟩ : ∃ro,ai R l=ro:=⟨_,rfl⟩
      rw [hro] at HNth Hrl Hrow
      obtain ⟨pv,hpv2⟩ : ∃pv,ai R p=pv:=⟨_,rfl⟩
      rw [hpv2] at HNth Hpv Hprow
      have HCl : Hid (Calls prog 87 #[.slice br mp cr] U1 λe w'=>∃a4 c4,e = .returned (.slice a4 mp c4)/\w'.ownsRow U.heap.size 3 1 (.slice a4 mp c4) mp (ro.map (Value.int .i64))/\Rs U1 w'):=by refine (eo br mp cr ro (Hrow.out.ah hbU1) hm).mono ?_;rintro e w' ⟨a4,c4,he,ho,hb⟩;rw [Hrl.out.1] at he ho;exact ⟨a4,c4,he,bg ho hbU1.size,hb⟩
      have Hhi:=Z5 hiU
      have HcI:=Z5 cIU
      have Hcp:=Z5 cprow
      clear hs hro hpv2 hrow hprow cri cpi crow hiU cIU cprow hown hxo
      have cprow:=aA hbU1 Hcp.out
      go_wp2_with (go_at_call 87;refine HCl.out.mono ?_;rintro e w4 ⟨a4,c4,rfl,ho4,hb4⟩;have cprow4:=aA hb4 cprow)
      have hbw4:=QQ hbU1 hb4
      clear cprow cprow4
      go_loopw [59] (λjv wy=>∃t : Nat,t<=mp/\jv = .int .i64 t/\wy.ownsRow U.heap.size 3 1 (.slice a4 mp c4) mp ((fA N ro t).map (Value.int .i64))/\Rs U wy) (λjv _=>mp - (intOf jv).toNat)
      case atStart=>exact ⟨0,Mj _,rfl,by rw [eU];exact ho4,hbw4⟩
      case round =>
       clear ho4
       obtain ⟨t,ht,rfl,hown,hby⟩:=hrel
       by_cases htt : t<mp
       ·have cpt:=(Hprow.out.ah hby).cell t htt
        have hkN : N.length=ro.length:=by rw [HNl.out,Hrl.out.1]
        have hkv : t<ro.length:=by rw [Hrl.out.1];exact htt
        have hmix:=eO N ro t t hkN (by omega)
        rw [Mh (by omega)] at hmix
        have hset:=eH N ro t hkN hkv
        rw [HNth.out t htt] at hset
        have Hset:=Z5 hset
        obtain ⟨hiv,hmv⟩:=QR hown
        have hpv4:=hiv.pl
        have cv1:=hiv.cell t htt
        have fv1:=(hmv (by omega)).2 t htt
        have hBv:=(hmv (by omega)).1
        rw [hmix] at cv1
        have elv : G.El (nth ro t):=QV Hrl.out htt
        have elu : G.El (nth pv t):=QV Hpv.out htt
        have hGr : dW wr b G:=hGU.ah hby
        have elm : ∀x y,G.El (G.mul x y):=λx y=>Rc hGU x y
        have HG : Hid (dW wr.drew b G/\∀n,dW (wr.drewN n) b G):=⟨hGr.ah (Mi _ _).drew,λn=>hGr.drewN n⟩
        clear hmix hset hkN hkv hiv hmv hGr
        go_wp2_with fail
        go_region_law ((first
         | (go_simp;go_at_call 153;((with_reducible refine (oK s (nth pv t) HG.out.1 elq elu).mono ?_);rintro e w5 ⟨m5,rfl,rfl⟩))
         | (go_simp;go_at_call 153;((with_reducible refine (oK s (nth pv t) (HG.out.2 _) elq elu).mono ?_);rintro e w5 ⟨m5,rfl,rfl⟩))
         | (go_simp;go_at_call 191;((with_reducible refine (KK (nth ro t) (G.mul s (nth pv t)) (HG.out.2 _) elv (elm _ _)).mono ?_);rintro e w5 ⟨m6,rfl,rfl⟩))))
        all_goals (
         go_wp2_with fail
         go_roundw
         case rel =>
          have hdr : bs wr (wr.drewN (1+m5+m6)):=⟨_,rfl⟩
          have h1:=bN (w:=wr.drewN (1+m5+m6)) hown t htt (.int .i64 (G.sub (nth ro t) (G.mul s (nth pv t))))
          rw [<- MH,show G.sub (nth ro t) (G.mul s (nth pv t))=G.ops.add (nth ro t) (G.ops.neg (G.ops.mul s (nth pv t))) from rfl,Hset.out] at h1
          exact ⟨t+1,by omega,by go_num,h1,(QQ hby hdr.below).setCell (p:=⟨an a4,aP a4+t,none⟩) hBv _⟩
         case measure=>simp [intOf] <;> omega)
       ·obtain rfl : t=mp:=by omega
        rw [fT N ro t HNl.out Hrl.out.1] at hown
        obtain ⟨hiv,hmv⟩:=QR hown
        have hlo:=(hmv (by omega)).1
        go_wp2_with fail
        go_meet
        exact ⟨a4,c4,rfl,hiv,λhA=>by have h1:=HA.out _ hA;have h2:=HbW.out.size;have h3:=hbr.size;omega,.inr hlo,hby⟩)
   obtain ⟨a4,c4,rfl,hI4,hA4,hlo4,hb4⟩:=hcut
   generalize wc=V at *
   have hownV:=ba hown hb4
   have hapA : cF ao (an a4):=by
    by_cases h0 : ao=none
    ·exact .inl h0
    ·refine .inr ?_;have h1:=aZ hown h0;omega
   have HxV : Hid (∀x ∈ xs,Ints V x.a mr x.l/\¬ A (an x.a)/\cF ao (an x.a)):=λx hx=>by obtain ⟨q1,q2,q3⟩:=hxo.out x hx;exact ⟨q1.ah hb4,q2,q3⟩
   have hbV:=QQ hbr hb4
   have hcn:=bm V (.slice a4 mr c4) 22
   have hbn:=aB V (.cells #[.slice a4 mr c4] 22)
   have hsz:=hbV.size
   clear hown hiU cIU crow hrow cri hrv hpv hN hprl
   go_wp2_with (at_builtin;refine bj rfl _ _ 25 22 rfl (.slice none 0 0) 24 underlying25 fg rfl W.heap.size ao xs.length co _ rfl (hownV.alloc _) ⟨V.heap.size,0,none⟩ 1 (.slice a4 mr c4) rfl hcn rfl (by omega) (by unfold maxLen;omega) (by simp;omega) ?_;intro a5 c5 w5 hown5 hgr5 hap5)
   go_roundw
   case rel =>
    refine ⟨l+1,a5,c5,xs ++ [⟨a4,c4,N⟩],by omega,by simp,by go_num,?_,by simp;omega,?_,?_,QT (MS hbV (hbn.mono hsz)) (hownV.alloc _) hgr5 (Mf _) (Mt hsz hbn.size)⟩
    ·rw [M3,Mp];exact hown5
    ·show _=_
     rw [M3,hxs.out,Hwo.out,HN.out];rfl
    ·intro x hx
     have hx' : Ints V x.a mr x.l/\¬ A (an x.a)/\cF ao (an x.a):=by
      rcases List.mem_append.1 hx with hx | hx
      ·exact HxV.out x hx
      ·rw [List.mem_singleton.1 hx];exact ⟨hI4,hA4,hapA⟩
     refine ⟨(hx'.1.ah hbn).oN hgr5 λ_=>hx'.2.2,hx'.2.1,hap5 _ ?_ hx'.2.2⟩
     have:=hx'.1.lt (by omega)
     have:=hbn.size
     omega
   case measure=>simp [intOf] <;> omega
  ·obtain rfl : l=n:=by omega
   have hMA:=gG.own hown (A:=A) (λx hx=>by have:=HA.out x hx;have:=HbW.out.size;omega) (by unfold maxLen;omega) (λx hx=>⟨(hxo.out x hx).1,λ_=>(hxo.out x hx).2.1⟩)
   rw [hxs.out,<- Hw.out] at hMA
   have hF:=QQ HbW.out hbr
   go_wp2_with fail
   go_ret
   exact ⟨ao,xs.length,co,rfl,hMA,hF⟩
end
def nf (b : Nat) (P M : Int) (am : OA) (mn cm : Nat) (m : Nat) (a : OA) (n c : Nat) (ay : OA) (ny cy : Nat) (C : la) (sv : Value) (k : Nat) : List Value :=
 [.pointer (some ⟨b,0,none⟩),.int .i64 P,.int .i64 M,.slice am mn cm,.int .i64 m,.slice a n c,.slice ay ny cy,.bool C.cos,.int .i64 C.M,.int .i64 C.W,sv,.int .i64 k]
structure AU (w0 : World) (b : Nat) (G : cJ) (a : OA) (n : Nat) (L : ZZ) (m : Nat) (ay : OA) (ny : Nat) (C : la) : Prop where
 g : dW w0 b G
 rC : cU w0 a n L
 rws : bx G.El m L
 n6 : n<=1000000
 m6 : m<=64
 w6 : C.W<=64
 c0 : C.cos=false
theorem bf.setCell {w : World} {b : Nat} {cs : List Value} (h : bf w b cs) (i : Nat) (v : Value) : bf (w.setCell ⟨b,i,none⟩ v) b (cs.set i v):=by
 refine ⟨by simpa using h.1,λj u hu=>?_,λj=>by rw [MW];exact h.2.2 j⟩;by_cases e : j=i
 ·subst e;by_cases hl : j<cs.length
  ·rw [PN hl] at hu;cases hu
   exact Mw _ _ _ (h.2.1 j cs[j] (MP hl))
  ·rw [NT (by omega),Nf (by omega)] at hu;cases hu
 ·rw [Qc (by omega)] at hu;rw [MA _ _ _ _ (by simp <;> omega)];exact h.2.1 j u hu
theorem p6 {m : Nat} {t : Lz} (h : bG m t=true) : ∀k,k<t.length->0<=nth t k/\nth t k<m:=λ_ hk=>⟨(gr h hk).1,(gr h hk).2.1⟩
def kd (O : aJ) (u : Lz) (a : Int) (r : Lz) : Lz:=if a=0 then u else List.zipWith (λy x=>if x=0 then y else O.add y (O.mul a x)) u r
def As (O : aJ) (q : Nat) : ZZ->Lz->ZZ
 | [],u=>[u]
 | r :: L,u=>(List.range q).flatMap λ(a : Nat)=>As O q L (kd O u a r)
theorem qE (O : aJ) (q : Nat) : ∀(L : ZZ) (u : Lz),(As O q L u).length=q ^ L.length
 | [],u=>by simp [As]
 | r :: L,u=>by rw [As,Qh];have h : (List.range q).map (λ(a : Nat)=>(As O q L (kd O u a r)).length)=(List.range q).map λ_=>q ^ L.length:=M7 λa _=>qE O q L _;rw [h,QJ,PO,OT,MT,NJ,Pn]
theorem mb (O : aJ) (u : Lz) (a : Int) (r : Lz) (h : r.length=u.length) : (kd O u a r).length=u.length:=by unfold kd;split <;> simp [h]
theorem zV (O : aJ) (u : Lz) (a : Int) (r : Lz) (j : Nat) (h : r.length=u.length) (hj : j<u.length) (h0 : a ≠ 0) :
  nth (kd O u a r) j=if nth r j=0 then nth u j else O.add (nth u j) (O.mul a (nth r j)):=by unfold kd;rw [Mh h0,aj (show j<_ by simp [h];omega),aj hj,aj (show j<r.length by omega)];simp
theorem IX {O : aJ} {El : Int->Prop} (hO : sV O El) {u r : Lz} {a : Int} (hu : ∀x ∈ u,El x) (hr : ∀x ∈ r,El x) (ha : El a) (hl : r.length=u.length) : ∀x ∈ kd O u a r,El x:=by
 intro x hx;by_cases h0 : a=0
 ·unfold kd at hx;rw [Mg h0] at hx;exact hu x hx
 ·obtain ⟨j,hj,rfl⟩:=List.mem_iff_getElem.1 hx;rw [mb O u a r hl] at hj;have h1:=zV O u a r j hl hj h0;rw [aj (show j<(kd O u a r).length by rw [mb O u a r hl];exact hj)] at h1;rw [h1];split
  ·exact hu _ (aN hj)
  ·exact hO.add _ _ (hu _ (aN hj)) (hO.mul _ _ ha (hr _ (aN (by omega))))
section
open Go.RowKit Go.Shelf
structure WX where
 a : OA
 c : Nat
 l : Lz
structure L7 (V : World) (b : Nat) (G : cJ) (Bc Bat By Bg Bf l : Nat) (ag : OA) (k cg : Nat) (L : ZZ) : Prop where
 gen : V.cell? ⟨Bc,4,none⟩=some (.slice ag k cg)
 rC : cU V ag k L
 yl : V.cell? ⟨By,0,none⟩=some (.func (.yield l) #[] #[])
 gp : V.cell? ⟨Bg,0,none⟩=some (.pointer (some ⟨b,0,none⟩))
 gf : dW V b G
 fr : V.cell? ⟨Bf,0,none⟩=some (.func (.func 151) #[] #[.pointer (some ⟨Bc,0,none⟩),.pointer (some ⟨Bat,0,none⟩),.pointer (some ⟨By,0,none⟩),.pointer (some ⟨Bg,0,none⟩),.pointer (some ⟨Bf,0,none⟩)])
 lt : Bat<V.heap.size
def KZ (V : World) (B i : Nat) : Prop:=V.cell? ⟨B,0,none⟩=some (.int .i64 i)/\V.frozen? ⟨B,0,none⟩=false
theorem KZ.of_block {V V' : World} {B i : Nat} (h : KZ V B i) (hb : V'.heap[B]? = V.heap[B]?) : KZ V' B i :=
 ⟨(MI (w:=V) (a:=⟨B,0,none⟩) hb).trans h.1,(MD (w:=V) (a:=⟨B,0,none⟩) hb).trans h.2⟩
theorem KZ.ah {V V' : World} {B i : Nat} (h : KZ V B i) (hb : Rs V V') : KZ V' B i:=h.of_block (hb.block _ (Mn _ _ h.1))
attribute [local go_sem] QK
theorem aw.wide {w w' : World} {M I : Nat->Prop} (h : aw w w' M M) (hMI : ∀x,M x->I x) : aw w w' I I :=
 ⟨h.os,h.tape,h.output,h.size,λb hb hI=>h.block b hb λhm=>hI (hMI _ hm),λ_ h=>.inl h⟩
theorem aw.setAt (w : World) {I : Nat->Prop} {B : Nat} (hB : I B) (v : Value) : aw w (w.setCell ⟨B,0,none⟩ v) I I:=by have hb0 : Below 0 w (w.setCell ⟨B,0,none⟩ v):=(Mi 0 w).setCell (Mj _) v;exact ⟨hb0.os,hb0.tape,hb0.output,hb0.size,λb hb hI=>MB _ _ _ _ λe=>hI (e ▸ hB),λb hb=>.inl hb⟩
end
theorem Be (P M : Int) (am : OA) (mn cm : Nat) (mod : Lz) (N : Int) (a : OA) (n c : Nat) (L : ZZ) (w : World) (hmod : Ints w am mn mod) (hi : cU w a n L) :
  Calls prog 22 #[.agg #[.int .i64 P,.int .i64 M,.slice am mn cm,.int .i64 N,.slice a n c]] w λe w'=>e = .returned (.int .i64 (aH P M mod N L))/\Rs w w':=by rw [<- vA];exact mf P M am mn cm mod N a n c L w hmod hi zX
section
open Go.RowKit
end
section
open Go.RowKit
end
section
open Go.RowKit
end
end Go.Proofs.YtcfmiocdlcapoaaGreat
