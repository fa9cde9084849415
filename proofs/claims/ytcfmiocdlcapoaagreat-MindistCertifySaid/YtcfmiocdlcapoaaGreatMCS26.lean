import Derived.Test.YtcfmiocdlcapoaaGreatMCS22
import Derived.Test.YtcfmiocdlcapoaaGreatMCS21
namespace Go.Proofs.YtcfmiocdlcapoaaGreat
set_option linter.all false
set_option maxRecDepth 100000
set_option maxHeartbeats 16000000
open Go.RowKit Go.Proofs.Tryz
section
variable {O : aS} {El : Int->Prop} {m : Nat}
theorem pM.Gb (F : dw O El) {L : Ll} {P : Lz} {c : Nat} (h : pM L P c) (hL : cw El m L) {v : Lz} (hv : Vc El L.length v) {φ : Lz->Int} (hφ : kF O El L.length φ)
  {t : Nat} (ht : t<=P.length) (h0 : ∀j,j<t->φ (bs L (nth P j).toNat)=0) : ∀k,k<=t->Vc El L.length (iw O L P v k)/\φ (iw O L P v k)=φ v/\∀i,i<L.length->nth (iw O L P v k) i=if i<k then 0 else nth v i
 | 0,_=>⟨hv,rfl,λi _=>by rw [I5 (by omega)];rfl⟩
 | k+1,hk=>by
  obtain ⟨h1,h2,h3⟩:=h.Gb F hL hv hφ ht h0 k (by omega);have hle:=h.le;have hcol:=gu hL F.zero (nth P k).toNat;have hx:=h1.at (i:=k) (by omega);refine ⟨h1.sub F hcol hx,?_,λi hi=>?_⟩
  ·rw [iw,hφ.sub _ _ _ h1 hcol hx,h0 k (by omega),F.et hx,F.gU,F.add_zero _ (hφ.el _ h1),h2]
  ·rw [iw,eF O _ _ _ i (by rw [hcol.1,h1.1]) (by rw [h1.1];exact hi),dX L _ i hi,h.one k i (by omega) hi];by_cases e : i=k
   ·subst e;rw [I6 rfl,F.lV hx,F.add_neg _ hx,I6 (by omega)]
   ·rw [I5 e,F.et hx,F.gU,F.add_zero _ (h1.at hi),h3 i hi];by_cases e2 : i<k
    ·rw [I6 e2,I6 (by omega)]
    ·rw [I5 e2,I5 (by omega)]
theorem Bd {P : Lz} (ha : ∀i j,i<j->j<P.length->nth P i<nth P j) {x : Int} (hx : ¬ x ∈ P) : ∀k,k<=P.length->∃t,t<=k/\(∀j,j<t->nth P j<x)/\∀j,t<=j->j<k->x<nth P j
 | 0,_=>⟨0,IZ _,λj hj=>by omega,λj _ hj=>by omega⟩
 | k+1,hk=>by
  obtain ⟨t,h1,h2,h3⟩:=Bd ha hx k (by omega);have hne : nth P k ≠ x:=λe=>hx (e ▸ aK (by omega));by_cases ht : t=k
  ·subst ht;by_cases hlt : nth P t<x
   ·exact ⟨t+1,by omega,λj hj=>by
     by_cases e : j=t
     ·subst e;exact hlt
     ·exact h2 j (by omega),λj h4 h5=>by omega⟩
   ·exact ⟨t,by omega,h2,λj h4 h5=>by
     obtain rfl : j=t:=by omega
     omega⟩
  ·refine ⟨t,by omega,h2,λj h4 h5=>?_⟩;by_cases e : j=k
   ·subst e;have:=ha t j (by omega) (by omega);have:=h3 t (IZ _) (by omega);omega
   ·exact h3 j h4 (by omega)
theorem Fa (F : dw O El) {R : Ll} {P : Lz} (hR : cw El m R) (hP : pM R P m) (hl : sj R P) {f : Nat->Int} (hf : RS O El m R f) {x : Nat} (hx : x<m) (h0 : ∀y,y<x->f y=0) (hne : f x ≠ 0) : (x : Int) ∈ P:=by
 refine JE λhn=>hne ?_;obtain ⟨t,h1,h2,h3⟩:=Bd hl.asc hn P.length (IZ _);obtain ⟨e,he,h⟩:=hf;have hlt:=hP.lt;obtain ⟨q1,q2,q3⟩:=hP.Gb F hR (gu hR F.zero x) he h1 (λj hj=>by have:=h2 j hj;have:=hlt j (by omega);rw [<- h _ (by omega)];exact h0 _ (by omega)) t (IZ _);rw [h x hx,<- q2];refine he.zero F q1 λi hi=>?_;rw [q3 i hi];split
 ·rfl
 ·rw [dX R x i hi];by_cases hi2 : i<P.length
  ·have:=h3 i (by omega) hi2;exact hl.lead i x hi2 (by omega)
  ·exact hP.zero i x (by omega) hi hx
theorem DU (F : dw O El) {R : Ll} {P : Lz} (hR : cw El m R) (hP : pM R P m) {f : Nat->Int} (hf : RS O El m R f) (h0 : ∀j,j<P.length->f (nth P j).toNat=0) : ∀x,x<m->f x=0:=λx hx=>by obtain ⟨e,he,h⟩:=hf;rw [h x hx];refine hP.all F hR hx e he λy hy=>?_;obtain ⟨j,hj,rfl⟩:=(gQ P _ _).1 hy;rw [<- h _ (by have:=hP.lt j hj;omega)];exact h0 j hj
theorem v7 {P : Lz} (ha : ∀i j,i<j->j<P.length->nth P i<nth P j) : P.Pairwise λx y=>x<y:=by rw [Km];intro i j hi hj hij;have:=ha i j hij hj;rwa [ai hi,ai hj] at this
theorem EG {P P' : Lz} (ha : ∀i j,i<j->j<P.length->nth P i<nth P j) (ha' : ∀i j,i<j->j<P'.length->nth P' i<nth P' j) (h : ∀x,x ∈ P ↔ x ∈ P') : P=P':=by have h1:=v7 ha;have h2:=v7 ha';exact kZ (h1.imp λh=>by omega) (h2.imp λh=>by omega) ((KU (h1.imp λh=>by omega) (h2.imp λh=>by omega)).2 h)
theorem C9 (F : dw O El) {R R' : Ll} {P P' : Lz} (hR : cw El m R) (hR' : cw El m R') (hP : pM R P m) (hP' : pM R' P' m) (hl : sj R P) (hl' : sj R' P') (hlen : R.length=P.length) (hlen' : R'.length=P'.length)
  (h1 : iB O El m R R') (h2 : iB O El m R' R) : R=R':=by
 have key : ∀ {R R' : Ll} {P P' : Lz},cw El m R->pM R P m->sj R P->pM R' P' m->sj R' P'->R'.length=P'.length->iB O El m R' R->∀x ∈ P',x ∈ P:=λ{R R' P P'} hR hP hl hP' hl' hlen' h2 x hx=>by obtain ⟨i,hi,rfl⟩:=List.mem_iff_getElem.1 hx;have hb:=hP'.lt i hi;have h3:=Fa F hR hP hl (h2 i (by omega)) (x:=(nth P' i).toNat) (by omega) (λy hy=>hl'.lead i y hi hy) (by show nth (an R' i) (nth P' i).toNat ≠ 0;rw [hP'.one i i hi (by omega),I6 rfl];decide);rw [show (((nth P' i).toNat : Nat) : Int)=nth P' i by omega,ai hi] at h3;exact h3
 have hPP : P=P':=EG hl.asc hl'.asc λx=>⟨key hR' hP' hl' hP hl hlen h1 x,key hR hP hl hP' hl' hlen' h2 x⟩
 subst hPP;refine KI (by omega) λi hi hi'=>?_;have hr:=hR _ (JA hi);have hr':=hR' _ (JA hi');refine fQ (by rw [hr.1,hr'.1]) λx hx=>?_;rw [hr.1] at hx;have hz:=DU F hR hP ((h2 i hi').comb F (RS.row F (m:=m) hi) F.one) (λj hj=>by
  show O.add (nth (an R' i) (nth P j).toNat) (O.neg (O.mul (nth (an R i) (nth P j).toNat) 1))=0;rw [hP'.one j i hj hi',hP.one j i hj hi];split
  ·rw [F.lV F.one,F.add_neg _ F.one]
  ·rw [F.lV F.zero,F.add_neg _ F.zero]) x hx
 have hz' : O.add (nth (an R' i) x) (O.neg (O.mul (nth (an R i) x) 1))=0:=hz;have e1 : El (nth R[i] x):=hr.2 _ (aK (by rw [hr.1];exact hx));have e2 : El (nth R'[i] x):=hr'.2 _ (aK (by rw [hr'.1];exact hx));rw [aE hi,aE hi',F.lV e1] at hz';have h4:=F.oF e2 (F.cl.neg _ e1) hz';have h5:=congrArg O.neg h4;rwa [F.neg_neg e1,F.neg_neg e2] at h5
theorem lk (F : dw O El) (n k : Nat) : Vc El n (ez n k):=by
 refine ⟨fF n k,λx hx=>?_⟩;unfold ez at hx;rcases K0 hx with hx | rfl
 ·rw [KG hx];exact F.zero
 ·exact F.one
theorem lp {n k i : Nat} (hk : k<n) : nth (ez n k) i=if i=k then 1 else 0:=by
 unfold ez;rw [gP _ _ _ _ (by simpa using hk)];split
 ·rfl
 ·unfold nth;simp only [Jc,JX];split <;> rfl
def tK (O : aS) (n : Nat) (v : Lz) : Nat->Lz
 | 0=>v
 | k+1=>dF O (tK O n v k) (nth v k) (ez n k)
theorem yb (F : dw O El) {n : Nat} {φ : Lz->Int} (hφ : kF O El n φ) {v : Lz} (hv : Vc El n v) : ∀k,k<=n->Vc El n (tK O n v k)/\(∀i,i<n->nth (tK O n v k) i=if i<k then 0 else nth v i) /\
  O.add (φ (tK O n v k)) (mI O (λt=>φ (ez n t)) (λt=>nth v t) k)=φ v
 | 0,_=>⟨hv,λi _=>by rw [I5 (by omega)];rfl,by rw [mI];exact F.add_zero _ (hφ.el _ hv)⟩
 | k+1,hk=>by
  obtain ⟨h1,h2,h3⟩:=yb F hφ hv k (by omega);have hu:=lk F n k;have hx:=hv.at (i:=k) (by omega);refine ⟨h1.sub F hu hx,λi hi=>?_,?_⟩
  ·rw [tK,eF O _ _ _ i (by rw [hu.1,h1.1]) (by rw [h1.1];exact hi),lp (by omega),h2 i hi];by_cases e : i=k
   ·subst e;rw [I6 rfl,I5 (by omega),F.lV hx,F.add_neg _ hx,I6 (by omega)]
   ·rw [I5 e,F.et hx,F.gU];by_cases e2 : i<k
    ·rw [I6 e2,I6 (by omega),F.add_zero _ F.zero]
    ·rw [I5 e2,I5 (by omega),F.add_zero _ (hv.at hi)]
  ·have hm:=F.cl.mul _ _ hx (hφ.el _ hu);have hd:=pO F (a:=λt=>φ (ez n t)) (b:=λt=>nth v t) k (λp _=>hφ.el _ (lk F n p)) (λp hp=>hv.at (by omega));rw [tK,hφ.sub _ _ _ h1 hu hx,mI,F.mul_comm _ _ (hφ.el _ hu) hx,F.Fi (hφ.el _ h1) (F.cl.neg _ hm) hd hm,F.ru hm,F.add_zero _ (F.cl.add _ _ (hφ.el _ h1) hd),h3]
theorem tD (F : dw O El) {n : Nat} {φ : Lz->Int} (hφ : kF O El n φ) {v : Lz} (hv : Vc El n v) : φ v=mI O (λt=>φ (ez n t)) (λt=>nth v t) n:=by obtain ⟨h1,h2,h3⟩:=yb F hφ hv n (IZ _);rw [<- h3,hφ.zero F h1 λi hi=>by rw [h2 i hi,I6 hi],F.FT (pO F n (λp _=>hφ.el _ (lk F n p)) (λp hp=>hv.at hp))]
theorem mX (F : dw O El) {L : Ll} (hL : cw El m L) {x : Lz} (hx : ∀k,k<L.length->El (nth x k)) {y : Nat} (hy : y<m) : ∀k,k<=L.length->nth (bw O m x L k) y=mI O (λt=>nth x t) (λt=>nth (an L t) y) k
 | 0,_=>by rw [bw,mI];unfold nth;simp only [Jc,JX];split <;> rfl
 | k+1,hk=>by
  have ih:=mX F hL hx hy k (by omega);obtain ⟨h1,_⟩:=jc F hL hx k (by omega);have hr:=hL.row (i:=k) (by omega);have hd:=pO F (a:=λt=>nth x t) (b:=λt=>nth (an L t) y) k (λp hp=>hx p (by omega)) (λp hp=>NH (hL.row (i:=p) (by omega)) hy);rw [bw,mI];split
  ·rename_i e0;rw [ih,e0,F.oD (NH hr hy),F.add_zero _ hd]
  ·rw [gK O _ _ _ y (by rw [hr.1,h1.1]) (by rw [h1.1];exact hy),ih];split
   ·rename_i e1;show _=O.add _ (O.mul (nth x k) (nth (an L k) y));rw [e1,F.et (hx k (by omega)),F.add_zero _ hd]
   ·rfl
theorem GU {P : Lz} {k : Nat} (hl : P.length=k) (hb : ∀j,j<k->0<=nth P j/\nth P j<k) (ha : ∀i j,i<j->j<P.length->nth P i<nth P j) : ∀j,j<k->nth P j=j:=by
 have h1 : ∀j,j<k->(j : Int)<=nth P j:=λj=>by
  induction j with
  | zero=>intro h;exact (hb 0 h).1
  | succ j ih=>intro h;have:=ih (by omega);have:=ha j (j+1) (by omega) (by omega);omega
 have h2 : ∀d j,j+d+1=k->nth P j<=j:=λd=>by
  induction d with
  | zero=>intro j h;have:=hb j (by omega);omega
  | succ d ih=>intro j h;have:=ih (j+1) (by omega);have:=ha j (j+1) (by omega) (by omega);omega
 intro j hj;have:=h1 j hj;have:=h2 (k - j - 1) j (by omega);omega
theorem ye (F : dw O El) {L : Ll} (hL : cw El m L) {Q : Lz} (hQ : pA m Q) (hl : Q.length=L.length) (hg : (gD O L Q).length=Q.length) (i : Nat) (hi : i<L.length) :
  ∃e,kF O El L.length e/\(∀y,y<m->nth (an (dk O m L Q) i) y=e (bs L y))/\∀j,j<Q.length->e (bs L (nth Q j).toNat)=if i=j then 1 else 0:=by
 have hD:=jY hL hQ;have hpv:=Eb F hL hQ hl hg;have hJr:=jX hD (nO F.zero F.one Q.length);have hDl : (L.map (aQ Q)).length=Q.length:=by rw [Jl,hl]
 have hJl : (eD (L.map (aQ Q)) (dH Q.length)).length=Q.length:=by simp [eD,bV,hl]
 have hJt:=kn (D:=L.map (aQ Q)) (U:=dH Q.length) (k:=Q.length) (by rw [bV,hDl]) (λr hr=>(hD r hr).1);have hJd:=mK (D:=L.map (aQ Q)) (U:=dH Q.length) (k:=Q.length) (by rw [bV,hDl]) (λr hr=>(hD r hr).1);obtain ⟨J,hJ⟩ : ∃J,eD (L.map (aQ Q)) (dH Q.length)=J:=⟨_,rfl⟩
 have hsys : dk O m L Q=yE O m ((aD O J Q.length).1.map (List.drop Q.length)) L:=by rw [dk,jE,hJ]
 rw [hJ] at hpv hJr hJl hJt hJd;obtain ⟨h1,h2,_⟩:=i5 F hJr Q.length (by omega);have h3:=ou F hJr Q.length (by omega);have hel : (aD O J Q.length).1.length=Q.length:=by rw [b9,hJl]
 have hEr:=jI F hJr Q.length (by omega);have hid:=GU hpv (λj hj=>h1.lt j (by omega)) h3.asc;obtain ⟨e,he,hx⟩:=h2 i (by omega);rw [hJl,hl] at he;have hcolD : ∀x,x<Q.length->bs J x=bs L (nth Q x).toNat:=λx hx=>by
  have e1 : bs J x=bs (J.map (List.take Q.length)) x:=by unfold bs;rw [Lh];exact Kb λr _=>(na hx).symm
  rw [e1,hJt];unfold bs;rw [Lh];exact Kb λr _=>eX Q r hx
 have hcolU : ∀x,x<Q.length->bs J (Q.length+x)=ez L.length x:=λx hx=>by
  have e1 : bs J (Q.length+x)=bs (J.map (List.drop Q.length)) x:=by unfold bs;rw [Lh];refine Kb λr _=>?_;unfold nth;simp only [Jc,Function.comp,K8]
  rw [e1,hJd];refine fQ (by rw [cQ,bV,fF,hl]) λt ht=>?_;rw [cQ,bV] at ht;rw [dX _ _ _ (by rw [bV];exact ht),gJ ht,lp ht,<- hl,lp hx];by_cases e : x=t
  ·subst e;simp
  ·rw [I5 e,I5 λe2=>e e2.symm]
 have hT : ∀t,t<Q.length->nth (an ((aD O J Q.length).1.map (List.drop Q.length)) i) t=e (ez L.length t):=λt ht=>by rw [gG _ List.drop_nil,<- hcolU t ht,<- hx _ (by omega)];unfold nth;simp only [Jc,K8]
 have hTl : ((aD O J Q.length).1.map (List.drop Q.length)).length=L.length:=by rw [Jl,hel,hl]
 refine ⟨e,he,λy hy=>?_,λj hj=>?_⟩
 ·rw [hsys,yE,bL _ _ (by rw [hTl];exact hi)];rw [mX F hL (λt ht=>by rw [hT t (by omega)];exact he.el _ (lk F _ t)) hy _ (IZ _),tD F he (gu hL F.zero y)];exact mq _ λt ht=>⟨hT t (by omega),(dX L y t ht).symm⟩
 ·rw [<- hcolD j hj,<- hx _ (by omega)];have:=h1.one j i (by omega) (by omega);rw [hid j hj,Jd] at this;exact this
end
section
variable {P M : Int} {mod : Lz} {m : Nat} {L : Ll}
theorem lM (hE : aJ P M mod m L=0) {Q : Lz} (hQ : pA m Q) (hl : Q.length=L.length) (hg : (gD (ah P M.toNat mod).ops L Q).length=Q.length) :
  cw (ah P M.toNat mod).El m (dk (ah P M.toNat mod).ops m L Q)/\(dk (ah P M.toNat mod).ops m L Q).length=L.length/\(dk (ah P M.toNat mod).ops m L Q).map (aQ Q)=dH Q.length /\
  pD (ah P M.toNat mod) (dk (ah P M.toNat mod).ops m L Q) m=L:=by
 obtain ⟨N',e,hm1,hm64,F,hR⟩:=br hE;obtain rfl : m=N':=by omega
 have hfull:=tj hE;have h6:=(dR (bl hE).2.2.2).2;rw [Jd] at h6;have hcan : iE (ah P M.toNat mod).ops m L=L:=h6;obtain ⟨hPv,hLd⟩:=je F hR;have hcl:=fx F hR;rw [hcan] at hPv hLd hcl;have hform:=λi hi=>ye F hR hQ hl hg i hi;have hD:=jY hR hQ;have hIr:=rK F hD;have hIl : (jE (ah P M.toNat mod).ops (L.map (aQ Q)) Q.length).length=L.length:=by rw [Eu _ (by rw [Jl,hl]),hl]
 have hSl : (dk (ah P M.toNat mod).ops m L Q).length=L.length:=by unfold dk yE;rw [Jl,hIl]
 have hSr : cw (ah P M.toNat mod).El m (dk (ah P M.toNat mod).ops m L Q):=λr hr=>by unfold dk yE at hr;obtain ⟨s,hs,rfl⟩:=List.mem_map.1 hr;have hs2:=hIr s hs;exact (jc F hR (λk hk=>hs2.2 _ (aK (by rw [hs2.1];omega))) _ (IZ _)).1
 show _/\_/\_/\iE (ah P M.toNat mod).ops m (dk (ah P M.toNat mod).ops m L Q)=L;generalize dk (ah P M.toNat mod).ops m L Q=S at *;generalize (ah P M.toNat mod).ops=O at *;generalize (ah P M.toNat mod).El=El at *;refine ⟨hSr,hSl,?_,?_⟩
 ·refine KI (by rw [Jl,bV,hSl,hl]) λi h1 h2=>?_;rw [Jl,hSl] at h1;rw [<- aE,<- aE,bL _ _ (by rw [hSl];exact h1),gJ (by omega)];obtain ⟨e,he,hy,hj⟩:=hform i h1;refine fQ (by rw [fF];simp [aQ]) λj hj2=>?_;have hj3 : j<Q.length:=by simpa [aQ] using hj2
  have hqj:=hQ j hj3;rw [eX Q _ hj3,lp (by omega),hy _ (by omega),hj j hj3];by_cases e2 : i=j
  ·subst e2;simp
  ·rw [I5 e2,I5 λe3=>e2 e3.symm]
 ·obtain ⟨k1,k2⟩:=je F hSr;have k3:=fx F hSr;obtain ⟨s1,s2⟩:=oG F hSr;have hSL : iB O El m S L:=λi hi=>by obtain ⟨e,he,hy,_⟩:=hform i (by omega);exact ⟨e,he,hy⟩
  have hclA : ∀x,x<m->oV O El L.length (bs L) (gA Q) x:=λx hx=>by
   refine JE λhn=>?_;have h1:=Fl F hR (Q:=Q) (x:=(x : Int)) (by simpa using hn);have h2:=Rk.le (iL F hR) (kL F hR (Q ++ [(x : Int)])) hfull λy hy=>by
    refine (iL F hR).mem _ _ ?_;rw [Lm];obtain ⟨z,hz,rfl⟩:=rG.1 hy;rcases List.mem_append.1 hz with hz | hz
    ·obtain ⟨j,hj,rfl⟩:=List.mem_iff_getElem.1 hz;have:=hQ j hj;rw [ai hj] at this;omega
    ·rw [JN] at hz;subst hz;simpa using hx
   have h3 : pN O L Q=Q.length:=hg;omega
  have hLS : iB O El m L S:=λi hi=>by
   have hcx : ∀k,k<S.length->El (nth (aQ Q (an L i)) k):=λk hk=>by
    have hk2 : k<Q.length:=by omega
    have:=hQ k hk2;rw [eX Q _ hk2];exact NH (hR.row (i:=i) hi) (by omega)
   obtain ⟨c1,c2⟩:=jc F hSr hcx S.length (IZ _);have hd:=(RS.row F (m:=m) (O:=O) (El:=El) hi).comb F (hSL.rs c2) F.one;obtain ⟨e,he,hx⟩:=hd;have hz : ∀x,x<m->O.add (nth (an L i) x) (O.neg (O.mul (nth (bw O m (aQ Q (an L i)) S S.length) x) 1))=0:=λx hxm=>by
    have h1 : O.add (nth (an L i) x) (O.neg (O.mul (nth (bw O m (aQ Q (an L i)) S S.length) x) 1))=e (bs L x):=hx x hxm;rw [h1];refine hclA x hxm e he λy hy=>?_;obtain ⟨q,hq,rfl⟩:=rG.1 hy;obtain ⟨j,hj,rfl⟩:=List.mem_iff_getElem.1 hq;have hqj:=hQ j hj;rw [ai hj] at hqj;have h2 : O.add (nth (an L i) (Q[j]).toNat) (O.neg (O.mul (nth (bw O m (aQ Q (an L i)) S S.length) (Q[j]).toNat) 1))=e (bs L (Q[j]).toNat):=hx _ (by omega);rw [<- h2];have hvi : El (nth (an L i) (Q[j]).toNat):=NH (hR.row (i:=i) hi) (by omega);have h3 : nth (bw O m (aQ Q (an L i)) S S.length) (Q[j]).toNat=nth (an L i) (Q[j]).toNat:=by
     rw [mX F hSr hcx (by omega) _ (IZ _)];have hone : ∀t,t<S.length->nth (an S t) (Q[j]).toNat=if t=j then 1 else 0:=λt ht=>by obtain ⟨e',_,hy',hj'⟩:=hform t (by omega);have h4:=hj' j hj;rw [ai hj] at h4;rw [hy' _ (by omega),h4]
     have hpj : nth (aQ Q (an L i)) j=nth (an L i) (Q[j]).toNat:=by rw [eX Q _ hj,ai hj]
     rw [rF F (x:=j) (by
      show El (O.mul (nth (aQ Q (an L i)) j) (nth (an S j) (Q[j]).toNat));rw [hone j (by omega),I6 rfl,hpj,F.lV hvi];exact hvi) S.length (λp hp hpj=>by
      show O.mul (nth (aQ Q (an L i)) p) (nth (an S p) (Q[j]).toNat)=0;rw [hone p hp,I5 hpj,F.et (hcx p hp)]),I6 (by omega)]
     show O.mul (nth (aQ Q (an L i)) j) (nth (an S j) (Q[j]).toNat)=_;rw [hone j (by omega),I6 rfl,hpj,F.lV hvi]
    rw [h3,F.lV hvi,F.add_neg _ hvi]
   refine c2.congr λx hxm=>?_;have h1:=hz x hxm;have hvi : El (nth (an L i) x):=NH (hR.row (i:=i) hi) hxm;have hvc:=c1.at hxm;rw [F.lV hvc] at h1;have h4:=F.oF hvi (F.cl.neg _ hvc) h1;have h5:=congrArg O.neg h4;rw [F.neg_neg hvc,F.neg_neg hvi] at h5;exact h5.symm
  exact C9 F (wR F hSr) hR k1 hPv k2 hLd k3 hcl (s1.trans hSL) (hLS.trans s2)
end
theorem tT (O : aS) (L : Ll) (Q : Lz) {k : Nat} : ∀d,∀x ∈ (bU O L Q k).2,x ∈ (bU O L Q (k+d)).2
 | 0,x,hx=>hx
 | d+1,x,hx=>by
  have h:=tT O L Q d x hx;rw [<- KF,bU];split
  ·exact List.mem_append.2 (.inl h)
  ·exact h
theorem ox (O : aS) (L : Ll) (Q : Lz) : ∀k,k<=Q.length->∀x ∈ (bU O L Q k).2,x ∈ Q.take k
 | 0,_,x,hx=>by simp [bU] at hx
 | k+1,hk,x,hx=>by
  have e : Q.take (k+1)=Q.take k ++ [nth Q k]:=by rw [Ja (by omega),ai (by omega)]
  rw [e,JM];rw [bU] at hx;split at hx
  ·rcases List.mem_append.1 hx with hx | hx
   ·exact .inl (ox O L Q k (by omega) x hx)
   ·exact .inr hx
  ·exact .inl (ox O L Q k (by omega) x hx)
theorem Cm {U S : Lz} (h : dn U S S.length=0) : ∀x ∈ S,x ∈ U:=λx hx=>by
 rw [i9 _ _ _ (IZ _),I8 (IZ _)] at h;have h0 : S.countP (λx=>decide (¬ x ∈ U))=0:=by omega
 rw [LK] at h0;have:=h0 x hx;simpa using this
theorem Cs (m : Nat) (U : Lz) : pd m (eB m U):=by
 have h1 : (eB m U).Nodup:=by
  rw [eB,J2];refine ⟨(jW false U m).imp λh=>by omega,(jW true U m).imp λh=>by omega,λx hx y hy e=>?_⟩;subst e;obtain ⟨j,_,e1,h1⟩:=(ew m).1 hx;obtain ⟨i,_,e2,h2⟩:=(ew m).1 hy;obtain rfl : i=j:=by omega
  rw [h1] at h2;exact absurd h2 (by decide)
 refine (KU h1 ?_).2 λx=>?_
 ·rw [LV,MP];exact List.nodup_range.imp λh e=>h (Int.ofNat.inj e)
 ·rw [rP,Lj];constructor
  ·rintro ⟨j,hj,rfl⟩;exact ⟨j,List.mem_range.2 hj,rfl⟩
  ·rintro ⟨j,hj,rfl⟩;exact ⟨j,List.mem_range.1 hj,rfl⟩
section
variable {O : aS} {El : Int->Prop} {m : Nat} {L : Ll}
theorem wM (F : dw O El) {x : Nat} (h : oV O El L.length (bs L) [] x) : ∀i,i<L.length->nth (an L i) x=0:=λi hi=>by have h1:=h _ (kF.A1 F hi) (by simp);rwa [dX _ _ _ hi] at h1
theorem Fv (F : dw O El) (hL : cw El m L) {U : Lz} (h : dn U (cG O L m U) (cG O L m U).length=0) {j : Nat} (hj : j<m) (hjU : ¬ (j : Int) ∈ U) : ∀i,i<L.length->nth (an L i) j=0:=by
 have h1:=Cm h;have hk : (bz false U m).length<=(eB m U).length:=by rw [eB,Jh];omega
 have htk : (eB m U).take (bz false U m).length=bz false U m:=by rw [eB,M7];rfl
 have hnil : (bU O L (eB m U) (bz false U m).length).2=[]:=by rw [List.eq_nil_iff_forall_not_mem];intro x hx;have h2:=ox O L (eB m U) _ hk x hx;rw [htk] at h2;obtain ⟨i,_,rfl,h3⟩:=(ew m).1 h2;have h4:=tT O L (eB m U) ((eB m U).length - (bz false U m).length) _ hx;rw [show (bz false U m).length+((eB m U).length - (bz false U m).length)=(eB m U).length by omega] at h4;have h5:=h1 _ h4;simp at h3;exact h3 h5
 have h6:=(uP F hL (eB m U) (bz false U m).length).2.2 j (by
  rw [gQ];have hm : (j : Int) ∈ bz false U m:=(ew m).2 ⟨j,hj,rfl,by simpa using hjU⟩;obtain ⟨i,hi,e⟩:=List.mem_iff_getElem.1 hm;refine ⟨i,hi,?_⟩;have e2 : nth (eB m U) i=nth (bz false U m) i:=by rw [<- htk,na hi]
  rw [e2,ai hi,e];simp)
 rw [hnil] at h6;exact wM F h6
def oC (O : aS) (L : Ll) (m : Nat) : Lz->List (Lz × Int)->Prop
 | U,[]=>∀j,j<m->¬ (j : Int) ∈ U->∀i,i<L.length->nth (an L i) j=0
 | U,t :: T=>cF m t.1=true/\pG O L t.1=true/\1<=t.2/\t.2=dn U t.1 t.1.length/\oC O L m (U ++ t.1) T
theorem tb {P M : Int} {mod : Lz} (hE : aJ P M mod m L=0) : ∀(f : Nat) (U : Lz) (T0 : List (Lz × Int)),(bz false U m).length<f ->
  ∃T,ga (ah P M.toNat mod).ops L m f U T0=T0 ++ T/\oC (ah P M.toNat mod).ops L m U T/\T.length<=(bz false U m).length
 | 0,_,_,h=>by omega
 | f+1,U,T0,h=>by
  obtain ⟨N',e,hm1,hm64,F,hR⟩:=br hE;obtain rfl : m=N':=by omega
  rw [ga];by_cases h0 : dn U (cG (ah P M.toNat mod).ops L m U) (cG (ah P M.toNat mod).ops L m U).length=0
  ·rw [I6 h0];exact ⟨[],by simp,λj hj hjU=>Fv F hR h0 hj hjU,by simp⟩
  ·rw [I5 h0];have hless:=qE h0;obtain ⟨T,h1,h2,h3⟩:=tb hE f (U ++ bA (cG (ah P M.toNat mod).ops L m U)) (T0 ++ [(bA (cG (ah P M.toNat mod).ops L m U),dn U (cG (ah P M.toNat mod).ops L m U) (cG (ah P M.toNat mod).ops L m U).length)]) (by omega);obtain ⟨p1,p2⟩:=Dn hE (Cs m U);have hbd:=lD U (cG (ah P M.toNat mod).ops L m U) (cG (ah P M.toNat mod).ops L m U).length;refine ⟨(bA (cG (ah P M.toNat mod).ops L m U),dn U (cG (ah P M.toNat mod).ops L m U) (cG (ah P M.toNat mod).ops L m U).length) :: T,by rw [h1];simp,⟨p1,p2,by omega,?_,h2⟩,by simp;omega⟩;exact (tE (dc _)).symm
theorem eH {P M : Int} {mod : Lz} (hE : aJ P M mod m L=0) : oC (ah P M.toNat mod).ops L m [] (eo (ah P M.toNat mod).ops L m)/\(eo (ah P M.toNat mod).ops L m).length<=m:=by have hl : (bz false [] m).length<=m:=gk _ _ _;obtain ⟨T,h1,h2,h3⟩:=tb hE (m+1) [] [] (by omega);rw [eo,h1,JL];exact ⟨h2,by omega⟩
end
def bK (x : Lz) : Nat:=x.countP λy=>decide (y ≠ 0)
def Ge (x : Lz) (U : Lz) (m : Nat) : Nat:=(List.range m).countP λj=>decide (nth x j ≠ 0/\(j : Int) ∈ U)
theorem nK {p p' : Nat->Bool} {s : Nat} (h : ∀j,j ≠ s->p j=p' j) : ∀m,(List.range m).countP p'+(if s<m/\p s=true then 1 else 0)=(List.range m).countP p+(if s<m/\p' s=true then 1 else 0)
 | 0=>by simp
 | m+1=>by
  have ih:=nK h m;rw [Kz,KL,KL,KR,KR];by_cases e : s=m
  ·subst e;simp at ih;by_cases h1 : p s=true <;> by_cases h2 : p' s=true <;> simp [h1,h2] <;> omega
  ·have h3:=h m (λe2=>e e2.symm);rw [h3];by_cases h4 : s<m
   ·simp only [h4,show s<m+1 by omega,true_and] at ih ⊢;omega
   ·simp only [h4,show ¬ s<m+1 by omega,false_and] at ih ⊢;simp at ih ⊢;omega
theorem Fx (x U : Lz) (m : Nat) {s : Int} (h0 : 0<=s) (hm : s<m) : Ge x (U ++ [s]) m=Ge x U m+(if nth x s.toNat ≠ 0/\¬ s ∈ U then 1 else 0):=by
 have h:=nK (p:=λj=>decide (nth x j ≠ 0/\(j : Int) ∈ U)) (p':=λj=>decide (nth x j ≠ 0/\(j : Int) ∈ U ++ [s])) (s:=s.toNat) (λj hj=>by
  have : ((j : Int) ∈ U ++ [s]) ↔ ((j : Int) ∈ U):=by rw [JM,JN];exact ⟨λh=>h.elim id λe=>absurd (by omega) hj,.inl⟩
  simp [this]) m
 have e : ((s.toNat : Nat) : Int)=s:=by omega
 have hlt : s.toNat<m:=by omega
 unfold Ge;simp only [e,hlt,true_and,JH,JM,JN,or_true,and_true] at h;have h' : (List.range m).countP (λj=>decide (nth x j ≠ 0/\(j : Int) ∈ U ++ [s]))=(List.range m).countP (λj=>decide (nth x j ≠ 0/\((j : Int) ∈ U\/(j : Int)=s))):=by simp
 rw [h'];by_cases h1 : nth x s.toNat=0
 ·simp [h1] at h ⊢;exact h
 ·by_cases h2 : s ∈ U
  ·simp [h1,h2] at h ⊢;omega
  ·simp [h1,h2] at h ⊢;omega
theorem AE (x : Lz) (m : Nat) : ∀(S U : Lz),S.Nodup->(∀s ∈ S,0<=s/\s<(m : Int))->Ge x (U ++ S) m=Ge x U m+S.countP λs=>decide (nth x s.toNat ≠ 0/\¬ s ∈ U)
 | [],U,_,_=>by simp
 | s :: S,U,hn,hb=>by
  rw [List.nodup_cons] at hn;have h1:=hb s (J4 ..);have ih:=AE x m S (U ++ [s]) hn.2 λy hy=>hb y (J3 _ hy);rw [JQ,Mo] at ih;rw [ih,Fx x U m h1.1 h1.2,KZ];have e : S.countP (λy=>decide (nth x y.toNat ≠ 0/\¬ y ∈ U ++ [s]))=S.countP (λy=>decide (nth x y.toNat ≠ 0/\¬ y ∈ U)):=by refine List.countP_congr λy hy=>?_;have : y ≠ s:=λe=>hn.1 (e ▸ hy);simp [this]
  rw [e];simp only [JH];omega
theorem GR (x U : Lz) (m : Nat) (hx : x.length=m) : Ge x U m<=bK x:=by
 have h : bK x=(List.range m).countP λj=>decide (nth x j ≠ 0):=by
  have e : x=(List.range m).map (nth x):=by refine KI (by simp [hx]) λi h1 h2=>?_;rw [Lx,List.getElem_range,ai h1]
  conv=>lhs;rw [bK,e,Na]
  rfl
 rw [h];exact List.countP_mono_left λj _ h=>by simp at h ⊢;exact h.1
theorem o7 {O : aS} {L : Ll} {m : Nat} {x : Lz} {v : Int} : ∀(T : List (Lz × Int)) (U : Lz),oC O L m U T->(∀t ∈ T,v<(bK (aQ t.1 x) : Int)) ->
  dO L.length v (T.map (·.2)) T.length+Ge x U m<=(Ge x (U ++ (T.map (·.1)).flatten) m : Int)
 | [],U,_,_=>by simp [dO]
 | t :: T,U,h,hw=>by
  obtain ⟨h1,h2,h3,h4,h5⟩:=h;have ih:=o7 T (U ++ t.1) h5 λy hy=>hw y (J3 _ hy);have hl : t.1.length=L.length:=(jo.1 h2).1;have hin : ∀s ∈ t.1,0<=s/\s<(m : Int):=λs hs=>by obtain ⟨k,hk,rfl⟩:=List.mem_iff_getElem.1 hs;have:=fC h1 hk;rw [ai hk] at this;exact ⟨this.1,this.2.1⟩
  have ha:=AE x m t.1 U (kR h1) hin;have hwt:=hw t (J4 ..);have hfl : ∀(r : Int) (R : Lz),∀k,dO L.length v (r :: R) (k+1)=max 0 (v+1 - (L.length - r))+dO L.length v R k:=λr R k=>by
   induction k with
   | zero=>simp [dO,nth]
   | succ k ih=>rw [dO,ih,dO];simp [nth];omega
  have hc : (bK (aQ t.1 x) : Int)<=(t.1.countP λs=>decide (nth x s.toNat ≠ 0/\¬ s ∈ U) : Nat)+(L.length - t.2):=by
   have e1 : bK (aQ t.1 x)=t.1.countP λs=>decide (nth x s.toNat ≠ 0):=by unfold bK aQ;rw [Na];rfl
   have e2 : t.2=(t.1.countP (λs=>decide (¬ s ∈ U)) : Nat):=by rw [h4,i9 _ _ _ (IZ _),I8 (IZ _)]
   have e3 : ∀S : Lz,(S.countP λs=>decide (nth x s.toNat ≠ 0))+S.countP (λs=>decide (¬ s ∈ U))<=(S.countP λs=>decide (nth x s.toNat ≠ 0/\¬ s ∈ U))+S.length:=λS=>by
    induction S with
    | nil=>simp
    | cons s S ih =>
     rw [KZ,KZ,KZ,Kf]
     by_cases p1 : nth x s.toNat=0 <;> by_cases p2 : s ∈ U <;> simp [p1,p2] at ih ⊢ <;> omega
   have:=e3 t.1;omega
  rw [Ke,Kf,hfl,Ke,List.flatten_cons,<- JQ];omega
theorem BR {P M : Int} {mod : Lz} {m : Nat} {L : Ll} (hE : aJ P M mod m L=0) {x : Lz} (hx : x.length=m) {v : Int} (hv : 0<=v/\v<=(L.length : Int)) (hl : L.length<=64)
  (hw : ∀t ∈ eo (ah P M.toNat mod).ops L m,v<(bK (aQ t.1 x) : Int)) :
  ∃f : Int,ql L.length ((eo (ah P M.toNat mod).ops L m).map (·.2)) v=(f,0)/\f<=(bK x : Int):=by
 obtain ⟨h1,h2⟩:=eH hE;obtain ⟨m',e,hm1,hm64,_,_⟩:=br hE;generalize eo (ah P M.toNat mod).ops L m=T at *;have hb:=o7 T [] h1 hw;have hle:=GR x ([] ++ (T.map (·.1)).flatten) m hx;have hr : ∀(T : List (Lz × Int)) (U : Lz),oC (ah P M.toNat mod).ops L m U T->(T.map (·.2)).all (qw L.length)=true:=λT=>by
  induction T with
  | nil=>intro U _;rfl
  | cons t T ih =>
   rintro U ⟨q1,q2,q3,q4,q5⟩
   have hbd:=lD U t.1 t.1.length
   have hl : t.1.length=L.length:=(jo.1 q2).1
   rw [Ke,L8,ih _ q5,Bool.and_true]
   unfold qw
   simp;omega
 refine ⟨dO L.length v (T.map (·.2)) T.length,?_,?_⟩
 ·rw [ql,I6,Jl];refine ⟨?_,hr T [] h1⟩;unfold Dp;simp [Jl];omega
 ·omega
section
variable {O : aS} {El : Int->Prop} {m : Nat} {L : Ll}
structure Io (O : aS) (El : Int->Prop) (m : Nat) (L R : Ll) (Z : Lz) : Prop where
 rws : cw El m R
 sub : iB O El m R L
 zero : ∀r ∈ R,∀z ∈ Z,nth r z.toNat=0
 all : ∀f,RS O El m L f->(∀z ∈ Z,f z.toNat=0)->RS O El m R f
 cnt : R.length+pN O L Z=L.length
end
section
structure RX where
 a : OA
 c : Nat
 l : Lz
structure kE (A : Nat->Prop) (w : World) (a : OA) (n : Nat) (L : Ll) : Prop where
 len : L.length=n
 pl : Pl a n
 max : n<=maxLen
 no : 0<n->¬ A (aj a)
 cell : ∀i,i<n->∃b m c,w.cell? ⟨aj a,aL a+i,none⟩=some (.slice b m c)/\Ints w b m (an L i)/\(0<m->¬ A (aj b))
theorem kE.l7 {A : Nat->Prop} {w : World} {a : OA} {n : Nat} {L : Ll} (h : kE A w a n L) : ch w a n L :=
 ⟨h.len,h.pl,h.max,λi hi=>by obtain ⟨b,m,c,h1,h2,_⟩:=h.cell i hi;exact ⟨b,m,c,h1,h2⟩⟩
theorem kE.bQ {A A' : Nat->Prop} {w w' : World} {a : OA} {n : Nat} {L : Ll} (h : kE A w a n L) (hM : aA w w' A A') : kE A w' a n L :=
 ⟨h.len,h.pl,h.max,h.no,λi hi=>by obtain ⟨b,m,c,h1,h2,h3⟩:=h.cell i hi;exact ⟨b,m,c,hM.cell h1 (h.no (by omega)),h2.bQ hM h3,h3⟩⟩
theorem kE.aa {A : Nat->Prop} {w w' : World} {a : OA} {n : Nat} {L : Ll} (h : kE A w a n L) (hb : NS w w') : kE A w' a n L:=h.bQ (Nn hb A)
variable {w : World} {b : Nat} {G : cW}
end
def dK : Lz->Lz->Int
 | [],[]=>0
 | [],_ :: _=>-1
 | _ :: _,[]=>1
 | x :: a,y :: b=>if x<y then -1 else if y<x then 1 else dK a b
theorem n8 (x : Int) (w : World) : Calls prog 247 #[.int .i64 x] w λe w'=>e = .returned (.bool false)/\w=w':=by go_enter func247,ntmps247;go_wp2;go_ret;exact ⟨by simp,rfl⟩
def sA (x y : Int) : Int:=if x<y then -1 else if y<x then 1 else 0
theorem rq (x y : Int) (w : World) : Calls prog 258 #[.int .i64 x,.int .i64 y] w λe w'=>e = .returned (.int .i64 (sA x y))/\w=w':=by
 obtain ⟨r,hr⟩ : ∃r,sA x y=r:=⟨_,rfl⟩
 rw [hr];go_enter func258,ntmps258;unfold sA at hr;by_cases h1 : x<y
 ·have d1 : decide (x<y)=true:=by simpa using h1
  rw [I6 h1] at hr;clear h1;go_wp2_with (go_at_call 247;refine (n8 _ _).mono ?_;rintro e w' ⟨rfl,rfl⟩);go_ret;exact ⟨by rw [<- hr];rfl,rfl⟩
 ·have d1 : decide (x<y)=false:=by simpa using h1
  rw [I5 h1] at hr;by_cases h2 : y<x
  ·have d2 : decide (y<x)=true:=by simpa using h2
   rw [I6 h2] at hr;clear h1 h2;go_wp2_with (go_at_call 247;refine (n8 _ _).mono ?_;rintro e w' ⟨rfl,rfl⟩);go_ret;exact ⟨by rw [<- hr];rfl,rfl⟩
  ·have d2 : decide (y<x)=false:=by simpa using h2
   rw [I5 h2] at hr;clear h1 h2;go_wp2_with (go_at_call 247;refine (n8 _ _).mono ?_;rintro e w' ⟨rfl,rfl⟩);go_ret;exact ⟨by rw [<- hr];rfl,rfl⟩
theorem AW : ∀ {a b : Lz} {k : Nat},(∀j,j<k->nth a j=nth b j)->k<a.length->k<b.length->sA (nth a k) (nth b k) ≠ 0->dK a b=sA (nth a k) (nth b k)
 | [],_,k,_,h,_,_=>by simp at h
 | x :: a,[],k,_,_,h,_=>by simp at h
 | x :: a,y :: b,0,_,_,_,hne=>by
  have e1 : nth (x :: a) 0=x:=rfl;have e2 : nth (y :: b) 0=y:=rfl;rw [e1,e2] at hne ⊢;rw [dK];unfold sA at hne ⊢;split
  ·rfl
  ·split
   ·rfl
   ·rename_i h1 h2;rw [I5 h1,I5 h2] at hne;exact absurd rfl hne
 | x :: a,y :: b,k+1,h0,ha,hb,hne=>by
  have e : x=y:=by simpa [nth] using h0 0 (by omega)
  rw [dK,I5 (by omega),I5 (by omega)];have h1:=AW (a:=a) (b:=b) (k:=k) (λj hj=>by simpa [nth] using h0 (j+1) (by omega)) (by simpa using ha) (by simpa using hb) (by simpa [nth] using hne);simpa [nth] using h1
theorem p6 : ∀ {a b : Lz} {k : Nat},(∀j,j<k->nth a j=nth b j)->(k=a.length\/k=b.length)->k<=a.length->k<=b.length->dK a b=if a.length<b.length then -1 else if b.length<a.length then 1 else 0
 | [],[],_,_,_,_,_=>by simp [dK]
 | [],y :: b,_,_,_,_,_=>by simp [dK]
 | x :: a,[],_,_,_,_,_=>by simp [dK]
 | x :: a,y :: b,0,_,h,_,_=>by simp at h
 | x :: a,y :: b,k+1,h0,h,ha,hb=>by
  have e : x=y:=by simpa [nth] using h0 0 (by omega)
  rw [dK,I5 (by omega),I5 (by omega)];have h1:=p6 (a:=a) (b:=b) (k:=k) (λj hj=>by simpa [nth] using h0 (j+1) (by omega)) (by simpa using h) (by simpa using ha) (by simpa using hb);rw [h1];simp
theorem yq (a : OA) (n c : Nat) (l : Lz) (a2 : OA) (n2 c2 : Nat) (l2 : Lz) (w : World) (hi : Ints w a n l) (hi2 : Ints w a2 n2 l2) :
  Calls prog 220 #[.slice a n c,.slice a2 n2 c2] w λe w'=>e = .returned (.int .i64 (dK l l2))/\w=w':=by
 have Hl:=Z5 hi.len;have Hl2:=Z5 hi2.len;have hpl:=hi.pl;have hpl2:=hi2.pl;have hmax:=hi.max;have hmax2:=hi2.max;unfold maxLen at hmax hmax2;go_enter func220,ntmps220;go_wp2_with fail;go_loop [11] (λiv=>∃k : Nat,k<=n/\k<=n2/\iv = .int .i64 k/\Hid (∀j,j<k->nth l j=nth l2 j)) (λiv=>n - (intOf iv).toNat);case atStart=>exact ⟨0,I7 _,I7 _,rfl,λj hj=>by omega⟩
 case round =>
  obtain ⟨k,hk,hk2,rfl,hall⟩:=hrel
  by_cases hlt : k<n
  ·have ck:=hi.cell k hlt
   by_cases hlt2 : k<n2
   ·have ck2:=hi2.cell k hlt2
    have hge : decide ((n2 : Int)<=(k : Int))=false:=by simp;omega
    by_cases he : sA (nth l k) (nth l2 k)=0
    ·have hEq : Hid (nth l k=nth l2 k):=by
      show _=_;unfold sA at he;split at he
      ·omega
      ·split at he
       ·omega
       ·omega
     have hc:=rq (nth l k) (nth l2 k)
     rw [he] at hc
     have Hc:=Z5 hc
     clear he hc
     go_wp2_with (go_at_call 258;refine (Hc.out _).mono ?_;rintro e w' ⟨rfl,rfl⟩)
     go_round
     case rel=>exact ⟨k+1,by omega,by omega,by go_num,λj hj=>by
      rcases JV j k with h | h
      ·exact hall.out j h
      ·rw [show j=k by omega];exact hEq.out⟩
     case measure=>simp [intOf] <;> omega
    ·have Hv:=Z5 (AW hall.out (by rw [Hl.out];exact hlt) (by rw [Hl2.out];exact hlt2) he)
     have Hc:=Z5 (rq (nth l k) (nth l2 k))
     have hne : (sA (nth l k) (nth l2 k) != 0)=true:=by simpa using he
     clear he
     generalize sA (nth l k) (nth l2 k)=r at *
     go_wp2_with (go_at_call 258;refine (Hc.out _).mono ?_;rintro e w' ⟨rfl,rfl⟩)
     go_ret
     exact ⟨aH Hv.out.symm,rfl⟩
   ·have hge : decide ((n2 : Int)<=(k : Int))=true:=by simp;omega
    have Hv : Hid (dK l l2=1):=by show _=_;rw [p6 hall.out (.inr (by rw [Hl2.out];omega)) (by rw [Hl.out];exact hk) (by rw [Hl2.out];exact hk2),Hl.out,Hl2.out,I5 (by omega),I6 (by omega)]
    go_wp2_with fail
    go_ret
    exact ⟨aH Hv.out.symm,rfl⟩
  ·have Hv : Hid (dK l l2=if n<n2 then -1 else 0):=by show _=_;rw [p6 hall.out (.inl (by rw [Hl.out];omega)) (by rw [Hl.out];exact hk) (by rw [Hl2.out];exact hk2),Hl.out,Hl2.out,I5 (show ¬ n2<n by omega)]
   obtain rfl : k=n:=by omega
   by_cases h2 : k<n2
   ·rw [I6 h2] at Hv
    go_wp2_with fail
    go_ret
    exact ⟨aH Hv.out.symm,rfl⟩
   ·rw [I5 h2] at Hv
    go_wp2_with fail
    go_ret
    exact ⟨aH Hv.out.symm,rfl⟩
section
variable {O : aS} {El : Int->Prop} {m : Nat} {A B L : Ll}
theorem RS.IN (F : dw O El) (hL : cw El m L) {f : Nat->Int} (h : RS O El m L f) : ∃v,Vc El L.length v/\∀x,x<m->f x=nth (bw O m v L L.length) x:=by
 obtain ⟨e,he,h2⟩:=h;obtain ⟨c,hc⟩ : ∃c,((List.range L.length).map λt=>e (ez L.length t))=c:=⟨_,rfl⟩
 have hcl : c.length=L.length:=by rw [<- hc];simp
 have hcn : ∀t,t<L.length->nth c t=e (ez L.length t):=λt ht=>by rw [<- hc,eE _ _ _ ht]
 have hcv : Vc El L.length c:=⟨hcl,λy hy=>by obtain ⟨t,ht,rfl⟩:=List.mem_iff_getElem.1 hy;rw [<- ai ht,hcn t (by omega)];exact he.el _ (lk F _ _)⟩
 refine ⟨c,hcv,λx hx=>?_⟩;rw [h2 x hx,tD F he (gu hL F.zero x),mX F hL (λk hk=>hcv.at hk) hx _ (IZ _)];exact mq _ λp hp=>⟨(hcn p hp).symm,dX _ _ _ hp⟩
end
theorem sZ {P M : Int} {mod : Lz} {m : Nat} {L : Ll} (hE : aJ P M mod m L=0) {Q : Lz} (hQ : pA m Q) (hl : Q.length=L.length) (hg : (gD (ah P M.toNat mod).ops L Q).length=Q.length)
  {v : Lz} (hvl : v.length=L.length) (hv : ∀k,k<L.length->(ah P M.toNat mod).El (nth v k)) :
  Vc (ah P M.toNat mod).El m (bw (ah P M.toNat mod).ops m v (dk (ah P M.toNat mod).ops m L Q) L.length) /\
  (∀i,i<m->nth (bu (ah P M.toNat mod).ops L (fJ (ah P M.toNat mod) L m) (bw (ah P M.toNat mod).ops m v (dk (ah P M.toNat mod).ops m L Q) L.length) L.length) i=0) /\
  aQ Q (bw (ah P M.toNat mod).ops m v (dk (ah P M.toNat mod).ops m L Q) L.length)=v:=by
 obtain ⟨N',e,hm1,hm64,F,hR⟩:=br hE;obtain rfl : m=N':=by omega
 have h6:=(dR (bl hE).2.2.2).2;rw [Jd] at h6;have hcan : iE (ah P M.toNat mod).ops m L=L:=h6;obtain ⟨hPv,_⟩:=je F hR;have hcl:=fx F hR;rw [hcan] at hPv hcl;have hform:=λi hi=>ye F hR hQ hl hg i hi;obtain ⟨hSr,hSl,hSu,_⟩:=lM hE hQ hl hg;obtain ⟨c1,c2⟩:=jc F hSr (x:=v) (λk hk=>hv k (by omega)) L.length (by omega);have hSL : iB (ah P M.toNat mod).ops (ah P M.toNat mod).El m (dk (ah P M.toNat mod).ops m L Q) L:=λi hi=>by obtain ⟨e,he,hy,_⟩:=hform i (by omega);exact ⟨e,he,hy⟩
 refine ⟨c1,xC F hR hPv hcl c1 (hSL.rs c2),?_⟩;refine fQ (by rw [hvl,<- hl];simp [aQ]) λj hj=>?_;have hj2 : j<Q.length:=by simpa [aQ] using hj
 have hqj:=hQ j hj2;rw [eX Q _ hj2,mX F hSr (λk hk=>hv k (by omega)) (by omega) _ (by omega)];have hone : ∀t,t<L.length->nth (an (dk (ah P M.toNat mod).ops m L Q) t) (nth Q j).toNat=if t=j then 1 else 0:=λt ht=>by obtain ⟨e',_,hy',hj'⟩:=hform t ht;rw [hy' _ (by omega),hj' j hj2]
 have hvj:=hv j (by omega);rw [rF F (x:=j) (by
  show (ah P M.toNat mod).El ((ah P M.toNat mod).ops.mul (nth v j) (nth (an (dk (ah P M.toNat mod).ops m L Q) j) (nth Q j).toNat));rw [hone j (by omega),I6 rfl,F.lV hvj];exact hvj) L.length (λp hp hpj=>by
  show (ah P M.toNat mod).ops.mul (nth v p) (nth (an (dk (ah P M.toNat mod).ops m L Q) p) (nth Q j).toNat)=0;rw [hone p hp,I5 hpj,F.et (hv p hp)]),I6 (by omega)]
 show (ah P M.toNat mod).ops.mul (nth v j) (nth (an (dk (ah P M.toNat mod).ops m L Q) j) (nth Q j).toNat)=_;rw [hone j (by omega),I6 rfl,F.lV hvj]
theorem CH {w : World} {b : Nat} {G : cW} (q : Nat) (x : Int) (hc : w.cell? ⟨q,0,none⟩=some (.pointer (some ⟨b,0,none⟩))) (h : dT w b G) :
  Calls prog 137 #[.int .i64 x,.pointer (some ⟨q,0,none⟩)] w λe w'=>e = .returned (.bool (!(decide (0<=x) && decide (x<G.q))))/\w=w':=by
 go_enter func137,ntmps137;go_wp2_with fail;refine (It x h).mono ?_;rintro e w' ⟨rfl,rfl⟩;obtain ⟨z,hz⟩ : ∃z,(decide (0<=x) && decide (x<G.q))=z:=⟨_,rfl⟩
 have Hz:=Z5 hz;rw [hz];clear hz;cases z
 ·go_wp2_with fail;go_ret;exact ⟨bd (by rw [Hz.out];rfl),rfl⟩
 ·go_wp2_with fail;go_ret;exact ⟨bd (by rw [Hz.out];rfl),rfl⟩
theorem xc (p : Int->Bool) (q : Nat) (a : OA) (n c : Nat) (l : Lz) (w : World) (hi : Ints w a n l) (hf : ∀k,k<n->Calls prog 137 #[.int .i64 (nth l k),.pointer (some ⟨q,0,none⟩)] w λe w'=>e = .returned (.bool (p (nth l k)))/\w=w') :
  Calls prog 97 #[.slice a n c,.func (.func 137) #[] #[.pointer (some ⟨q,0,none⟩)]] w λe w'=>∃z : Int,e = .returned (.int .i64 z)/\(0<=z ↔ l.any p=true)/\w=w':=by
 have hpl:=hi.pl;have hmax:=hi.max;have HF:=Z5 hf;have Hl:=Z5 hi.len;unfold maxLen at hmax;clear hf;go_enter func97,ntmps97;go_wp2_with fail;go_loop [8] (λiv=>∃k : Nat,k<=n/\iv = .int .i64 k/\Hid (∀j,j<k->p (nth l j)=false)) (λiv=>n - (intOf iv).toNat);case atStart=>exact ⟨0,I7 _,rfl,λj hj=>by omega⟩
 case round =>
  obtain ⟨k,hk,rfl,hno⟩:=hrel
  by_cases hlt : k<n
  ·have ck:=hi.cell k hlt
   have hfk:=HF.out k hlt
   obtain ⟨z,hz⟩ : ∃z,p (nth l k)=z:=⟨_,rfl⟩
   rw [hz] at hfk
   have Hk:=Z5 hfk
   cases z
   ·have Hn : Hid (∀j,j<k+1->p (nth l j)=false):=λj hj=>by
     by_cases e : j=k
     ·subst e;exact hz
     ·exact hno.out j (by omega)
    clear hz hfk hno
    go_wp2_with fail
    refine Hk.out.mono ?_
    rintro e w' ⟨rfl,rfl⟩
    go_wp2_with fail
    go_round
    case rel=>exact ⟨k+1,by omega,by go_num,Hn.out⟩
    case measure=>simp [intOf] <;> omega
   ·have Hy : Hid (l.any p=true):=by show _=_;rw [Md];exact ⟨nth l k,aK (by rw [Hl.out];exact hlt),hz⟩
    clear hz hfk hno
    go_wp2_with fail
    refine Hk.out.mono ?_
    rintro e w' ⟨rfl,rfl⟩
    go_wp2_with fail
    go_ret
    exact ⟨k,rfl,⟨λ_=>by first | exact Hy.out | exact List.any_eq_true.1 Hy.out,λ_=>LQ _⟩,rfl⟩
  ·obtain rfl : k=n:=by omega
   have Hy : Hid (l.any p=false):=by show _=_;rw [MR];intro x hx;obtain ⟨j,hj,rfl⟩:=List.mem_iff_getElem.1 hx;have:=hno.out j (by rw [<- Hl.out];exact hj);rw [ai hj] at this;rw [this];decide
   go_wp2_with fail
   go_ret
   exact ⟨-1,rfl,⟨λh=>absurd h (by omega),λh=>by have h2 : l.any p=true:=(by first | exact h | exact List.any_eq_true.2 h);rw [Hy.out] at h2;exact absurd h2 (by decide)⟩,rfl⟩
theorem qB (p : Int->Bool) (q : Nat) (a : OA) (n c : Nat) (l : Lz) (w : World) (hi : Ints w a n l) (hf : ∀k,k<n->Calls prog 137 #[.int .i64 (nth l k),.pointer (some ⟨q,0,none⟩)] w λe w'=>e = .returned (.bool (p (nth l k)))/\w=w') :
  Calls prog 136 #[.slice a n c,.func (.func 137) #[] #[.pointer (some ⟨q,0,none⟩)]] w λe w'=>e = .returned (.bool (l.any p))/\w=w':=by
 have Hc:=Z5 (xc p q a n c l w hi hf);clear hf;go_enter func136,ntmps136;go_wp2_with fail;refine Hc.out.mono ?_;rintro e w' ⟨z,rfl,hz,rfl⟩;by_cases h0 : 0<=z
 ·have Hz : Hid (l.any p=true):=hz.1 h0;have h0' : decide (0<=z)=true:=by simpa using h0
  clear hz h0;go_wp2_with fail;go_ret;exact ⟨bd Hz.out.symm,rfl⟩
 ·have Hz : Hid (l.any p=false):=by
   show _=_;cases h : l.any p
   ·rfl
   ·exact absurd (hz.2 h) h0
  have h0' : decide (0<=z)=false:=by simpa using h0
  clear hz h0;go_wp2_with fail;go_ret;exact ⟨bd Hz.out.symm,rfl⟩
theorem Fz (q : Int) (l : Lz) : l.any (λx=>!(decide (0<=x) && decide (x<q))) = !(iM q l):=by
 unfold iM;induction l with
 | nil=>rfl
 | cons x l ih =>
  rw [List.any_cons,L8,ih]
  unfold jj
  cases (decide (0<=x) && decide (x<q)) <;> simp
theorem rY (P M : Int) (am : OA) (mn cm : Nat) (mod : Lz) (ax : OA) (nx cx : Nat) (x : Lz) (n : Nat) (w : World) (hmod : Ints w am mn mod) (hx : Ints w ax nx x) (hB : bp P M mod=true) :
  Calls prog 71 #[.agg #[.int .i64 P,.int .i64 M,.slice am mn cm],.slice ax nx cx,.int .i64 n] w λe w'=>e = .returned (.int .i64 (rj (ah P M.toNat mod).q x n))/\NS w w':=by
 have hxl:=hx.len;go_enter func71,ntmps71;go_upto_region 1 with fail;obtain ⟨W,hW⟩ : ∃W : World,W=w.alloc (.cells #[.int .i64 P,.int .i64 M,.slice am mn cm] 24):=⟨_,rfl⟩
 rw [<- hW];have hbW : NS w W:=by rw [hW];exact aw _ _
 have x0 : aZ W w.heap.size [.int .i64 P,.int .i64 M,.slice am mn cm]:=by rw [hW];exact Nj _ _ _ rfl
 have c0:=x0.cell 0 rfl;have c1:=x0.cell 1 rfl;have c2:=x0.cell 2 rfl;clear hW x0;by_cases hnx : nx=n;rotate_left
 ·have hnn : ((nx : Int) != n)=true:=by simp;omega
  have HL : Hid (rj (ah P M.toNat mod).q x n=4):=by show _=_;rw [rj,I5 (by omega)]
  clear hnx hxl;go_wp2_with fail;go_ret;exact ⟨aH HL.out.symm,hbW⟩
 obtain rfl : nx=n:=hnx;have hnn : ((nx : Int) != nx)=false:=by simp
 have HL : Hid (rj (ah P M.toNat mod).q x nx=if iM (ah P M.toNat mod).q x=true then 0 else 2):=by show _=_;rw [rj,I6 hxl];rfl
 clear hxl;go_wp2_with fail;refine (fG P M am mn cm mod W (hmod.aa hbW)).mono ?_;rintro e w4 (⟨hB2,_,_⟩ | ⟨_,b,rfl,hG,hbl,hb4⟩)
 ·rw [hB] at hB2;cases hB2
 have hbw4:=Nh hbW hb4;have hb5:=aw w4 (.cells #[.pointer (some ⟨b,0,none⟩)] 95);have hc5:=bk w4 (.pointer (some ⟨b,0,none⟩)) 95;have hcc:=qB (λy=>!(decide (0<=y) && decide (y<(ah P M.toNat mod).q))) w4.heap.size ax nx cx x _ (hx.aa (Nh hbw4 hb5)) λk hk=>CH w4.heap.size (nth x k) hc5 (hG.gf.aa hb5);rw [Fz] at hcc;obtain ⟨z,hz⟩ : ∃z,iM (ah P M.toNat mod).q x=z:=⟨_,rfl⟩
 rw [hz] at hcc HL;have Hc:=Z5 hcc;have hF:=Nh hbw4 hb5;have HF:=Z5 hF;clear c0 c1 c2 hG hbl hB hF hcc hz;cases z
 ·have HL2 : Hid (rj (ah P M.toNat mod).q x nx=2):=by show _=_;rw [HL.out];rfl
  go_wp2_with fail;refine Hc.out.mono ?_;rintro e w' ⟨rfl,rfl⟩;go_wp2_with fail;go_ret;exact ⟨aH HL2.out.symm,HF.out⟩
 ·have HL2 : Hid (rj (ah P M.toNat mod).q x nx=0):=by show _=_;rw [HL.out];rfl
  go_wp2_with fail;refine Hc.out.mono ?_;rintro e w' ⟨rfl,rfl⟩;go_wp2_with fail;go_ret;exact ⟨aH HL2.out.symm,HF.out⟩
theorem fP (a : OA) (n c : Nat) (l : Lz) (w : World) (h : Ints w a n l) :
  Calls prog 20 #[.slice a n c] w λe w'=>e = .returned (.int .i64 (bK l))/\w'=w:=by
 have Hl:=Z5 h.len;have hpl:=h.pl;have hmax:=h.max;unfold maxLen at hmax;have hle : ∀k,k<=n->(bK (l.take k) : Int)<=k:=λk hk=>by have h1 : bK (l.take k)<=(l.take k).length:=Kd;rw [Jy] at h1;omega
 have Hle:=Z5 hle;have HT : Hid (bK (l.take n)=bK l):=by show _=_;rw [I8 (by rw [Hl.out];exact IZ _)]
 clear hle;go_enter func20,ntmps20;go_wp2_with fail;go_loopw [3,4] (λcv iv wr=>∃k : Nat,k<=n/\iv = .int .i64 k/\cv = .int .i64 (bK (l.take k))/\wr=w) (λ_ iv _=>n - (intOf iv).toNat);case atStart=>exact ⟨0,I7 _,rfl,by simp [bK],rfl⟩
 case round =>
  obtain ⟨k,hk,rfl,rfl,rfl⟩:=hrel
  by_cases hlt : k<n
  ·have ck:=h.cell k hlt
   have hkl : k<l.length:=by rw [Hl.out];exact hlt
   have hst : bK (l.take (k+1))=bK (l.take k)+(if nth l k ≠ 0 then 1 else 0):=by unfold bK;rw [Ja hkl,KL,KR,ai hkl];simp
   have hb:=Hle.out k hk
   obtain ⟨t,ht⟩ : ∃t,bK (l.take k)=t:=⟨_,rfl⟩
   obtain ⟨y,hy⟩ : ∃y,nth l k=y:=⟨_,rfl⟩
   rw [ht] at hst hb ⊢
   rw [hy] at hst ck
   clear ht hy hkl
   by_cases h0 : y=0
   ·have hd : (y != 0)=false:=by simpa using h0
    have Hst : Hid (bK (l.take (k+1))=t):=by show _=_;rw [hst,I5 (by simpa using h0)];rfl
    clear h0 hst
    go_wp2_with fail
    go_roundw
    case rel=>exact ⟨k+1,by omega,by go_num,by rw [Hst.out],by simp⟩
    case measure=>simp [intOf] <;> omega
   ·have hd : (y != 0)=true:=by simpa using h0
    have Hst : Hid (bK (l.take (k+1))=t+1):=by show _=_;rw [hst,I6 h0]
    clear h0 hst
    go_wp2_with fail
    go_roundw
    case rel=>exact ⟨k+1,by omega,by go_num,by rw [Hst.out];go_num,by simp⟩
    case measure=>simp [intOf] <;> omega
  ·obtain rfl : k=n:=by omega
   rw [HT.out]
   go_wp2_with fail
   go_ret
   exact ⟨rfl,rfl⟩
section
variable {w : World} {b : Nat} {G : cW}
end
structure IV (V : World) (b : Nat) (G : cW) (Bc Bo Bf Bg n : Nat) (ao : OA) (n2 co : Nat) : Prop where
 cn : V.cell? ⟨Bc,3,none⟩=some (.int .i64 n)
 out : V.cell? ⟨Bo,0,none⟩=some (.slice ao n2 co)
 fr : V.cell? ⟨Bf,0,none⟩=some (.func (.func 218) #[] #[.pointer (some ⟨Bc,0,none⟩),.pointer (some ⟨Bo,0,none⟩),.pointer (some ⟨Bf,0,none⟩),.pointer (some ⟨Bg,0,none⟩)])
 gp : V.cell? ⟨Bg,0,none⟩=some (.pointer (some ⟨b,0,none⟩))
 gf : dT V b G
theorem aA.GC (w : World) {I : Nat->Prop} {p : Addr} (hB : I p.block) (v : Value) : aA w (w.setCell p v) I I:=by have hb0 : Below 0 w (w.setCell p v):=(I1 0 w).setCell (I7 _) v;exact ⟨hb0.os,hb0.tape,hb0.output,hb0.size,λb hb hI=>Jr _ _ _ _ λe=>hI (e ▸ hB),λb hb=>.inl hb⟩
theorem vF {P M : Int} {mod : Lz} {m : Nat} {L : Ll} (hE : aJ P M mod m L=0) : L.length<=m:=by obtain ⟨_,_,_,h4⟩:=bl hE;obtain ⟨_,h6⟩:=dR h4;rw [Jd] at h6;rw [<- h6,wh];exact (jd _ _ _).1
section
open Go.RowKit
end
section
open Go.RowKit
end
section
open Go.RowKit
end
theorem DR {m : Nat} {U : Lz} {z : Int} (hz : 0<=z/\z<(m : Int)) : decide (z ∈ bz false U m)=decide (¬ z ∈ U):=by
 have h : z ∈ bz false U m ↔ ¬ z ∈ U:=by
  rw [ew];constructor
  ·rintro ⟨j,_,rfl,h⟩;simpa using h
  ·intro h;refine ⟨z.toNat,by omega,by omega,?_⟩;rw [show ((z.toNat : Nat) : Int)=z by omega];simpa using h
 simp [h]
theorem sI (P M : Int) (am : OA) (mn cm : Nat) (mod : Lz) (N : Int) (a : OA) (n c : Nat) (L : Ll) (w : World) (hmod : Ints w am mn mod) (hi : ch w a n L) :
  Calls prog 48 #[.agg #[.int .i64 P,.int .i64 M,.slice am mn cm,.int .i64 N,.slice a n c]] w (ko P M mod N L w):=by
 have HCk:=Z5 (λV (hV : NS w V)=>gH P M am mn cm mod N a n c L V (hmod.aa hV) (hi.aa hV));go_enter func48,ntmps48;go_wp2_with fail;obtain ⟨W,hW⟩ : ∃W : World,W=w.alloc (.cells #[.int .i64 P,.int .i64 M,.slice am mn cm,.int .i64 N,.slice a n c] 27):=⟨_,rfl⟩
 rw [<- hW];have hbW : NS w W:=by rw [hW];exact aw _ _
 have x0 : aZ W w.heap.size [.int .i64 P,.int .i64 M,.slice am mn cm,.int .i64 N,.slice a n c]:=by rw [hW];exact Nj _ _ _ rfl
 have HX:=Z5 x0;have HbW:=Z5 hbW;have Hc:=Z5 (HCk.out W hbW);clear hW x0 HCk;refine Hc.out.mono ?_;rintro e w1 ⟨rfl,hb1⟩;have hbw1:=Nh hbW hb1;clear Hc;by_cases hE : aJ P M mod N L=0;rotate_left
 ·have HP : Hid (ko P M mod N L w (.returned (.tuple #[.slice none 0 0,.int .i64 (aJ P M mod N L)])) w1):=⟨hbw1,.inl ⟨hE,rfl⟩⟩
  have hE2 : (aJ P M mod N L != 0)=true:=by simpa using hE
  clear hE;generalize aJ P M mod N L=er at *;go_wp2_with fail;go_ret2;exact HP.out
 obtain ⟨m,hm,hm1,hm64,hL256,hR⟩:=dP hE;subst hm;have HP : Hid (∀k a' c' R T w',T=eo (ah P M.toNat mod).ops L m->NS w w'->oJ w' w.heap.size a' k c' R T->ko P M mod m L w (.returned (.tuple #[.slice a' k c',.int .i64 0])) w'):=λk a' c' R T w' h1 h2 h3 =>
  ⟨h2,.inr ⟨hE,m,rfl,k,a',c',R,T,h1,rfl,h3⟩⟩
 have HPk0 : Hid (∀V aq cq U,NS w V->Ints V aq m (eB m U)->Calls prog 104 #[.agg #[.int .i64 P,.int .i64 M,.slice am mn cm],.slice a n c,.slice aq m cq,.int .i64 m] V λe w' =>
   ∃a1 c1,e = .returned (.slice a1 (cG (ah P M.toNat mod).ops L m U).length c1)/\w'.ownsRow V.heap.size 3 1 (.slice a1 (cG (ah P M.toNat mod).ops L m U).length c1) (cG (ah P M.toNat mod).ops L m U).length ((bA (cG (ah P M.toNat mod).ops L m U)).map (Value.int .i64))/\NS V w'):=λV aq cq U hV hq=>by have h:=o5 P M am mn cm mod m a n c L aq m cq (eB m U) m V (hmod.aa hV) (hi.aa hV) hq hE (AZ m U) (by omega);have e:=GK (Q:=eB m U) hE (by rw [kN];exact IZ _);rw [kN] at e;rw [e] at h;exact h
 have Hcl : Hid (∀U,(cG (ah P M.toNat mod).ops L m U).length<=m):=λU=>by have:=AQ (ah P M.toNat mod).ops L (eB m U);rw [kN] at this;exact this
 obtain ⟨O,hO⟩ : ∃O,(ah P M.toNat mod).ops=O:=⟨_,rfl⟩
 rw [hO] at HP HPk0 Hcl;have HC : Hid (∀V,NS w1 V->V.cell? ⟨w.heap.size,0,none⟩=some (.int .i64 P)/\V.cell? ⟨w.heap.size,1,none⟩=some (.int .i64 M)/\V.cell? ⟨w.heap.size,2,none⟩=some (.slice am mn cm)/\V.cell? ⟨w.heap.size,3,none⟩=some (.int .i64 m)/\V.cell? ⟨w.heap.size,4,none⟩=some (.slice a n c)):=λV hV=>by have x1:=HX.out.aa (Nh hb1 hV);exact ⟨x1.cell 0 rfl,x1.cell 1 rfl,x1.cell 2 rfl,x1.cell 3 rfl,x1.cell 4 rfl⟩
 have Hbw1:=Z5 hbw1;have hO0:=oJ.start w1 w1.heap.size;rw [hE];clear hE hR hO hL256 hmod hi hbw1 hb1 hbW;go_wp2_with fail;go_loopw [5,6] (λov uv wr=>∃(k : Nat) (T : List (Lz × Int)) (ao : OA) (co : Nat) (R : La) (U : Lz) (au : OA) (cu : Nat),k<=m/\ov = .slice ao k co/\uv = .slice au U.length cu/\oJ wr w1.heap.size ao k co R T /\
   wr.ownsRow w1.heap.size 3 1 (.slice au U.length cu) U.length (U.map (Value.int .i64))/\Hid ((ao ≠ none->cJ au (aj ao))/\(∀r ∈ R,r.1 ≠ none->cJ au (aj r.1)))/\NS w1 wr/\Hid (eo O L m=ga O L m (m+1 - k) U T) /\
   k+(bz false U m).length<=m/\Hid (U.Nodup/\∀x ∈ U,0<=x/\x<(m : Int))) (λov _ _=>m+1 - Fw ov)
 case atStart=>exact ⟨0,[],none,0,[],[],none,0,I7 _,rfl,rfl,hO0,bX,⟨λh=>absurd rfl h,λr hr=>by simp at hr⟩,I1 _ _,rfl,by have:=gk false [] m;omega,⟨List.nodup_nil,λx hx=>by simp at hx⟩⟩
 case round =>
  clear hO0
  obtain ⟨k,T,ao,co,R,U,au,cu,hk,rfl,rfl,hOS,hU,hsep,hbr,hfam,hfr,hUn⟩:=hrel
  generalize wr=V0 at *
  have hUl:=jf hUn.out.1 hUn.out.2
  have hfl:=qn U m
  have hus:=tw hUn.out.1 hUn.out.2
  have hfresh:=λz hz=>DR (m:=m) (U:=U) (z:=z) hz
  have hord : bz false U m ++ bA U=eB m U:=by rw [eB,hus]
  have hul2 : (bz false U m).length+U.length=m:=by rw [<- hus,dy] at hfl;exact hfl
  have Hord:=Z5 hord
  have Hfresh:=Z5 hfresh
  obtain ⟨Un,hUnn⟩ : ∃Un,U.length=Un:=⟨_,rfl⟩
  have HUl:=Z5 hUnn
  rw [hUnn] at hU hUl hul2 ⊢
  have hIU:=(Ni hU).1
  have hot:=mf au Un cu U m V0 hIU (by omega)
  have hfr2:=hfr
  obtain ⟨f,hf⟩ : ∃f,bz false U m=f:=⟨_,rfl⟩
  rw [hf] at hot Hord Hfresh hul2 hfr2
  obtain ⟨g,hg⟩ : ∃g,f.length=g:=⟨_,rfl⟩
  rw [hg] at hot hul2 hfr2
  have Hg:=Z5 hg
  have Hot:=Z5 hot
  have Hul2:=Z5 hul2
  have hg64 : g<=64:=by omega
  have hUn64 : Un<=64:=by omega
  obtain ⟨_,_,_,c3,_⟩:=HC.out V0 hbr
  clear hf hg hot hUnn hfl hus hfresh hord hul2 hUl
  go_wp2_with fail
  refine Hot.out.mono ?_
  rintro e V1 ⟨af,cf,rfl,hownf,hb01⟩
  have hbV1:=Nh hbr hb01
  have hIf:=(Ni hownf).1
  have hplf:=hIf.pl
  have HIf:=Z5 hIf
  have hSl:=Hcl.out U
  have hfam2 : dn U (cG O L m U) (cG O L m U).length=0->eo O L m=T:=λh=>by rw [hfam.out,show m+1 - k=m - k+1 by omega,ga,I6 h]
  have hfam3 : dn U (cG O L m U) (cG O L m U).length ≠ 0->eo O L m=ga O L m (m - k) (U ++ bA (cG O L m U)) (T ++ [(bA (cG O L m U),dn U (cG O L m U) (cG O L m U).length)]):=λh=>by rw [hfam.out,show m+1 - k=m - k+1 by omega,ga,I5 h]
  have hless : dn U (cG O L m U) (cG O L m U).length ≠ 0->(bz false (U ++ bA (cG O L m U)) m).length<(bz false U m).length:=λh=>qE h
  have hSin : ∀x ∈ bA (cG O L m U),0<=x/\x<(m : Int):=λx hx=>by obtain ⟨j,hj,rfl⟩:=AP ((dc _).mem_iff.1 hx);omega
  have hso:=CC U (cG O L m U)
  have hSs:=dy (cG O L m U)
  have hPk:=λV aq cq=>HPk0.out V aq cq U
  obtain ⟨Sn,hSn⟩ : ∃Sn,(cG O L m U).length=Sn:=⟨_,rfl⟩
  rw [hSn] at hfam2 hfam3 hless hSl hso hSs hPk
  rw [<- hso] at hfam2 hfam3 hless
  obtain ⟨S,hS⟩ : ∃S,bA (cG O L m U)=S:=⟨_,rfl⟩
  rw [hS] at hfam2 hfam3 hless hSin hSs hPk
  have Hfam2:=Z5 hfam2
  have Hfam3:=Z5 hfam3
  have Hless:=Z5 hless
  have HSin:=Z5 hSin
  have HSs:=Z5 hSs
  have hbw:=Nh Hbw1.out hbV1
  have HPk : Hid (∀V a5 c5,NS V1 V->V.ownsRow V1.heap.size 3 1 (.slice a5 (g+Un) c5) (g+Un) (f.map (Value.int .i64) ++ (bA U).map (Value.int .i64))->∀V2,NS V V2 ->
    Calls prog 104 #[.agg #[.int .i64 P,.int .i64 M,.slice am mn cm],.slice a n c,.slice a5 (g+Un) c5,.int .i64 m] V2 λe w'=>∃a1 c1,e = .returned (.slice a1 Sn c1)/\w'.ownsRow V2.heap.size 3 1 (.slice a1 Sn c1) Sn (S.map (Value.int .i64))/\NS V2 w'):=λV a5 c5 hV ho V2 hV2=>by rw [<- JR,Hord.out,Hul2.out] at ho;rw [Hul2.out];exact hPk V2 a5 c5 (Nh hbw (Nh hV hV2)) ((Ni ho).1.aa hV2)
  have HSo : Hid (∀V,NS V1 V->Calls prog 105 #[.slice au Un cu] V λe w'=>∃a6 c6,e = .returned (.slice a6 Un c6)/\Ints w' a6 Un (bA U)/\(0<Un->V.heap.size<=aj a6)/\NS V w'):=λV hV=>by refine (j9 au Un cu U V (hIU.aa (Nh hb01 hV)) (by omega)).mono ?_;rintro e w' ⟨a6,c6,rfl,ho,hb⟩;exact ⟨a6,c6,rfl,(Ni ho).1,λh=>(fB ho h).1,hb⟩
  have HS : Hid (∀V,NS V1 V->V.cell? ⟨w.heap.size,0,none⟩=some (.int .i64 P)/\V.cell? ⟨w.heap.size,1,none⟩=some (.int .i64 M)/\V.cell? ⟨w.heap.size,2,none⟩=some (.slice am mn cm)/\V.cell? ⟨w.heap.size,3,none⟩=some (.int .i64 m)/\V.cell? ⟨w.heap.size,4,none⟩=some (.slice a n c)/\Ints V af g f/\NS V1 V):=λV hV=>by obtain ⟨d0,d1,d2,d3,d4⟩:=HC.out V (Nh hbV1 hV);exact ⟨d0,d1,d2,d3,d4,HIf.out.aa hV,hV⟩
  have hsl : (bA U).length=Un:=by rw [dy];exact HUl.out
  have hgl:=Hg.out
  have HOS:=Z5 (Jg hOS hU)
  have Hb01:=Z5 (Jg hb01 hbV1)
  clear hS hSn hfam2 hfam3 hless hSin hSs hso hPk HPk0 hIf hownf hIU hOS hU hb01 hbV1 hbr hbw c3 Hot hfam
  go_wp2_with fail
  go_cut [8] (λv wx=>∃a1 c1,v = .slice a1 Sn c1/\wx.ownsRow V1.heap.size 3 1 (.slice a1 Sn c1) Sn (S.map (Value.int .i64))/\NS V1 wx)
  case first =>
   have hO:=ff V1 3
   go_region_held3 (λV=>V.cell? ⟨w.heap.size,0,none⟩=some (.int .i64 P)/\V.cell? ⟨w.heap.size,1,none⟩=some (.int .i64 M)/\V.cell? ⟨w.heap.size,2,none⟩=some (.slice am mn cm)/\V.cell? ⟨w.heap.size,3,none⟩=some (.int .i64 m)/\V.cell? ⟨w.heap.size,4,none⟩=some (.slice a n c)/\Ints V af g f/\NS V1 V)
    ((refine HS.out _ ?_;first | exact (I1 _ _).drew | exact hb8 | exact hb5 | exact hb4 | exact hb6 | exact Nl hb6 _ | exact Nl hb4 _ | exact ((I1 _ _).alloc (IZ _) _).drew | (go_split_ands;exact Nl (by assumption) _)))
    (first
     | (go_at_call 105;((with_reducible refine (HSo.out _ (by go_split_ands;assumption)).mono ?_);rintro e w6 ⟨a6,c6,rfl,hI6,hne6,hb6'⟩;have hb6 : NS V1 w6:=(by go_split_ands;exact Nh (by assumption) hb6');have hOs:=aU (ff w6 3) hb6.size;have hpl6:=hI6.pl;(first | (have hOc:=aX hO hb6') | skip);(first | (have hown4:=aX hown4 hb6';have hb4:=hb6) | skip)))
     | (obtain ⟨_,_,_,_,_,hI9,hB9⟩:=(by assumption : _/\_/\_/\_/\_/\Ints _ af g f/\NS V1 _);refine bH (by rfl) (.tmp 25) (.tmp 26) 22 3 (by rfl) (.int .i64 0) 8 underlying22 ba (by rfl) V1.heap.size _ 0 0 [] (by rfl) (by first | exact hO | exact hO.alloc _ | exact hOs | exact hOc) af g cf (f.map (Value.int .i64)) (by rfl) hplf (by simp [hgl]) (Np hI9) (ints_oneCell _ _) (by omega) (by unfold maxLen;omega) (J7 hB9) ?_;intro a4 c4 w4 hown4 hgr4 hap4;have hb4 : NS V1 w4:=Nk (B:=V1.heap.size) (e:=3) (xs:=[]) hB9 (by first | exact hO | exact hO.alloc _ | exact hOs | exact hOc) hgr4 (IZ _) (J7 hB9);rw [Kk] at hown4 ⊢;rw [JL] at hown4;(first | (have hI64:=(hI6.aa (aw _ _)).nG hgr4 (λh=>.inr (by have h1:=hI6.lt h;simp [aj] at h1 ⊢;omega))) | (have hI64:=hI6.nG hgr4 (λh=>.inr (by have h1:=hne6 h;simp [aj] at h1 ⊢;omega))) | skip))
     | (refine bH (by rfl) (.tmp 27) (.tmp 29) 22 3 (by rfl) (.int .i64 0) 8 underlying22 ba (by rfl) V1.heap.size a4 g c4 (f.map (Value.int .i64)) (by rfl) (by exact hown4) a6 Un c6 ((bA U).map (Value.int .i64)) (by rfl) hpl6 (by simp [hsl]) (by first | exact Np hI64 | exact Np hI6) (ints_oneCell _ _) (by omega) (by unfold maxLen;omega) hb4.size ?_;intro a5 c5 w5 hown5 hgr5 hap5;have hb5 : NS V1 w5:=Nk hb4 hown4 hgr5 (IZ _) hb4.size;have Hr2:=Z5 (HPk.out w5 a5 c5 hb5 hown5))
     | (go_at_call 104;((with_reducible refine (Hr2.out _ (by first | exact I1 _ _ | assumption)).mono ?_);rintro e w8 ⟨a8,c8,rfl,hown8,hb8'⟩;have hb8 : NS V1 w8:=Nh hb5 hb8')))
   all_goals (go_wp2_with fail;go_meet;exact ⟨a8,c8,rfl,aU hown8 (by have:=hb5.size;simp;omega),hb8⟩)
  obtain ⟨a8,c8,rfl,hown8,hb12⟩:=hcut
  generalize wc=V2 at *
  have hbV2:=Nh Hb01.out.2 hb12
  have hIS:=(Ni hown8).1
  have hplS:=hIS.pl
  have hf2:=HIf.out.aa hb12
  go_wp2_with fail
  go_loopw [9,10] (λrv iv wr=>∃j : Nat,j<=Sn/\iv = .int .i64 j/\rv = .int .i64 (dn U S j)/\wr=V2) (λ_ iv _=>Sn - (intOf iv).toNat)
  case atStart=>exact ⟨0,I7 _,rfl,rfl,rfl⟩
  case round =>
   obtain ⟨j,hj,rfl,rfl,rfl⟩:=hrel
   by_cases hlt : j<Sn
   ·have cs:=hIS.cell j hlt
    have hjS : j<S.length:=by rw [HSs.out];exact hlt
    have hzm:=HSin.out _ (aK hjS)
    have hst : dn U S (j+1)=if nth S j ∈ U then dn U S j else dn U S j+1:=rfl
    have hbd:=lD U S j
    obtain ⟨z,hz⟩ : ∃z,nth S j=z:=⟨_,rfl⟩
    rw [hz] at cs hzm hst
    have hin:=tJ af g cf f z wr hf2
    rw [Hfresh.out z hzm] at hin
    obtain ⟨t,ht⟩ : ∃t,dn U S j=t:=⟨_,rfl⟩
    rw [ht] at hst hbd ⊢
    clear hz hjS ht
    by_cases hzU : z ∈ U
    ·rw [I6 hzU] at hst
     rw [show decide (¬ z ∈ U)=false by simpa using hzU] at hin
     have Hst:=Z5 hst
     have Hin:=Z5 hin
     clear hzU hst hin hzm
     go_wp2_with fail
     refine Hin.out.mono ?_
     rintro e w5 ⟨rfl,rfl⟩
     go_wp2_with fail
     go_roundw
     case rel=>exact ⟨j+1,by omega,by go_num,by rw [Hst.out],by simp⟩
     case measure=>simp [intOf] <;> omega
    ·rw [I5 hzU] at hst
     rw [show decide (¬ z ∈ U)=true by simpa using hzU] at hin
     have Hst:=Z5 hst
     have Hin:=Z5 hin
     have kz : IntKind.i64.wrap (t+1)=t+1:=Jj _ (by omega)
     clear hzU hst hin hzm
     go_wp2_with fail
     refine Hin.out.mono ?_
     rintro e w5 ⟨rfl,rfl⟩
     go_wp2_with fail
     go_roundw
     case rel=>exact ⟨j+1,by omega,by go_num,by rw [Hst.out],by simp⟩
     case measure=>simp [intOf] <;> omega
   ·obtain rfl : j=Sn:=by omega
    generalize wr=V2 at *
    obtain ⟨rk,hrk⟩ : ∃rk,dn U S j=rk:=⟨_,rfl⟩
    rw [hrk] at Hfam2 Hfam3 Hless ⊢
    have HrkS : Hid (dn U S S.length=rk):=by show _=_;rw [HSs.out];exact hrk
    have hb02:=Nh Hb01.out.1 hb12
    have hOS2:=HOS.out.1.aa hb02
    have hU2:=aX HOS.out.2 hb02
    by_cases hz : rk=0
    ·have hz' : (rk == 0)=true:=by simpa using hz
     have HF:=Z5 (HP.out k ao co R T V2 (Hfam2.out hz).symm (Nh Hbw1.out hbV2) (hOS2.mono Hbw1.out.size))
     clear hz hrk Hfam2 Hfam3 Hless hOS2 hU2 hown8
     go_wp2_with fail
     go_ret2
     exact HF.out
    ·have hz' : (rk == 0)=false:=by simpa using hz
     have hfam3:=Hfam3.out hz
     have hls:=Hless.out hz
     have hsz2:=hbV2.size
     have hb8:=aw V2 (.cells #[.slice a8 j c8,.int .i64 rk] 64)
     have hOS8:=hOS2.aa hb8
     have hS8 : V1.heap.size<=V2.heap.size:=hb12.size
     have hS1:=Hb01.out.2.size
     have hS0:=Hb01.out.1.size
     have hao : ao ≠ none->aj ao<V0.heap.size:=λh0=>(HOS.out.1.EY h0).2
     have ha8 : a8 ≠ none->V1.heap.size<=aj a8/\aj a8<V2.heap.size:=λh0=>aM hown8 h0
     have hapo8 : a8 ≠ none->cJ ao (aj a8):=λh4=>by
      by_cases h0 : ao=none
      ·exact .inl h0
      ·exact .inr (by have:=hao h0;have:=(ha8 h4).1;omega)
     have hau : au ≠ none->aj au<V0.heap.size:=λh0=>(aM HOS.out.2 h0).2
     have hapu8 : a8 ≠ none->cJ au (aj a8):=λh4=>by
      by_cases h0 : au=none
      ·exact .inl h0
      ·exact .inr (by have:=hau h0;have:=(ha8 h4).1;omega)
     have HIS8:=Z5 (hIS.aa hb8)
     clear hrk hz Hfam2 Hfam3 Hless
     go_wp2_with (at_builtin;refine nC (by rfl) (.tmp 51) (.tmp 55) 57 64 (by rfl) (.agg #[.slice none 0 0,.int .i64 0]) 32 underlying57 sR (by rfl) w1.heap.size ao k co (CR R T) (by rfl) hOS8.own V2.heap.size 1 (.slice a8 j c8) (.int .i64 rk) (by rfl) (aG _ _ _ rfl 0) (aG _ _ _ rfl 1) (by rfl) (by rfl) (by omega) (by unfold maxLen;omega) (by simp;omega) ?_;intro a9 c9 V9 hown9 hgr9 hap9)
     have hSl2:=HSs.out
     have hpush : oJ V9 w1.heap.size a9 (k+1) c9 (R ++ [(a8,c8)]) (T ++ [(S,rk)]) :=
      hOS8.push (by rw [hSl2];exact HIS8.out) (λh0=>⟨by have:=(ha8 h0).1;omega,by have:=(ha8 h0).2;simp;omega⟩) hapo8 (by rw [hSl2];exact hown9) hgr9 hap9
     have hapou : au ≠ none->cJ ao (aj au):=λh0=>by
      by_cases h1 : ao=none
      ·exact .inl h1
      ·have h2:=hsep.out.1 h1;rcases h2 with h2 | h2
       ·exact absurd h2 h0
       ·exact .inr λe=>h2 e.symm
     have hU9 : V9.ownsRow w1.heap.size 3 1 (.slice au Un cu) Un (U.map (Value.int .i64)):=by
      by_cases h0 : au=none
      ·subst h0;rcases mG hU2 with ⟨_,h1,h2⟩ | ⟨h1,h2⟩
       ·subst h1;subst h2;have hx:=iP hU2;rw [Jp hx];exact bX
       ·rcases hU2.2 with ⟨h3,h4⟩ | ⟨g',cap,cur,hv,_⟩
        ·cases h3
         have hx:=iP hU2;rw [Jp hx];exact bX
        ·cases hv
      ·exact dU (aX hU2 hb8) hgr9 (hapou h0)
     have hb29 : NS w1 V9:=(Nh hbV2 hb8).grown hgr9 (by simp;omega) λj' hj'=>by
      cases ao with
      | none=>simp [Value.ownBlock] at hj'
      | some y=>simp [Value.ownBlock] at hj';rw [<- hj'];exact (hOS8.EY (by simp)).1
     have hsep9 : (a9 ≠ none->cJ au (aj a9))/\(∀r ∈ R ++ [(a8,c8)],r.1 ≠ none->cJ au (aj r.1)):=by
      refine ⟨λh0=>?_,λr hr h0=>?_⟩
      ·by_cases h1 : au=none
       ·exact .inl h1
       ·have h2:=hap9 (aj au) (by have:=hau h1;simp;omega) (hapou h1);rcases h2 with h2 | h2
        ·exact absurd h2 h0
        ·exact .inr λe=>h2 e.symm
      ·rcases List.mem_append.1 hr with hr | hr
       ·exact hsep.out.2 r hr h0
       ·rw [JN] at hr;subst hr;exact hapu8 h0
     have Hnd : Hid (∀q,q<=j->(eT U S q).Nodup/\(eT U S q).length<=m/\∀x ∈ eT U S q,0<=x/\x<(m : Int)):=λq hq=>by
      have h1:=oY (S:=S) hUn.out.1 q;have h2 : ∀x ∈ eT U S q,0<=x/\x<(m : Int):=λx hx=>by
       rcases (lr q (by rw [hSl2];exact hq)).1 hx with h | h
       ·exact hUn.out.2 x h
       ·exact HSin.out x (JY h)
      exact ⟨h1,jf h1 h2,h2⟩
     have Hfin : Hid (eo O L m=ga O L m (m+1 - (k+1)) (eT U S j) (T ++ [(S,rk)])/\k+1+(bz false (eT U S j) m).length<=m):=by
      have hme : ∀x,x ∈ U ++ S ↔ x ∈ eT U S j:=λx=>by rw [<- hSl2,Ci,JM]
      refine ⟨by rw [hfam3,show m+1 - (k+1)=m - k by omega];exact sU _ hme _,?_⟩;rw [<- nQ hme];omega
     have HU9:=Z5 (Jg hpush (Jg hU9 (Jg hsep9 hb29)))
     clear hpush hU9 hsep9 hb29 hapou hfam3 hls hown9 hgr9 hap9 hOS8 hOS2 hU2 hown8 HOS hapu8 hapo8 ha8 hao hau hsep
     generalize V9=V3 at *
     have Hua : Hid ((eT U S 0).length=Un):=HUl.out
     go_wp2_with fail
     go_loopw [6,11] (λuv iv wr=>∃(q un : Nat) (au : OA) (cu : Nat),q<=j/\iv = .int .i64 q/\uv = .slice au un cu/\Hid ((eT U S q).length=un)/\oJ wr w1.heap.size a9 (k+1) c9 (R ++ [(a8,c8)]) (T ++ [(S,rk)]) /\
      wr.ownsRow w1.heap.size 3 1 (.slice au un cu) un ((eT U S q).map (Value.int .i64))/\Hid ((a9 ≠ none->cJ au (aj a9))/\(∀r ∈ R ++ [(a8,c8)],r.1 ≠ none->cJ au (aj r.1)))/\NS w1 wr) (λ_ iv _=>j - (intOf iv).toNat)
     case atStart=>exact ⟨0,Un,au,cu,I7 _,rfl,rfl,Hua.out,HU9.out.1,HU9.out.2.1,HU9.out.2.2.1,HU9.out.2.2.2⟩
     case round =>
      clear HU9
      obtain ⟨q,un,au,cu,hq,rfl,rfl,Hun,hOS,hU,hsep,hbr⟩:=hrel
      have hnd:=Hnd.out q hq
      rw [Hun.out] at hnd
      have hunm:=hnd.2.1
      by_cases hlt : q<j
      ·have hIS9 : Ints wr a8 j S:=by have h1:=(hOS.row ((a8,c8),(S,rk)) (by rw [M8 (by have h1:=hOS.rl;have h2:=hOS.tl;simp at h1 h2;omega)];simp)).1;rw [hSl2] at h1;exact h1
       have cs:=hIS9.cell q hlt
       have hqS : q<S.length:=by rw [hSl2];exact hlt
       have hst : eT U S (q+1)=if nth S q ∈ eT U S q then eT U S q else eT U S q ++ [nth S q]:=rfl
       obtain ⟨z,hz⟩ : ∃z,nth S q=z:=⟨_,rfl⟩
       rw [hz] at cs hst
       have hIu:=(Ni hU).1
       have hin:=tJ au un cu _ z wr hIu
       obtain ⟨Uq,hUq⟩ : ∃Uq,eT U S q=Uq:=⟨_,rfl⟩
       rw [hUq] at hst hU hin
       have Hunq : Hid (Uq.length=un):=by show _=_;rw [<- hUq];exact Hun.out
       clear hz hUq hnd hIu hIS9
       by_cases hzU : z ∈ Uq
       ·rw [I6 hzU] at hst
        rw [show decide (z ∈ Uq)=true by simpa using hzU] at hin
        have Hst:=Z5 hst
        have Hin:=Z5 hin
        clear hzU hst hin
        go_wp2_with fail
        refine Hin.out.mono ?_
        rintro e w5 ⟨rfl,rfl⟩
        go_wp2_with fail
        go_roundw
        case rel=>exact ⟨q+1,un,au,cu,by omega,by go_num,rfl,by show _=_;rw [Hst.out];exact Hunq.out,hOS,by rw [Hst.out];exact hU,hsep.out,hbr⟩
        case measure=>simp [intOf] <;> omega
       ·rw [I5 hzU] at hst
        rw [show decide (z ∈ Uq)=false by simpa using hzU] at hin
        have Hst:=Z5 hst
        have Hin:=Z5 hin
        have hszr:=hbr.size
        have hcn:=bk wr (.int .i64 z) 3
        have hOSn:=hOS.aa (aw wr (.cells #[.int .i64 z] 3))
        clear hzU hst hin
        go_wp2_with fail
        refine Hin.out.mono ?_
        rintro e w5 ⟨rfl,rfl⟩
        go_wp2_with (at_builtin;refine bg rfl _ _ 22 3 rfl (.int .i64 0) 8 underlying22 ba rfl w1.heap.size au un cu _ rfl (hU.alloc _) ⟨w5.heap.size,0,none⟩ 1 (.int .i64 z) rfl hcn rfl (by omega) (by unfold maxLen;omega) (by simp;omega) ?_;intro a6 c6 w6 hown6 hgr6 hap6)
        go_roundw
        case rel =>
         have hbF : NS w1 w6:=Nk (Nl hbr _) (hU.alloc _) hgr6 (IZ _) (Nl hbr _).size
         refine ⟨q+1,un+1,a6,c6,by omega,by go_num,rfl,by show _=_;rw [Hst.out,Jh,Hunq.out];rfl,hOSn.grown hgr6 hsep.out.1 hsep.out.2,by rw [Hst.out];simpa using hown6,⟨λh0=>hap6 _ (hOSn.EY h0).2 (hsep.out.1 h0),λr hr h0=>hap6 _ (hOSn.zE hr h0).1.2 (hsep.out.2 r hr h0)⟩,hbF⟩
        case measure=>simp [intOf] <;> omega
      ·obtain rfl : q=j:=by omega
       go_wp2_with fail
       go_roundw
       case rel =>
        have e:=Hun.out
        refine ⟨k+1,T ++ [(S,rk)],a9,c9,R ++ [(a8,c8)],eT U S q,au,cu,by have:=Hfin.out.2;omega,rfl,by rw [e],hOS,by rw [e];exact hU,hsep.out,hbr,Hfin.out.1,Hfin.out.2,⟨(Hnd.out q (IZ _)).1,(Hnd.out q (IZ _)).2.2⟩⟩
       case measure=>simp [Fw] <;> omega
end Go.Proofs.YtcfmiocdlcapoaaGreat
