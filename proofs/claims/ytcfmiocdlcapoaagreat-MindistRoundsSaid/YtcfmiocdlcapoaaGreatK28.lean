import Derived.Test.YtcfmiocdlcapoaaGreatK25
import Derived.Test.YtcfmiocdlcapoaaGreatK22
import Derived.Test.YtcfmiocdlcapoaaGreatK19
import Derived.Test.YtcfmiocdlcapoaaGreatK21
import Derived.Test.YtcfmiocdlcapoaaGreatK12
import Derived.Laws.Bits64
import Derived.Laws.Bits64b
import Derived.Test.YtcfmiocdlcapoaaGreatK10
namespace Go.Proofs.YtcfmiocdlcapoaaGreat
set_option linter.unusedVariables false
set_option linter.unusedSimpArgs false
set_option linter.unusedSectionVars false
set_option maxRecDepth 100000
set_option maxHeartbeats 4000000
open Go.RowKit
section
variable {O : aQ} {El : Int->Prop} {m : Nat}
theorem nw.IN (F : cK O El) {L : Ll} {P : Lz} {c : Nat} (h : nw L P c) (hL : bH El m L) {v : Lz} (hv : Vc El L.length v) {φ : Lz->Int} (hφ : kc O El L.length φ)
  {t : Nat} (ht : t<=P.length) (h0 : ∀j,j<t->φ (bf L (nth P j).toNat)=0) : ∀k,k<=t->Vc El L.length (jc O L P v k)/\φ (jc O L P v k)=φ v/\∀i,i<L.length->nth (jc O L P v k) i=if i<k then 0 else nth v i
 | 0,_=>⟨hv,rfl,λi _=>by rw [if_neg (by omega)];rfl⟩
 | k+1,hk=>by
  obtain ⟨h1,h2,h3⟩:=h.IN F hL hv hφ ht h0 k (by omega)
  have hle:=h.le
  have hcol:=dN hL F.zero (nth P k).toNat
  have hx:=h1.at (i:=k) (by omega)
  refine ⟨h1.sub F hcol hx,?_,λi hi=>?_⟩
  ·rw [jc,hφ.sub _ _ _ h1 hcol hx,h0 k (by omega),F.dA hx,F.gF,F.add_zero _ (hφ.el _ h1),h2]
  ·rw [jc,e8 O _ _ _ i (by rw [hcol.1,h1.1]) (by rw [h1.1];exact hi),cZ L _ i hi,h.one k i (by omega) hi]
   by_cases e : i=k
   ·subst e
    rw [if_pos rfl,F.je hx,F.add_neg _ hx,if_pos (by omega)]
   ·rw [if_neg e,F.dA hx,F.gF,F.add_zero _ (h1.at hi),h3 i hi]
    by_cases e2 : i<k
    ·rw [if_pos e2,if_pos (by omega)]
    ·rw [if_neg e2,if_neg (by omega)]
theorem CC {P : Lz} (ha : ∀i j,i<j->j<P.length->nth P i<nth P j) {x : Int} (hx : ¬ x ∈ P) : ∀k,k<=P.length->∃t,t<=k/\(∀j,j<t->nth P j<x)/\∀j,t<=j->j<k->x<nth P j
 | 0,_=>⟨0,Nat.le_refl _,λj hj=>by omega,λj _ hj=>by omega⟩
 | k+1,hk=>by
  obtain ⟨t,h1,h2,h3⟩:=CC ha hx k (by omega)
  have hne : nth P k ≠ x:=λe=>hx (e ▸ aN (by omega))
  by_cases ht : t=k
  ·subst ht
   by_cases hlt : nth P t<x
   ·exact ⟨t+1,by omega,λj hj=>by
     by_cases e : j=t
     ·subst e;exact hlt
     ·exact h2 j (by omega),λj h4 h5=>by omega⟩
   ·exact ⟨t,by omega,h2,λj h4 h5=>by
     obtain rfl : j=t:=by omega
     omega⟩
  ·refine ⟨t,by omega,h2,λj h4 h5=>?_⟩
   by_cases e : j=k
   ·subst e
    have:=ha t j (by omega) (by omega)
    have:=h3 t (Nat.le_refl _) (by omega)
    omega
   ·exact h3 j h4 (by omega)
theorem GW (F : cK O El) {R : Ll} {P : Lz} (hR : bH El m R) (hP : nw R P m) (hl : se R P) {f : Nat->Int} (hf : RS O El m R f) {x : Nat} (hx : x<m) (h0 : ∀y,y<x->f y=0) (hne : f x ≠ 0) : (x : Int) ∈ P:=by
 refine Classical.byContradiction λhn=>hne ?_
 obtain ⟨t,h1,h2,h3⟩:=CC hl.asc hn P.length (Nat.le_refl _)
 obtain ⟨e,he,h⟩:=hf
 have hlt:=hP.lt
 obtain ⟨q1,q2,q3⟩:=hP.IN F hR (dN hR F.zero x) he h1 (λj hj=>by
  have:=h2 j hj
  have:=hlt j (by omega)
  rw [<- h _ (by omega)]
  exact h0 _ (by omega)) t (Nat.le_refl _)
 rw [h x hx,<- q2]
 refine he.zero F q1 λi hi=>?_
 rw [q3 i hi]
 split
 ·rfl
 ·rw [cZ R x i hi]
  by_cases hi2 : i<P.length
  ·have:=h3 i (by omega) hi2
   exact hl.lead i x hi2 (by omega)
  ·exact hP.zero i x (by omega) hi hx
theorem E0 (F : cK O El) {R : Ll} {P : Lz} (hR : bH El m R) (hP : nw R P m) {f : Nat->Int} (hf : RS O El m R f) (h0 : ∀j,j<P.length->f (nth P j).toNat=0) : ∀x,x<m->f x=0:=λx hx=>by
 obtain ⟨e,he,h⟩:=hf
 rw [h x hx]
 refine hP.all F hR hx e he λy hy=>?_
 obtain ⟨j,hj,rfl⟩:=(gV P _ _).1 hy
 rw [<- h _ (by have:=hP.lt j hj;omega)]
 exact h0 j hj
theorem yA {P : Lz} (ha : ∀i j,i<j->j<P.length->nth P i<nth P j) : P.Pairwise λx y=>x<y:=by
 rw [List.pairwise_iff_getElem]
 intro i j hi hj hij
 have:=ha i j hij hj
 rwa [ai hi,ai hj] at this
theorem EB {P P' : Lz} (ha : ∀i j,i<j->j<P.length->nth P i<nth P j) (ha' : ∀i j,i<j->j<P'.length->nth P' i<nth P' j) (h : ∀x,x ∈ P ↔ x ∈ P') : P=P':=by
 have h1:=yA ha
 have h2:=yA ha'
 exact mT (h1.imp λh=>by omega) (h2.imp λh=>by omega) ((List.perm_ext_iff_of_nodup (h1.imp λh=>by omega) (h2.imp λh=>by omega)).2 h)
theorem yO (F : cK O El) {R R' : Ll} {P P' : Lz} (hR : bH El m R) (hR' : bH El m R') (hP : nw R P m) (hP' : nw R' P' m) (hl : se R P) (hl' : se R' P') (hlen : R.length=P.length) (hlen' : R'.length=P'.length)
  (h1 : iD O El m R R') (h2 : iD O El m R' R) : R=R':=by
 have key : ∀ {R R' : Ll} {P P' : Lz},bH El m R->nw R P m->se R P->nw R' P' m->se R' P'->R'.length=P'.length->iD O El m R' R->∀x ∈ P',x ∈ P:=λ{R R' P P'} hR hP hl hP' hl' hlen' h2 x hx=>by
  obtain ⟨i,hi,rfl⟩:=List.mem_iff_getElem.1 hx
  have hb:=hP'.lt i hi
  have h3:=GW F hR hP hl (h2 i (by omega)) (x:=(nth P' i).toNat) (by omega) (λy hy=>hl'.lead i y hi hy) (by
   show nth (aj R' i) (nth P' i).toNat ≠ 0
   rw [hP'.one i i hi (by omega),if_pos rfl];decide)
  rw [show (((nth P' i).toNat : Nat) : Int)=nth P' i by omega,ai hi] at h3
  exact h3
 have hPP : P=P':=EB hl.asc hl'.asc λx=>⟨key hR' hP' hl' hP hl hlen h1 x,key hR hP hl hP' hl' hlen' h2 x⟩
 subst hPP
 refine List.ext_getElem (by omega) λi hi hi'=>?_
 have hr:=hR _ (List.getElem_mem hi)
 have hr':=hR' _ (List.getElem_mem hi')
 refine et (by rw [hr.1,hr'.1]) λx hx=>?_
 rw [hr.1] at hx
 have hz:=E0 F hR hP ((h2 i hi').comb F (RS.row F (m:=m) hi) F.one) (λj hj=>by
  show O.add (nth (aj R' i) (nth P j).toNat) (O.neg (O.mul (nth (aj R i) (nth P j).toNat) 1))=0
  rw [hP'.one j i hj hi',hP.one j i hj hi]
  split
  ·rw [F.je F.one,F.add_neg _ F.one]
  ·rw [F.je F.zero,F.add_neg _ F.zero]) x hx
 have hz' : O.add (nth (aj R' i) x) (O.neg (O.mul (nth (aj R i) x) 1))=0:=hz
 have e1 : El (nth R[i] x):=hr.2 _ (aN (by rw [hr.1];exact hx))
 have e2 : El (nth R'[i] x):=hr'.2 _ (aN (by rw [hr'.1];exact hx))
 rw [aE hi,aE hi',F.je e1] at hz'
 have h4:=F.oz e2 (F.cl.neg _ e1) hz'
 have h5:=congrArg O.neg h4
 rwa [F.neg_neg e1,F.neg_neg e2] at h5
theorem jR (F : cK O El) (n k : Nat) : Vc El n (ez n k):=by
 refine ⟨gq n k,λx hx=>?_⟩
 unfold ez at hx
 rcases List.mem_or_eq_of_mem_set hx with hx | rfl
 ·rw [List.eq_of_mem_replicate hx];exact F.zero
 ·exact F.one
theorem nI {n k i : Nat} (hk : k<n) : nth (ez n k) i=if i=k then 1 else 0:=by
 unfold ez
 rw [ff _ _ _ _ (by simpa using hk)]
 split
 ·rfl
 ·unfold nth
  simp only [List.getD_eq_getElem?_getD,List.getElem?_replicate]
  split <;> rfl
def cutTo (O : aQ) (n : Nat) (v : Lz) : Nat->Lz
 | 0=>v
 | k+1=>dP O (cutTo O n v k) (nth v k) (ez n k)
theorem Af (F : cK O El) {n : Nat} {φ : Lz->Int} (hφ : kc O El n φ) {v : Lz} (hv : Vc El n v) : ∀k,k<=n->Vc El n (cutTo O n v k)/\(∀i,i<n->nth (cutTo O n v k) i=if i<k then 0 else nth v i) /\
  O.add (φ (cutTo O n v k)) (dE O (λt=>φ (ez n t)) (λt=>nth v t) k)=φ v
 | 0,_=>⟨hv,λi _=>by rw [if_neg (by omega)];rfl,by rw [dE];exact F.add_zero _ (hφ.el _ hv)⟩
 | k+1,hk=>by
  obtain ⟨h1,h2,h3⟩:=Af F hφ hv k (by omega)
  have hu:=jR F n k
  have hx:=hv.at (i:=k) (by omega)
  refine ⟨h1.sub F hu hx,λi hi=>?_,?_⟩
  ·rw [cutTo,e8 O _ _ _ i (by rw [hu.1,h1.1]) (by rw [h1.1];exact hi),nI (by omega),h2 i hi]
   by_cases e : i=k
   ·subst e
    rw [if_pos rfl,if_neg (by omega),F.je hx,F.add_neg _ hx,if_pos (by omega)]
   ·rw [if_neg e,F.dA hx,F.gF]
    by_cases e2 : i<k
    ·rw [if_pos e2,if_pos (by omega),F.add_zero _ F.zero]
    ·rw [if_neg e2,if_neg (by omega),F.add_zero _ (hv.at hi)]
  ·have hm:=F.cl.mul _ _ hx (hφ.el _ hu)
   have hd:=nL F (a:=λt=>φ (ez n t)) (b:=λt=>nth v t) k (λp _=>hφ.el _ (jR F n p)) (λp hp=>hv.at (by omega))
   rw [cutTo,hφ.sub _ _ _ h1 hu hx,dE,F.mul_comm _ _ (hφ.el _ hu) hx,F.ET (hφ.el _ h1) (F.cl.neg _ hm) hd hm,F.xK hm,F.add_zero _ (F.cl.add _ _ (hφ.el _ h1) hd),h3]
theorem nc (F : cK O El) {n : Nat} {φ : Lz->Int} (hφ : kc O El n φ) {v : Lz} (hv : Vc El n v) : φ v=dE O (λt=>φ (ez n t)) (λt=>nth v t) n:=by
 obtain ⟨h1,h2,h3⟩:=Af F hφ hv n (Nat.le_refl _)
 rw [<- h3,hφ.zero F h1 λi hi=>by rw [h2 i hi,if_pos hi],F.Aj (nL F n (λp _=>hφ.el _ (jR F n p)) (λp hp=>hv.at hp))]
theorem eS (F : cK O El) {L : Ll} (hL : bH El m L) {x : Lz} (hx : ∀k,k<L.length->El (nth x k)) {y : Nat} (hy : y<m) : ∀k,k<=L.length->nth (bj O m x L k) y=dE O (λt=>nth x t) (λt=>nth (aj L t) y) k
 | 0,_=>by
  rw [bj,dE]
  unfold nth
  simp only [List.getD_eq_getElem?_getD,List.getElem?_replicate]
  split <;> rfl
 | k+1,hk=>by
  have ih:=eS F hL hx hy k (by omega)
  obtain ⟨h1,_⟩:=dO F hL hx k (by omega)
  have hr:=hL.row (i:=k) (by omega)
  have hd:=nL F (a:=λt=>nth x t) (b:=λt=>nth (aj L t) y) k (λp hp=>hx p (by omega)) (λp hp=>Vc.at (hL.row (i:=p) (by omega)) hy)
  rw [bj,dE]
  split
  ·rename_i e0
   rw [ih,e0,F.mO (Vc.at hr hy),F.add_zero _ hd]
  ·rw [gL O _ _ _ y (by rw [hr.1,h1.1]) (by rw [h1.1];exact hy),ih]
   split
   ·rename_i e1
    show _=O.add _ (O.mul (nth x k) (nth (aj L k) y))
    rw [e1,F.dA (hx k (by omega)),F.add_zero _ hd]
   ·rfl
theorem IW {P : Lz} {k : Nat} (hl : P.length=k) (hb : ∀j,j<k->0<=nth P j/\nth P j<k) (ha : ∀i j,i<j->j<P.length->nth P i<nth P j) : ∀j,j<k->nth P j=j:=by
 have h1 : ∀j,j<k->(j : Int)<=nth P j:=λj=>by
  induction j with
  | zero=>intro h;exact (hb 0 h).1
  | succ j ih=>intro h;have:=ih (by omega);have:=ha j (j+1) (by omega) (by omega);omega
 have h2 : ∀d j,j+d+1=k->nth P j<=j:=λd=>by
  induction d with
  | zero=>intro j h;have:=hb j (by omega);omega
  | succ d ih=>intro j h;have:=ih (j+1) (by omega);have:=ha j (j+1) (by omega) (by omega);omega
 intro j hj
 have:=h1 j hj
 have:=h2 (k - j - 1) j (by omega)
 omega
theorem tK (F : cK O El) {L : Ll} (hL : bH El m L) {Q : Lz} (hQ : qp m Q) (hl : Q.length=L.length) (hg : (i7 O L Q).length=Q.length) (i : Nat) (hi : i<L.length) :
  ∃e,kc O El L.length e/\(∀y,y<m->nth (aj (cQ O m L Q) i) y=e (bf L y))/\∀j,j<Q.length->e (bf L (nth Q j).toNat)=if i=j then 1 else 0:=by
 have hD:=fo hL hQ
 have hpv:=Es F hL hQ hl hg
 have hJr:=lK hD (o4 F.zero F.one Q.length)
 have hDl : (L.map (aG Q)).length=Q.length:=by rw [List.length_map,hl]
 have hJl : (fE (L.map (aG Q)) (dX Q.length)).length=Q.length:=by simp [fE,cA,hl]
 have hJt:=lY (D:=L.map (aG Q)) (U:=dX Q.length) (k:=Q.length) (by rw [cA,hDl]) (λr hr=>(hD r hr).1)
 have hJd:=oe (D:=L.map (aG Q)) (U:=dX Q.length) (k:=Q.length) (by rw [cA,hDl]) (λr hr=>(hD r hr).1)
 obtain ⟨J,hJ⟩ : ∃J,fE (L.map (aG Q)) (dX Q.length)=J:=⟨_,rfl⟩
 have hsys : cQ O m L Q=nS O m ((aA O J Q.length).1.map (List.drop Q.length)) L:=by rw [cQ,kS,hJ]
 rw [hJ] at hpv hJr hJl hJt hJd
 obtain ⟨h1,h2,_⟩:=jQ F hJr Q.length (by omega)
 have h3:=qB F hJr Q.length (by omega)
 have hel : (aA O J Q.length).1.length=Q.length:=by rw [bM,hJl]
 have hEr:=lu F hJr Q.length (by omega)
 have hid:=IW hpv (λj hj=>h1.lt j (by omega)) h3.asc
 obtain ⟨e,he,hx⟩:=h2 i (by omega)
 rw [hJl,hl] at he
 have hcolD : ∀x,x<Q.length->bf J x=bf L (nth Q x).toNat:=λx hx=>by
  have e1 : bf J x=bf (J.map (List.take Q.length)) x:=by
   unfold bf
   rw [List.map_map]
   exact List.map_congr_left λr _=>(mB hx).symm
  rw [e1,hJt]
  unfold bf
  rw [List.map_map]
  exact List.map_congr_left λr _=>dx Q r hx
 have hcolU : ∀x,x<Q.length->bf J (Q.length+x)=ez L.length x:=λx hx=>by
  have e1 : bf J (Q.length+x)=bf (J.map (List.drop Q.length)) x:=by
   unfold bf
   rw [List.map_map]
   refine List.map_congr_left λr _=>?_
   unfold nth
   simp only [List.getD_eq_getElem?_getD,Function.comp,List.getElem?_drop]
  rw [e1,hJd]
  refine et (by rw [dc,cA,gq,hl]) λt ht=>?_
  rw [dc,cA] at ht
  rw [cZ _ _ _ (by rw [cA];exact ht),iw ht,nI ht,<- hl,nI hx]
  by_cases e : x=t
  ·subst e;simp
  ·rw [if_neg e,if_neg λe2=>e e2.symm]
 have hT : ∀t,t<Q.length->nth (aj ((aA O J Q.length).1.map (List.drop Q.length)) i) t=e (ez L.length t):=λt ht=>by
  rw [iz _ List.drop_nil,<- hcolU t ht,<- hx _ (by omega)]
  unfold nth
  simp only [List.getD_eq_getElem?_getD,List.getElem?_drop]
 have hTl : ((aA O J Q.length).1.map (List.drop Q.length)).length=L.length:=by rw [List.length_map,hel,hl]
 refine ⟨e,he,λy hy=>?_,λj hj=>?_⟩
 ·rw [hsys,nS,bR _ _ (by rw [hTl];exact hi)]
  rw [eS F hL (λt ht=>by rw [hT t (by omega)];exact he.el _ (jR F _ t)) hy _ (Nat.le_refl _),nc F he (dN hL F.zero y)]
  exact di _ λt ht=>⟨hT t (by omega),(cZ L y t ht).symm⟩
 ·rw [<- hcolD j hj,<- hx _ (by omega)]
  have:=h1.one j i (by omega) (by omega)
  rw [hid j hj,Int.toNat_natCast] at this
  exact this
end
section
variable {P M : Int} {mod : Lz} {m : Nat} {L : Ll}
theorem jz (hE : aL P M mod m L=0) {Q : Lz} (hQ : qp m Q) (hl : Q.length=L.length) (hg : (i7 (aa P M.toNat mod).ops L Q).length=Q.length) :
  bH (aa P M.toNat mod).El m (cQ (aa P M.toNat mod).ops m L Q)/\(cQ (aa P M.toNat mod).ops m L Q).length=L.length/\(cQ (aa P M.toNat mod).ops m L Q).map (aG Q)=dX Q.length /\
  dr (aa P M.toNat mod) (cQ (aa P M.toNat mod).ops m L Q) m=L:=by
 obtain ⟨N',e,hm1,hm64,F,hR⟩:=ba hE
 obtain rfl : m=N':=by omega
 have hfull:=qG hE
 have h6:=(dY (bh hE).2.2.2).2
 rw [Int.toNat_natCast] at h6
 have hcan : dD (aa P M.toNat mod).ops m L=L:=h6
 obtain ⟨hPv,hLd⟩:=du F hR
 have hcl:=cU F hR
 rw [hcan] at hPv hLd hcl
 have hform:=λi hi=>tK F hR hQ hl hg i hi
 have hD:=fo hR hQ
 have hIr:=sC F hD
 have hIl : (kS (aa P M.toNat mod).ops (L.map (aG Q)) Q.length).length=L.length:=by rw [Ep _ (by rw [List.length_map,hl]),hl]
 have hSl : (cQ (aa P M.toNat mod).ops m L Q).length=L.length:=by unfold cQ nS;rw [List.length_map,hIl]
 have hSr : bH (aa P M.toNat mod).El m (cQ (aa P M.toNat mod).ops m L Q):=λr hr=>by
  unfold cQ nS at hr
  obtain ⟨s,hs,rfl⟩:=List.mem_map.1 hr
  have hs2:=hIr s hs
  exact (dO F hR (λk hk=>hs2.2 _ (aN (by rw [hs2.1];omega))) _ (Nat.le_refl _)).1
 show _/\_/\_/\dD (aa P M.toNat mod).ops m (cQ (aa P M.toNat mod).ops m L Q)=L
 generalize cQ (aa P M.toNat mod).ops m L Q=S at *
 generalize (aa P M.toNat mod).ops=O at *
 generalize (aa P M.toNat mod).El=El at *
 refine ⟨hSr,hSl,?_,?_⟩
 ·refine List.ext_getElem (by rw [List.length_map,cA,hSl,hl]) λi h1 h2=>?_
  rw [List.length_map,hSl] at h1
  rw [<- aE,<- aE,bR _ _ (by rw [hSl];exact h1),iw (by omega)]
  obtain ⟨e,he,hy,hj⟩:=hform i h1
  refine et (by rw [gq];simp [aG]) λj hj2=>?_
  have hj3 : j<Q.length:=by simpa [aG] using hj2
  have hqj:=hQ j hj3
  rw [dx Q _ hj3,nI (by omega),hy _ (by omega),hj j hj3]
  by_cases e2 : i=j
  ·subst e2;simp
  ·rw [if_neg e2,if_neg λe3=>e2 e3.symm]
 ·obtain ⟨k1,k2⟩:=du F hSr
  have k3:=cU F hSr
  obtain ⟨s1,s2⟩:=eF F hSr
  have hSL : iD O El m S L:=λi hi=>by
   obtain ⟨e,he,hy,_⟩:=hform i (by omega)
   exact ⟨e,he,hy⟩
  have hclA : ∀x,x<m->nR O El L.length (bf L) (gA Q) x:=λx hx=>by
   refine Classical.byContradiction λhn=>?_
   have h1:=Hw F hR (Q:=Q) (x:=(x : Int)) (by simpa using hn)
   have h2:=Rk.le (iI F hR) (lU F hR (Q ++ [(x : Int)])) hfull λy hy=>by
    refine (iI F hR).mem _ _ ?_
    rw [List.mem_range]
    obtain ⟨z,hz,rfl⟩:=mM.1 hy
    rcases List.mem_append.1 hz with hz | hz
    ·obtain ⟨j,hj,rfl⟩:=List.mem_iff_getElem.1 hz
     have:=hQ j hj
     rw [ai hj] at this
     omega
    ·rw [List.mem_singleton] at hz;subst hz;simpa using hx
   have h3 : sK O L Q=Q.length:=hg
   omega
  have hLS : iD O El m L S:=λi hi=>by
   have hcx : ∀k,k<S.length->El (nth (aG Q (aj L i)) k):=λk hk=>by
    have hk2 : k<Q.length:=by omega
    have:=hQ k hk2
    rw [dx Q _ hk2]
    exact Vc.at (hR.row (i:=i) hi) (by omega)
   obtain ⟨c1,c2⟩:=dO F hSr hcx S.length (Nat.le_refl _)
   have hd:=(RS.row F (m:=m) (O:=O) (El:=El) hi).comb F (hSL.rs c2) F.one
   obtain ⟨e,he,hx⟩:=hd
   have hz : ∀x,x<m->O.add (nth (aj L i) x) (O.neg (O.mul (nth (bj O m (aG Q (aj L i)) S S.length) x) 1))=0:=λx hxm=>by
    have h1 : O.add (nth (aj L i) x) (O.neg (O.mul (nth (bj O m (aG Q (aj L i)) S S.length) x) 1))=e (bf L x):=hx x hxm
    rw [h1]
    refine hclA x hxm e he λy hy=>?_
    obtain ⟨q,hq,rfl⟩:=mM.1 hy
    obtain ⟨j,hj,rfl⟩:=List.mem_iff_getElem.1 hq
    have hqj:=hQ j hj
    rw [ai hj] at hqj
    have h2 : O.add (nth (aj L i) (Q[j]).toNat) (O.neg (O.mul (nth (bj O m (aG Q (aj L i)) S S.length) (Q[j]).toNat) 1))=e (bf L (Q[j]).toNat):=hx _ (by omega)
    rw [<- h2]
    have hvi : El (nth (aj L i) (Q[j]).toNat):=Vc.at (hR.row (i:=i) hi) (by omega)
    have h3 : nth (bj O m (aG Q (aj L i)) S S.length) (Q[j]).toNat=nth (aj L i) (Q[j]).toNat:=by
     rw [eS F hSr hcx (by omega) _ (Nat.le_refl _)]
     have hone : ∀t,t<S.length->nth (aj S t) (Q[j]).toNat=if t=j then 1 else 0:=λt ht=>by
      obtain ⟨e',_,hy',hj'⟩:=hform t (by omega)
      have h4:=hj' j hj
      rw [ai hj] at h4
      rw [hy' _ (by omega),h4]
     have hpj : nth (aG Q (aj L i)) j=nth (aj L i) (Q[j]).toNat:=by rw [dx Q _ hj,ai hj]
     rw [jO F (x:=j) (by
      show El (O.mul (nth (aG Q (aj L i)) j) (nth (aj S j) (Q[j]).toNat))
      rw [hone j (by omega),if_pos rfl,hpj,F.je hvi];exact hvi) S.length (λp hp hpj=>by
      show O.mul (nth (aG Q (aj L i)) p) (nth (aj S p) (Q[j]).toNat)=0
      rw [hone p hp,if_neg hpj,F.dA (hcx p hp)]),if_pos (by omega)]
     show O.mul (nth (aG Q (aj L i)) j) (nth (aj S j) (Q[j]).toNat)=_
     rw [hone j (by omega),if_pos rfl,hpj,F.je hvi]
    rw [h3,F.je hvi,F.add_neg _ hvi]
   refine c2.congr λx hxm=>?_
   have h1:=hz x hxm
   have hvi : El (nth (aj L i) x):=Vc.at (hR.row (i:=i) hi) hxm
   have hvc:=c1.at hxm
   rw [F.je hvc] at h1
   have h4:=F.oz hvi (F.cl.neg _ hvc) h1
   have h5:=congrArg O.neg h4
   rw [F.neg_neg hvc,F.neg_neg hvi] at h5
   exact h5.symm
  exact yO F (fh F hSr) hR k1 hPv k2 hLd k3 hcl (s1.trans hSL) (hLS.trans s2)
end
section
variable {O : aQ} {El : Int->Prop} {m : Nat} {L : Ll}
structure JO (O : aQ) (El : Int->Prop) (m : Nat) (L R : Ll) (Z : Lz) : Prop where
 rws : bH El m R
 sub : iD O El m R L
 zero : ∀r ∈ R,∀z ∈ Z,nth r z.toNat=0
 all : ∀f,RS O El m L f->(∀z ∈ Z,f z.toNat=0)->RS O El m R f
 cnt : R.length+sK O L Z=L.length
end
section
structure RX where
 a : OA
 c : Nat
 l : Lz
structure my (A : Nat->Prop) (w : World) (a : OA) (n : Nat) (L : Ll) : Prop where
 len : L.length=n
 pl : Pl a n
 max : n<=maxLen
 no : 0<n->¬ A (ablk a)
 cell : ∀i,i<n->∃b m c,w.cell? ⟨ablk a,aJ a+i,none⟩=some (.slice b m c)/\Ints w b m (aj L i)/\(0<m->¬ A (ablk b))
theorem my.kK {A : Nat->Prop} {w : World} {a : OA} {n : Nat} {L : Ll} (h : my A w a n L) : bZ w a n L :=
 ⟨h.len,h.pl,h.max,λi hi=>by obtain ⟨b,m,c,h1,h2,_⟩:=h.cell i hi;exact ⟨b,m,c,h1,h2⟩⟩
theorem my.dt {A A' : Nat->Prop} {w w' : World} {a : OA} {n : Nat} {L : Ll} (h : my A w a n L) (hM : aB w w' A A') : my A w' a n L :=
 ⟨h.len,h.pl,h.max,h.no,λi hi=>by
  obtain ⟨b,m,c,h1,h2,h3⟩:=h.cell i hi
  exact ⟨b,m,c,hM.cell h1 (h.no (by omega)),h2.dt hM h3,h3⟩⟩
theorem my.ah {A : Nat->Prop} {w w' : World} {a : OA} {n : Nat} {L : Ll} (h : my A w a n L) (hb : Below w.heap.size w w') : my A w' a n L:=h.dt (aB.bq hb A)
variable {w : World} {b : Nat} {G : de}
end
def cmpL : Lz->Lz->Int
 | [],[]=>0
 | [],_ :: _=>-1
 | _ :: _,[]=>1
 | x :: a,y :: b=>if x<y then -1 else if y<x then 1 else cmpL a b
theorem qu (x : Int) (w : World) : Calls Tryz.prog 247 #[.int .i64 x] w λe w'=>e = .returned (.bool false)/\w=w':=by
 go_enter Tryz.func247,Tryz.ntmps247
 go_wp2
 go_ret
 exact ⟨by simp,rfl⟩
def u9 (x y : Int) : Int:=if x<y then -1 else if y<x then 1 else 0
theorem sE (x y : Int) (w : World) : Calls Tryz.prog 258 #[.int .i64 x,.int .i64 y] w λe w'=>e = .returned (.int .i64 (u9 x y))/\w=w':=by
 obtain ⟨r,hr⟩ : ∃r,u9 x y=r:=⟨_,rfl⟩
 rw [hr]
 go_enter Tryz.func258,Tryz.ntmps258
 unfold u9 at hr
 by_cases h1 : x<y
 ·have d1 : decide (x<y)=true:=by simpa using h1
  rw [if_pos h1] at hr
  clear h1
  go_wp2_with (go_at_call 247;refine (qu _ _).mono ?_;rintro e w' ⟨rfl,rfl⟩)
  go_ret
  exact ⟨by rw [<- hr];rfl,rfl⟩
 ·have d1 : decide (x<y)=false:=by simpa using h1
  rw [if_neg h1] at hr
  by_cases h2 : y<x
  ·have d2 : decide (y<x)=true:=by simpa using h2
   rw [if_pos h2] at hr
   clear h1 h2
   go_wp2_with (go_at_call 247;refine (qu _ _).mono ?_;rintro e w' ⟨rfl,rfl⟩)
   go_ret
   exact ⟨by rw [<- hr];rfl,rfl⟩
  ·have d2 : decide (y<x)=false:=by simpa using h2
   rw [if_neg h2] at hr
   clear h1 h2
   go_wp2_with (go_at_call 247;refine (qu _ _).mono ?_;rintro e w' ⟨rfl,rfl⟩)
   go_ret
   exact ⟨by rw [<- hr];rfl,rfl⟩
theorem CH : ∀ {a b : Lz} {k : Nat},(∀j,j<k->nth a j=nth b j)->k<a.length->k<b.length->u9 (nth a k) (nth b k) ≠ 0->cmpL a b=u9 (nth a k) (nth b k)
 | [],_,k,_,h,_,_=>by simp at h
 | x :: a,[],k,_,_,h,_=>by simp at h
 | x :: a,y :: b,0,_,_,_,hne=>by
  have e1 : nth (x :: a) 0=x:=rfl
  have e2 : nth (y :: b) 0=y:=rfl
  rw [e1,e2] at hne ⊢
  rw [cmpL]
  unfold u9 at hne ⊢
  split
  ·rfl
  ·split
   ·rfl
   ·rename_i h1 h2;rw [if_neg h1,if_neg h2] at hne;exact absurd rfl hne
 | x :: a,y :: b,k+1,h0,ha,hb,hne=>by
  have e : x=y:=by simpa [nth] using h0 0 (by omega)
  rw [cmpL,if_neg (by omega),if_neg (by omega)]
  have h1:=CH (a:=a) (b:=b) (k:=k) (λj hj=>by simpa [nth] using h0 (j+1) (by omega)) (by simpa using ha) (by simpa using hb) (by simpa [nth] using hne)
  simpa [nth] using h1
theorem tq : ∀ {a b : Lz} {k : Nat},(∀j,j<k->nth a j=nth b j)->(k=a.length\/k=b.length)->k<=a.length->k<=b.length->cmpL a b=if a.length<b.length then -1 else if b.length<a.length then 1 else 0
 | [],[],_,_,_,_,_=>by simp [cmpL]
 | [],y :: b,_,_,_,_,_=>by simp [cmpL]
 | x :: a,[],_,_,_,_,_=>by simp [cmpL]
 | x :: a,y :: b,0,_,h,_,_=>by simp at h
 | x :: a,y :: b,k+1,h0,h,ha,hb=>by
  have e : x=y:=by simpa [nth] using h0 0 (by omega)
  rw [cmpL,if_neg (by omega),if_neg (by omega)]
  have h1:=tq (a:=a) (b:=b) (k:=k) (λj hj=>by simpa [nth] using h0 (j+1) (by omega)) (by simpa using h) (by simpa using ha) (by simpa using hb)
  rw [h1];simp
theorem Ac (a : OA) (n c : Nat) (l : Lz) (a2 : OA) (n2 c2 : Nat) (l2 : Lz) (w : World) (hi : Ints w a n l) (hi2 : Ints w a2 n2 l2) :
  Calls Tryz.prog 220 #[.slice a n c,.slice a2 n2 c2] w λe w'=>e = .returned (.int .i64 (cmpL l l2))/\w=w':=by
 have Hl:=Z5 hi.len
 have Hl2:=Z5 hi2.len
 have hpl:=hi.pl
 have hpl2:=hi2.pl
 have hmax:=hi.max
 have hmax2:=hi2.max
 unfold maxLen at hmax hmax2
 go_enter Tryz.func220,Tryz.ntmps220
 go_wp2_with fail
 go_loop [11] (λiv=>∃k : Nat,k<=n/\k<=n2/\iv = .int .i64 k/\Hid (∀j,j<k->nth l j=nth l2 j)) (λiv=>n - (intOf iv).toNat)
 case atStart=>exact ⟨0,Nat.zero_le _,Nat.zero_le _,rfl,λj hj=>by omega⟩
 case round =>
  obtain ⟨k,hk,hk2,rfl,hall⟩:=hrel
  by_cases hlt : k<n
  ·have ck:=hi.cell k hlt
   by_cases hlt2 : k<n2
   ·have ck2:=hi2.cell k hlt2
    have hge : decide ((n2 : Int)<=(k : Int))=false:=by simp;omega
    by_cases he : u9 (nth l k) (nth l2 k)=0
    ·have hEq : Hid (nth l k=nth l2 k):=by
      show _=_
      unfold u9 at he
      split at he
      ·omega
      ·split at he
       ·omega
       ·omega
     have hc:=sE (nth l k) (nth l2 k)
     rw [he] at hc
     have Hc:=Z5 hc
     clear he hc
     go_wp2_with (go_at_call 258;refine (Hc.out _).mono ?_;rintro e w' ⟨rfl,rfl⟩)
     go_round
     case rel=>exact ⟨k+1,by omega,by omega,by go_num,λj hj=>by
      rcases Nat.lt_or_ge j k with h | h
      ·exact hall.out j h
      ·rw [show j=k by omega];exact hEq.out⟩
     case measure=>simp [intOf] <;> omega
    ·have Hv:=Z5 (CH hall.out (by rw [Hl.out];exact hlt) (by rw [Hl2.out];exact hlt2) he)
     have Hc:=Z5 (sE (nth l k) (nth l2 k))
     have hne : (u9 (nth l k) (nth l2 k) != 0)=true:=by simpa using he
     clear he
     generalize u9 (nth l k) (nth l2 k)=r at *
     go_wp2_with (go_at_call 258;refine (Hc.out _).mono ?_;rintro e w' ⟨rfl,rfl⟩)
     go_ret
     exact ⟨aF Hv.out.symm,rfl⟩
   ·have hge : decide ((n2 : Int)<=(k : Int))=true:=by simp;omega
    have Hv : Hid (cmpL l l2=1):=by
     show _=_
     rw [tq hall.out (.inr (by rw [Hl2.out];omega)) (by rw [Hl.out];exact hk) (by rw [Hl2.out];exact hk2),Hl.out,Hl2.out,if_neg (by omega),if_pos (by omega)]
    go_wp2_with fail
    go_ret
    exact ⟨aF Hv.out.symm,rfl⟩
  ·have Hv : Hid (cmpL l l2=if n<n2 then -1 else 0):=by
    show _=_
    rw [tq hall.out (.inl (by rw [Hl.out];omega)) (by rw [Hl.out];exact hk) (by rw [Hl2.out];exact hk2),Hl.out,Hl2.out,if_neg (show ¬ n2<n by omega)]
   obtain rfl : k=n:=by omega
   by_cases h2 : k<n2
   ·rw [if_pos h2] at Hv
    go_wp2_with fail
    go_ret
    exact ⟨aF Hv.out.symm,rfl⟩
   ·rw [if_neg h2] at Hv
    go_wp2_with fail
    go_ret
    exact ⟨aF Hv.out.symm,rfl⟩
section
open Go.RowKit
end
section
open Go.RowKit
end
theorem aV.gk {w : World} {b : Nat} {cs : List Value} (h : aV w b cs) (i : Nat) (v : Value) : aV (w.setCell ⟨b,i,none⟩ v) b (cs.set i v):=by
 refine ⟨by simpa using h.1,λj u hu=>?_,λj=>by rw [World.frozen?_setCell];exact h.2.2 j⟩
 by_cases e : j=i
 ·subst e
  by_cases hl : j<cs.length
  ·rw [List.getElem?_set_self hl] at hu
   cases hu
   exact World.cell?_setCell_same _ _ _ (h.2.1 j cs[j] (List.getElem?_eq_getElem hl))
  ·rw [List.set_eq_of_length_le (by omega),List.getElem?_eq_none (by omega)] at hu
   cases hu
 ·rw [List.getElem?_set_ne (by omega)] at hu
  rw [World.cell?_setCell_other _ _ _ _ (by simp <;> omega)]
  exact h.2.1 j u hu
section
open Go.RowKit
end
theorem DH {w : World} {b : Nat} {G : de} (q : Nat) (x : Int) (hc : w.cell? ⟨q,0,none⟩=some (.pointer (some ⟨b,0,none⟩))) (h : eD w b G) :
  Calls Tryz.prog 137 #[.int .i64 x,.pointer (some ⟨q,0,none⟩)] w λe w'=>e = .returned (.bool (!(decide (0<=x) && decide (x<G.q))))/\w=w':=by
 go_enter Tryz.func137,Tryz.ntmps137
 go_wp2_with fail
 refine (J7 x h).mono ?_
 rintro e w' ⟨rfl,rfl⟩
 obtain ⟨z,hz⟩ : ∃z,(decide (0<=x) && decide (x<G.q))=z:=⟨_,rfl⟩
 have Hz:=Z5 hz
 rw [hz]
 clear hz
 cases z
 ·go_wp2_with fail
  go_ret
  exact ⟨aY (by rw [Hz.out];rfl),rfl⟩
 ·go_wp2_with fail
  go_ret
  exact ⟨aY (by rw [Hz.out];rfl),rfl⟩
theorem zW (p : Int->Bool) (q : Nat) (a : OA) (n c : Nat) (l : Lz) (w : World) (hi : Ints w a n l) (hf : ∀k,k<n->Calls Tryz.prog 137 #[.int .i64 (nth l k),.pointer (some ⟨q,0,none⟩)] w λe w'=>e = .returned (.bool (p (nth l k)))/\w=w') :
  Calls Tryz.prog 97 #[.slice a n c,.func (.func 137) #[] #[.pointer (some ⟨q,0,none⟩)]] w λe w'=>∃z : Int,e = .returned (.int .i64 z)/\(0<=z ↔ l.any p=true)/\w=w':=by
 have hpl:=hi.pl
 have hmax:=hi.max
 have HF:=Z5 hf
 have Hl:=Z5 hi.len
 unfold maxLen at hmax
 clear hf
 go_enter Tryz.func97,Tryz.ntmps97
 go_wp2_with fail
 go_loop [8] (λiv=>∃k : Nat,k<=n/\iv = .int .i64 k/\Hid (∀j,j<k->p (nth l j)=false)) (λiv=>n - (intOf iv).toNat)
 case atStart=>exact ⟨0,Nat.zero_le _,rfl,λj hj=>by omega⟩
 case round =>
  obtain ⟨k,hk,rfl,hno⟩:=hrel
  by_cases hlt : k<n
  ·have ck:=hi.cell k hlt
   have hfk:=HF.out k hlt
   obtain ⟨z,hz⟩ : ∃z,p (nth l k)=z:=⟨_,rfl⟩
   rw [hz] at hfk
   have Hk:=Z5 hfk
   cases z
   ·have Hn : Hid (∀j,j<k+1->p (nth l j)=false):=λj hj=>by
     by_cases e : j=k
     ·subst e;exact hz
     ·exact hno.out j (by omega)
    clear hz hfk hno
    go_wp2_with fail
    refine Hk.out.mono ?_
    rintro e w' ⟨rfl,rfl⟩
    go_wp2_with fail
    go_round
    case rel=>exact ⟨k+1,by omega,by go_num,Hn.out⟩
    case measure=>simp [intOf] <;> omega
   ·have Hy : Hid (l.any p=true):=by
     show _=_
     rw [List.any_eq_true]
     exact ⟨nth l k,aN (by rw [Hl.out];exact hlt),hz⟩
    clear hz hfk hno
    go_wp2_with fail
    refine Hk.out.mono ?_
    rintro e w' ⟨rfl,rfl⟩
    go_wp2_with fail
    go_ret
    exact ⟨k,rfl,⟨λ_=>by first | exact Hy.out | exact List.any_eq_true.1 Hy.out,λ_=>Int.natCast_nonneg _⟩,rfl⟩
  ·obtain rfl : k=n:=by omega
   have Hy : Hid (l.any p=false):=by
    show _=_
    rw [List.any_eq_false]
    intro x hx
    obtain ⟨j,hj,rfl⟩:=List.mem_iff_getElem.1 hx
    have:=hno.out j (by rw [<- Hl.out];exact hj)
    rw [ai hj] at this
    rw [this];decide
   go_wp2_with fail
   go_ret
   exact ⟨-1,rfl,⟨λh=>absurd h (by omega),λh=>by have h2 : l.any p=true:=(by first | exact h | exact List.any_eq_true.2 h);rw [Hy.out] at h2;exact absurd h2 (by decide)⟩,rfl⟩
theorem tX (p : Int->Bool) (q : Nat) (a : OA) (n c : Nat) (l : Lz) (w : World) (hi : Ints w a n l) (hf : ∀k,k<n->Calls Tryz.prog 137 #[.int .i64 (nth l k),.pointer (some ⟨q,0,none⟩)] w λe w'=>e = .returned (.bool (p (nth l k)))/\w=w') :
  Calls Tryz.prog 136 #[.slice a n c,.func (.func 137) #[] #[.pointer (some ⟨q,0,none⟩)]] w λe w'=>e = .returned (.bool (l.any p))/\w=w':=by
 have Hc:=Z5 (zW p q a n c l w hi hf)
 clear hf
 go_enter Tryz.func136,Tryz.ntmps136
 go_wp2_with fail
 refine Hc.out.mono ?_
 rintro e w' ⟨z,rfl,hz,rfl⟩
 by_cases h0 : 0<=z
 ·have Hz : Hid (l.any p=true):=hz.1 h0
  have h0' : decide (0<=z)=true:=by simpa using h0
  clear hz h0
  go_wp2_with fail
  go_ret
  exact ⟨aY Hz.out.symm,rfl⟩
 ·have Hz : Hid (l.any p=false):=by
   show _=_
   cases h : l.any p
   ·rfl
   ·exact absurd (hz.2 h) h0
  have h0' : decide (0<=z)=false:=by simpa using h0
  clear hz h0
  go_wp2_with fail
  go_ret
  exact ⟨aY Hz.out.symm,rfl⟩
theorem Ip (q : Int) (l : Lz) : l.any (λx=>!(decide (0<=x) && decide (x<q))) = !(gD q l):=by
 unfold gD
 induction l with
 | nil=>rfl
 | cons x l ih =>
  rw [List.any_cons,List.all_cons,ih]
  unfold fG
  cases (decide (0<=x) && decide (x<q)) <;> simp
theorem uZ (P M : Int) (am : OA) (mn cm : Nat) (mod : Lz) (ax : OA) (nx cx : Nat) (x : Lz) (n : Nat) (w : World) (hmod : Ints w am mn mod) (hx : Ints w ax nx x) (hB : bA P M mod=true) :
  Calls Tryz.prog 71 #[.agg #[.int .i64 P,.int .i64 M,.slice am mn cm],.slice ax nx cx,.int .i64 n] w λe w'=>e = .returned (.int .i64 (uU (aa P M.toNat mod).q x n))/\Below w.heap.size w w':=by
 have hxl:=hx.len
 go_enter Tryz.func71,Tryz.ntmps71
 go_upto_region 1 with fail
 obtain ⟨W,hW⟩ : ∃W : World,W=w.alloc (.cells #[.int .i64 P,.int .i64 M,.slice am mn cm] 24):=⟨_,rfl⟩
 rw [<- hW]
 have hbW : Below w.heap.size w W:=by rw [hW];exact an _ _
 have x0 : aV W w.heap.size [.int .i64 P,.int .i64 M,.slice am mn cm]:=by rw [hW];exact aV.new _ _ _ rfl
 have c0:=x0.cell 0 rfl
 have c1:=x0.cell 1 rfl
 have c2:=x0.cell 2 rfl
 clear hW x0
 by_cases hnx : nx=n
 rotate_left
 ·have hnn : ((nx : Int) != n)=true:=by simp;omega
  have HL : Hid (uU (aa P M.toNat mod).q x n=4):=by show _=_;rw [uU,if_neg (by omega)]
  clear hnx hxl
  go_wp2_with fail
  go_ret
  exact ⟨aF HL.out.symm,hbW⟩
 obtain rfl : nx=n:=hnx
 have hnn : ((nx : Int) != nx)=false:=by simp
 have HL : Hid (uU (aa P M.toNat mod).q x nx=if gD (aa P M.toNat mod).q x=true then 0 else 2):=by show _=_;rw [uU,if_pos hxl];rfl
 clear hxl
 go_wp2_with fail
 refine (fH P M am mn cm mod W (hmod.ah hbW)).mono ?_
 rintro e w4 (⟨hB2,_,_⟩ | ⟨_,b,rfl,hG,hbl,hb4⟩)
 ·rw [hB] at hB2;cases hB2
 have hbw4:=Below.next hbW hb4
 have hb5:=an w4 (.cells #[.pointer (some ⟨b,0,none⟩)] 95)
 have hc5:=br w4 (.pointer (some ⟨b,0,none⟩)) 95
 have hcc:=tX (λy=>!(decide (0<=y) && decide (y<(aa P M.toNat mod).q))) w4.heap.size ax nx cx x _ (hx.ah (Below.next hbw4 hb5)) λk hk=>DH w4.heap.size (nth x k) hc5 (hG.gf.ah hb5)
 rw [Ip] at hcc
 obtain ⟨z,hz⟩ : ∃z,gD (aa P M.toNat mod).q x=z:=⟨_,rfl⟩
 rw [hz] at hcc HL
 have Hc:=Z5 hcc
 have hF:=Below.next hbw4 hb5
 have HF:=Z5 hF
 clear c0 c1 c2 hG hbl hB hF hcc hz
 cases z
 ·have HL2 : Hid (uU (aa P M.toNat mod).q x nx=2):=by show _=_;rw [HL.out];rfl
  go_wp2_with fail
  refine Hc.out.mono ?_
  rintro e w' ⟨rfl,rfl⟩
  go_wp2_with fail
  go_ret
  exact ⟨aF HL2.out.symm,HF.out⟩
 ·have HL2 : Hid (uU (aa P M.toNat mod).q x nx=0):=by show _=_;rw [HL.out];rfl
  go_wp2_with fail
  refine Hc.out.mono ?_
  rintro e w' ⟨rfl,rfl⟩
  go_wp2_with fail
  go_ret
  exact ⟨aF HL2.out.symm,HF.out⟩
section
variable {O : aQ} {El : Int->Prop} {m : Nat} {A B L : Ll}
end
section
variable {w : World} {b : Nat} {G : de}
end
structure Ks (V : World) (b : Nat) (G : de) (Bc Bo Bf Bg n : Nat) (ao : OA) (n2 co : Nat) : Prop where
 cn : V.cell? ⟨Bc,3,none⟩=some (.int .i64 n)
 out : V.cell? ⟨Bo,0,none⟩=some (.slice ao n2 co)
 fr : V.cell? ⟨Bf,0,none⟩=some (.func (.func 218) #[] #[.pointer (some ⟨Bc,0,none⟩),.pointer (some ⟨Bo,0,none⟩),.pointer (some ⟨Bf,0,none⟩),.pointer (some ⟨Bg,0,none⟩)])
 gp : V.cell? ⟨Bg,0,none⟩=some (.pointer (some ⟨b,0,none⟩))
 gf : eD V b G
theorem aB.IX (w : World) {I : Nat->Prop} {p : Addr} (hB : I p.block) (v : Value) : aB w (w.setCell p v) I I:=by
 have hb0 : Below 0 w (w.setCell p v):=(Below.refl 0 w).setCell (Nat.zero_le _) v
 exact ⟨hb0.os,hb0.tape,hb0.output,hb0.size,λb hb hI=>Below.heap_setCell _ _ _ _ λe=>hI (e ▸ hB),λb hb=>.inl hb⟩
section
open Go.RowKit
end
section
open Go.RowKit
end
section
open Go.RowKit
end

end Go.Proofs.YtcfmiocdlcapoaaGreat
