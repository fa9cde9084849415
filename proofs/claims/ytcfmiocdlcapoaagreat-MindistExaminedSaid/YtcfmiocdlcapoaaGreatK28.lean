/-  -/
import Derived.Test.YtcfmiocdlcapoaaGreatK25
import Derived.Test.YtcfmiocdlcapoaaGreatK22
import Derived.Test.YtcfmiocdlcapoaaGreatK19
import Derived.Test.YtcfmiocdlcapoaaGreatK21
import Derived.Test.YtcfmiocdlcapoaaGreatK12
import Derived.Laws.Bits64
import Derived.Laws.Bits64b
import Derived.Test.YtcfmiocdlcapoaaGreatK10
namespace Go.Proofs.YtcfmiocdlcapoaaGreat
set_option linter.unusedVariables false
set_option linter.unusedSimpArgs false
set_option linter.unusedSectionVars false

section
section
variable {O : FOps} {El : Int->Prop} {m : Nat}
theorem Piv.lessT (F : Fld O El) {L : List (List Int)} {P : List Int} {c : Nat} (h : Piv L P c) (hL : Rws El m L) {v : List Int} (hv : Vc El L.length v) {φ : List Int->Int} (hφ : Lin O El L.length φ)
  {t : Nat} (ht : t<=P.length) (h0 : ∀j,j<t->φ (colS L (nth P j).toNat)=0) : ∀k,k<=t->Vc El L.length (lessTo O L P v k)/\φ (lessTo O L P v k)=φ v/\∀i,i<L.length->nth (lessTo O L P v k) i=if i<k then 0 else nth v i
 | 0,_=>⟨hv,rfl,λi _=>by rw [if_neg (by omega)];rfl⟩
 | k+1,hk=>by
  obtain ⟨h1,h2,h3⟩:=h.lessT F hL hv hφ ht h0 k (by omega)
  have hle:=h.le
  have hcol:=colS_vc hL F.zero (nth P k).toNat
  have hx:=h1.at (i:=k) (by omega)
  refine ⟨h1.sub F hcol hx,?_,λi hi=>?_⟩
  ·rw [lessTo,hφ.sub _ _ _ h1 hcol hx,h0 k (by omega),F.mzero hx,F.nzero,F.add_zero _ (hφ.el _ h1),h2]
  ·rw [lessTo,nth_subRow O _ _ _ i (by rw [hcol.1,h1.1]) (by rw [h1.1];exact hi),nth_colS L _ i hi,h.one k i (by omega) hi]
   by_cases e : i=k
   ·subst e
    rw [if_pos rfl,F.mone hx,F.add_neg _ hx,if_pos (by omega)]
   ·rw [if_neg e,F.mzero hx,F.nzero,F.add_zero _ (h1.at hi),h3 i hi]
    by_cases e2 : i<k
    ·rw [if_pos e2,if_pos (by omega)]
    ·rw [if_neg e2,if_neg (by omega)]
theorem asc_cut {P : List Int} (ha : ∀i j,i<j->j<P.length->nth P i<nth P j) {x : Int} (hx : ¬ x ∈ P) : ∀k,k<=P.length->∃t,t<=k/\(∀j,j<t->nth P j<x)/\∀j,t<=j->j<k->x<nth P j
 | 0,_=>⟨0,Nat.le_refl _,λj hj=>by omega,λj _ hj=>by omega⟩
 | k+1,hk=>by
  obtain ⟨t,h1,h2,h3⟩:=asc_cut ha hx k (by omega)
  have hne : nth P k ≠ x:=λe=>hx (e ▸ nth_mem (by omega))
  by_cases ht : t=k
  ·subst ht
   by_cases hlt : nth P t<x
   ·exact ⟨t+1,by omega,λj hj=>by
     by_cases e : j=t
     ·subst e;exact hlt
     ·exact h2 j (by omega),λj h4 h5=>by omega⟩
   ·exact ⟨t,by omega,h2,λj h4 h5=>by
     obtain rfl : j=t:=by omega
     omega⟩
  ·refine ⟨t,by omega,h2,λj h4 h5=>?_⟩
   by_cases e : j=k
   ·subst e
    have:=ha t j (by omega) (by omega)
    have:=h3 t (Nat.le_refl _) (by omega)
    omega
   ·exact h3 j h4 (by omega)
theorem lead_in (F : Fld O El) {R : List (List Int)} {P : List Int} (hR : Rws El m R) (hP : Piv R P m) (hl : Lead R P) {f : Nat->Int} (hf : RS O El m R f) {x : Nat} (hx : x<m) (h0 : ∀y,y<x->f y=0) (hne : f x ≠ 0) : (x : Int) ∈ P:=by
 refine Classical.byContradiction λhn=>hne ?_
 obtain ⟨t,h1,h2,h3⟩:=asc_cut hl.asc hn P.length (Nat.le_refl _)
 obtain ⟨e,he,h⟩:=hf
 have hlt:=hP.lt
 obtain ⟨q1,q2,q3⟩:=hP.lessT F hR (colS_vc hR F.zero x) he h1 (λj hj=>by
  have:=h2 j hj
  have:=hlt j (by omega)
  rw [<- h _ (by omega)]
  exact h0 _ (by omega)) t (Nat.le_refl _)
 rw [h x hx,<- q2]
 refine he.zero F q1 λi hi=>?_
 rw [q3 i hi]
 split
 ·rfl
 ·rw [nth_colS R x i hi]
  by_cases hi2 : i<P.length
  ·have:=h3 i (by omega) hi2
   exact hl.lead i x hi2 (by omega)
  ·exact hP.zero i x (by omega) hi hx
theorem piv_zero (F : Fld O El) {R : List (List Int)} {P : List Int} (hR : Rws El m R) (hP : Piv R P m) {f : Nat->Int} (hf : RS O El m R f) (h0 : ∀j,j<P.length->f (nth P j).toNat=0) : ∀x,x<m->f x=0:=λx hx=>by
 obtain ⟨e,he,h⟩:=hf
 rw [h x hx]
 refine hP.all F hR hx e he λy hy=>?_
 obtain ⟨j,hj,rfl⟩:=(mem_grL P _ _).1 hy
 rw [<- h _ (by have:=hP.lt j hj;omega)]
 exact h0 j hj
theorem asc_pair {P : List Int} (ha : ∀i j,i<j->j<P.length->nth P i<nth P j) : P.Pairwise λx y=>x<y:=by
 rw [List.pairwise_iff_getElem]
 intro i j hi hj hij
 have:=ha i j hij hj
 rwa [nth_getElem hi,nth_getElem hj] at this
theorem asc_same {P P' : List Int} (ha : ∀i j,i<j->j<P.length->nth P i<nth P j) (ha' : ∀i j,i<j->j<P'.length->nth P' i<nth P' j) (h : ∀x,x ∈ P ↔ x ∈ P') : P=P':=by
 have h1:=asc_pair ha
 have h2:=asc_pair ha'
 exact pair_unique (h1.imp λh=>by omega) (h2.imp λh=>by omega) ((List.perm_ext_iff_of_nodup (h1.imp λh=>by omega) (h2.imp λh=>by omega)).2 h)
theorem can_uniq (F : Fld O El) {R R' : List (List Int)} {P P' : List Int} (hR : Rws El m R) (hR' : Rws El m R') (hP : Piv R P m) (hP' : Piv R' P' m) (hl : Lead R P) (hl' : Lead R' P') (hlen : R.length=P.length) (hlen' : R'.length=P'.length)
  (h1 : RSub O El m R R') (h2 : RSub O El m R' R) : R=R':=by
 have key : ∀ {R R' : List (List Int)} {P P' : List Int},Rws El m R->Piv R P m->Lead R P->Piv R' P' m->Lead R' P'->R'.length=P'.length->RSub O El m R' R->∀x ∈ P',x ∈ P:=λ{R R' P P'} hR hP hl hP' hl' hlen' h2 x hx=>by
  obtain ⟨i,hi,rfl⟩:=List.mem_iff_getElem.1 hx
  have hb:=hP'.lt i hi
  have h3:=lead_in F hR hP hl (h2 i (by omega)) (x:=(nth P' i).toNat) (by omega) (λy hy=>hl'.lead i y hi hy) (by
   show nth (nthR R' i) (nth P' i).toNat ≠ 0
   rw [hP'.one i i hi (by omega),if_pos rfl];decide)
  rw [show (((nth P' i).toNat : Nat) : Int)=nth P' i by omega,nth_getElem hi] at h3
  exact h3
 have hPP : P=P':=asc_same hl.asc hl'.asc λx=>⟨key hR' hP' hl' hP hl hlen h1 x,key hR hP hl hP' hl' hlen' h2 x⟩
 subst hPP
 refine List.ext_getElem (by omega) λi hi hi'=>?_
 have hr:=hR _ (List.getElem_mem hi)
 have hr':=hR' _ (List.getElem_mem hi')
 refine nth_ext (by rw [hr.1,hr'.1]) λx hx=>?_
 rw [hr.1] at hx
 have hz:=piv_zero F hR hP ((h2 i hi').comb F (RS.row F (m:=m) hi) F.one) (λj hj=>by
  show O.add (nth (nthR R' i) (nth P j).toNat) (O.neg (O.mul (nth (nthR R i) (nth P j).toNat) 1))=0
  rw [hP'.one j i hj hi',hP.one j i hj hi]
  split
  ·rw [F.mone F.one,F.add_neg _ F.one]
  ·rw [F.mone F.zero,F.add_neg _ F.zero]) x hx
 have hz' : O.add (nth (nthR R' i) x) (O.neg (O.mul (nth (nthR R i) x) 1))=0:=hz
 have e1 : El (nth R[i] x):=hr.2 _ (nth_mem (by rw [hr.1];exact hx))
 have e2 : El (nth R'[i] x):=hr'.2 _ (nth_mem (by rw [hr'.1];exact hx))
 rw [nthR_getElem hi,nthR_getElem hi',F.mone e1] at hz'
 have h4:=F.neg_of e2 (F.cl.neg _ e1) hz'
 have h5:=congrArg O.neg h4
 rwa [F.neg_neg e1,F.neg_neg e2] at h5
theorem unitR_vc (F : Fld O El) (n k : Nat) : Vc El n (unitR n k):=by
 refine ⟨unitR_len n k,λx hx=>?_⟩
 unfold unitR at hx
 rcases List.mem_or_eq_of_mem_set hx with hx | rfl
 ·rw [List.eq_of_mem_replicate hx];exact F.zero
 ·exact F.one
theorem nth_unitR {n k i : Nat} (hk : k<n) : nth (unitR n k) i=if i=k then 1 else 0:=by
 unfold unitR
 rw [nth_set _ _ _ _ (by simpa using hk)]
 split
 ·rfl
 ·unfold nth
  simp only [List.getD_eq_getElem?_getD,List.getElem?_replicate]
  split <;> rfl
def cutTo (O : FOps) (n : Nat) (v : List Int) : Nat->List Int
 | 0=>v
 | k+1=>subRow O (cutTo O n v k) (nth v k) (unitR n k)
theorem cut_form (F : Fld O El) {n : Nat} {φ : List Int->Int} (hφ : Lin O El n φ) {v : List Int} (hv : Vc El n v) : ∀k,k<=n->Vc El n (cutTo O n v k)/\(∀i,i<n->nth (cutTo O n v k) i=if i<k then 0 else nth v i) /\
  O.add (φ (cutTo O n v k)) (dotN O (λt=>φ (unitR n t)) (λt=>nth v t) k)=φ v
 | 0,_=>⟨hv,λi _=>by rw [if_neg (by omega)];rfl,by rw [dotN];exact F.add_zero _ (hφ.el _ hv)⟩
 | k+1,hk=>by
  obtain ⟨h1,h2,h3⟩:=cut_form F hφ hv k (by omega)
  have hu:=unitR_vc F n k
  have hx:=hv.at (i:=k) (by omega)
  refine ⟨h1.sub F hu hx,λi hi=>?_,?_⟩
  ·rw [cutTo,nth_subRow O _ _ _ i (by rw [hu.1,h1.1]) (by rw [h1.1];exact hi),nth_unitR (by omega),h2 i hi]
   by_cases e : i=k
   ·subst e
    rw [if_pos rfl,if_neg (by omega),F.mone hx,F.add_neg _ hx,if_pos (by omega)]
   ·rw [if_neg e,F.mzero hx,F.nzero]
    by_cases e2 : i<k
    ·rw [if_pos e2,if_pos (by omega),F.add_zero _ F.zero]
    ·rw [if_neg e2,if_neg (by omega),F.add_zero _ (hv.at hi)]
  ·have hm:=F.cl.mul _ _ hx (hφ.el _ hu)
   have hd:=dotN_el F (a:=λt=>φ (unitR n t)) (b:=λt=>nth v t) k (λp _=>hφ.el _ (unitR_vc F n p)) (λp hp=>hv.at (by omega))
   rw [cutTo,hφ.sub _ _ _ h1 hu hx,dotN,F.mul_comm _ _ (hφ.el _ hu) hx,F.add4 (hφ.el _ h1) (F.cl.neg _ hm) hd hm,F.negadd hm,F.add_zero _ (F.cl.add _ _ (hφ.el _ h1) hd),h3]
theorem form_unit (F : Fld O El) {n : Nat} {φ : List Int->Int} (hφ : Lin O El n φ) {v : List Int} (hv : Vc El n v) : φ v=dotN O (λt=>φ (unitR n t)) (λt=>nth v t) n:=by
 obtain ⟨h1,h2,h3⟩:=cut_form F hφ hv n (Nat.le_refl _)
 rw [<- h3,hφ.zero F h1 λi hi=>by rw [h2 i hi,if_pos hi],F.zadd (dotN_el F n (λp _=>hφ.el _ (unitR_vc F n p)) (λp hp=>hv.at hp))]
theorem cmb_dot (F : Fld O El) {L : List (List Int)} (hL : Rws El m L) {x : List Int} (hx : ∀k,k<L.length->El (nth x k)) {y : Nat} (hy : y<m) : ∀k,k<=L.length->nth (cmbTo O m x L k) y=dotN O (λt=>nth x t) (λt=>nth (nthR L t) y) k
 | 0,_=>by
  rw [cmbTo,dotN]
  unfold nth
  simp only [List.getD_eq_getElem?_getD,List.getElem?_replicate]
  split <;> rfl
 | k+1,hk=>by
  have ih:=cmb_dot F hL hx hy k (by omega)
  obtain ⟨h1,_⟩:=cmb_rs F hL hx k (by omega)
  have hr:=hL.row (i:=k) (by omega)
  have hd:=dotN_el F (a:=λt=>nth x t) (b:=λt=>nth (nthR L t) y) k (λp hp=>hx p (by omega)) (λp hp=>Vc.at (hL.row (i:=p) (by omega)) hy)
  rw [cmbTo,dotN]
  split
  ·rename_i e0
   rw [ih,e0,F.zmul (Vc.at hr hy),F.add_zero _ hd]
  ·rw [nth_addRow O _ _ _ y (by rw [hr.1,h1.1]) (by rw [h1.1];exact hy),ih]
   split
   ·rename_i e1
    show _=O.add _ (O.mul (nth x k) (nth (nthR L k) y))
    rw [e1,F.mzero (hx k (by omega)),F.add_zero _ hd]
   ·rfl
theorem asc_id {P : List Int} {k : Nat} (hl : P.length=k) (hb : ∀j,j<k->0<=nth P j/\nth P j<k) (ha : ∀i j,i<j->j<P.length->nth P i<nth P j) : ∀j,j<k->nth P j=j:=by
 have h1 : ∀j,j<k->(j : Int)<=nth P j:=λj=>by
  induction j with
  | zero=>intro h;exact (hb 0 h).1
  | succ j ih=>intro h;have:=ih (by omega);have:=ha j (j+1) (by omega) (by omega);omega
 have h2 : ∀d j,j+d+1=k->nth P j<=j:=λd=>by
  induction d with
  | zero=>intro j h;have:=hb j (by omega);omega
  | succ d ih=>intro j h;have:=ih (j+1) (by omega);have:=ha j (j+1) (by omega) (by omega);omega
 intro j hj
 have:=h1 j hj
 have:=h2 (k - j - 1) j (by omega)
 omega
theorem sys_form (F : Fld O El) {L : List (List Int)} (hL : Rws El m L) {Q : List Int} (hQ : InN m Q) (hl : Q.length=L.length) (hg : (grS O L Q).length=Q.length) (i : Nat) (hi : i<L.length) :
  ∃e,Lin O El L.length e/\(∀y,y<m->nth (nthR (sysL O m L Q) i) y=e (colS L y))/\∀j,j<Q.length->e (colS L (nth Q j).toNat)=if i=j then 1 else 0:=by
 have hD:=pick_rws hL hQ
 have hpv:=sys_pv F hL hQ hl hg
 have hJr:=joinL_rws hD (unit_rws F.zero F.one Q.length)
 have hDl : (L.map (pickL Q)).length=Q.length:=by rw [List.length_map,hl]
 have hJl : (joinL (L.map (pickL Q)) (unitL Q.length)).length=Q.length:=by simp [joinL,unitL_len,hl]
 have hJt:=joinL_take (D:=L.map (pickL Q)) (U:=unitL Q.length) (k:=Q.length) (by rw [unitL_len,hDl]) (λr hr=>(hD r hr).1)
 have hJd:=joinL_drop (D:=L.map (pickL Q)) (U:=unitL Q.length) (k:=Q.length) (by rw [unitL_len,hDl]) (λr hr=>(hD r hr).1)
 obtain ⟨J,hJ⟩ : ∃J,joinL (L.map (pickL Q)) (unitL Q.length)=J:=⟨_,rfl⟩
 have hsys : sysL O m L Q=mtL O m ((elimTo O J Q.length).1.map (List.drop Q.length)) L:=by rw [sysL,invL,hJ]
 rw [hJ] at hpv hJr hJl hJt hJd
 obtain ⟨h1,h2,_⟩:=elim_inv F hJr Q.length (by omega)
 have h3:=elim_lead F hJr Q.length (by omega)
 have hel : (elimTo O J Q.length).1.length=Q.length:=by rw [elimTo_length,hJl]
 have hEr:=elim_rws F hJr Q.length (by omega)
 have hid:=asc_id hpv (λj hj=>h1.lt j (by omega)) h3.asc
 obtain ⟨e,he,hx⟩:=h2 i (by omega)
 rw [hJl,hl] at he
 have hcolD : ∀x,x<Q.length->colS J x=colS L (nth Q x).toNat:=λx hx=>by
  have e1 : colS J x=colS (J.map (List.take Q.length)) x:=by
   unfold colS
   rw [List.map_map]
   exact List.map_congr_left λr _=>(nth_take hx).symm
  rw [e1,hJt]
  unfold colS
  rw [List.map_map]
  exact List.map_congr_left λr _=>nth_pickL Q r hx
 have hcolU : ∀x,x<Q.length->colS J (Q.length+x)=unitR L.length x:=λx hx=>by
  have e1 : colS J (Q.length+x)=colS (J.map (List.drop Q.length)) x:=by
   unfold colS
   rw [List.map_map]
   refine List.map_congr_left λr _=>?_
   unfold nth
   simp only [List.getD_eq_getElem?_getD,Function.comp,List.getElem?_drop]
  rw [e1,hJd]
  refine nth_ext (by rw [colS_length,unitL_len,unitR_len,hl]) λt ht=>?_
  rw [colS_length,unitL_len] at ht
  rw [nth_colS _ _ _ (by rw [unitL_len];exact ht),nthR_unit ht,nth_unitR ht,<- hl,nth_unitR hx]
  by_cases e : x=t
  ·subst e;simp
  ·rw [if_neg e,if_neg λe2=>e e2.symm]
 have hT : ∀t,t<Q.length->nth (nthR ((elimTo O J Q.length).1.map (List.drop Q.length)) i) t=e (unitR L.length t):=λt ht=>by
  rw [nthR_map0 _ List.drop_nil,<- hcolU t ht,<- hx _ (by omega)]
  unfold nth
  simp only [List.getD_eq_getElem?_getD,List.getElem?_drop]
 have hTl : ((elimTo O J Q.length).1.map (List.drop Q.length)).length=L.length:=by rw [List.length_map,hel,hl]
 refine ⟨e,he,λy hy=>?_,λj hj=>?_⟩
 ·rw [hsys,mtL,nthR_mapf _ _ (by rw [hTl];exact hi)]
  rw [cmb_dot F hL (λt ht=>by rw [hT t (by omega)];exact he.el _ (unitR_vc F _ t)) hy _ (Nat.le_refl _),form_unit F he (colS_vc hL F.zero y)]
  exact dotN_congr _ λt ht=>⟨hT t (by omega),(nth_colS L y t ht).symm⟩
 ·rw [<- hcolD j hj,<- hx _ (by omega)]
  have:=h1.one j i (by omega) (by omega)
  rw [hid j hj,Int.toNat_natCast] at this
  exact this
end
section
variable {P M : Int} {mod : List Int} {m : Nat} {L : List (List Int)}
theorem sys_law (hE : codeE P M mod m L=0) {Q : List Int} (hQ : InN m Q) (hl : Q.length=L.length) (hg : (grS (tblOf P M.toNat mod).ops L Q).length=Q.length) :
  Rws (tblOf P M.toNat mod).El m (sysL (tblOf P M.toNat mod).ops m L Q)/\(sysL (tblOf P M.toNat mod).ops m L Q).length=L.length/\(sysL (tblOf P M.toNat mod).ops m L Q).map (pickL Q)=unitL Q.length /\
  canS (tblOf P M.toNat mod) (sysL (tblOf P M.toNat mod).ops m L Q) m=L:=by
 obtain ⟨N',e,hm1,hm64,F,hR⟩:=codeE_fld hE
 obtain rfl : m=N':=by omega
 have hfull:=code_full hE
 have h6:=(spaceE_zero (codeE_zero hE).2.2.2).2
 rw [Int.toNat_natCast] at h6
 have hcan : canO (tblOf P M.toNat mod).ops m L=L:=h6
 obtain ⟨hPv,hLd⟩:=canO_piv F hR
 have hcl:=canO_len F hR
 rw [hcan] at hPv hLd hcl
 have hform:=λi hi=>sys_form F hR hQ hl hg i hi
 have hD:=pick_rws hR hQ
 have hIr:=invL_rws F hD
 have hIl : (invL (tblOf P M.toNat mod).ops (L.map (pickL Q)) Q.length).length=L.length:=by rw [invL_len _ (by rw [List.length_map,hl]),hl]
 have hSl : (sysL (tblOf P M.toNat mod).ops m L Q).length=L.length:=by unfold sysL mtL;rw [List.length_map,hIl]
 have hSr : Rws (tblOf P M.toNat mod).El m (sysL (tblOf P M.toNat mod).ops m L Q):=λr hr=>by
  unfold sysL mtL at hr
  obtain ⟨s,hs,rfl⟩:=List.mem_map.1 hr
  have hs2:=hIr s hs
  exact (cmb_rs F hR (λk hk=>hs2.2 _ (nth_mem (by rw [hs2.1];omega))) _ (Nat.le_refl _)).1
 show _/\_/\_/\canO (tblOf P M.toNat mod).ops m (sysL (tblOf P M.toNat mod).ops m L Q)=L
 generalize sysL (tblOf P M.toNat mod).ops m L Q=S at *
 generalize (tblOf P M.toNat mod).ops=O at *
 generalize (tblOf P M.toNat mod).El=El at *
 refine ⟨hSr,hSl,?_,?_⟩
 ·refine List.ext_getElem (by rw [List.length_map,unitL_len,hSl,hl]) λi h1 h2=>?_
  rw [List.length_map,hSl] at h1
  rw [<- nthR_getElem,<- nthR_getElem,nthR_mapf _ _ (by rw [hSl];exact h1),nthR_unit (by omega)]
  obtain ⟨e,he,hy,hj⟩:=hform i h1
  refine nth_ext (by rw [unitR_len];simp [pickL]) λj hj2=>?_
  have hj3 : j<Q.length:=by simpa [pickL] using hj2
  have hqj:=hQ j hj3
  rw [nth_pickL Q _ hj3,nth_unitR (by omega),hy _ (by omega),hj j hj3]
  by_cases e2 : i=j
  ·subst e2;simp
  ·rw [if_neg e2,if_neg λe3=>e2 e3.symm]
 ·obtain ⟨k1,k2⟩:=canO_piv F hSr
  have k3:=canO_len F hSr
  obtain ⟨s1,s2⟩:=canO_rsub F hSr
  have hSL : RSub O El m S L:=λi hi=>by
   obtain ⟨e,he,hy,_⟩:=hform i (by omega)
   exact ⟨e,he,hy⟩
  have hclA : ∀x,x<m->clV O El L.length (colS L) (gA Q) x:=λx hx=>by
   refine Classical.byContradiction λhn=>?_
   have h1:=rkQ_out F hR (Q:=Q) (x:=(x : Int)) (by simpa using hn)
   have h2:=Rk.le (col_clo F hR) (rkQ_rk F hR (Q ++ [(x : Int)])) hfull λy hy=>by
    refine (col_clo F hR).mem _ _ ?_
    rw [List.mem_range]
    obtain ⟨z,hz,rfl⟩:=mem_gA.1 hy
    rcases List.mem_append.1 hz with hz | hz
    ·obtain ⟨j,hj,rfl⟩:=List.mem_iff_getElem.1 hz
     have:=hQ j hj
     rw [nth_getElem hj] at this
     omega
    ·rw [List.mem_singleton] at hz;subst hz;simpa using hx
   have h3 : rkQ O L Q=Q.length:=hg
   omega
  have hLS : RSub O El m L S:=λi hi=>by
   have hcx : ∀k,k<S.length->El (nth (pickL Q (nthR L i)) k):=λk hk=>by
    have hk2 : k<Q.length:=by omega
    have:=hQ k hk2
    rw [nth_pickL Q _ hk2]
    exact Vc.at (hR.row (i:=i) hi) (by omega)
   obtain ⟨c1,c2⟩:=cmb_rs F hSr hcx S.length (Nat.le_refl _)
   have hd:=(RS.row F (m:=m) (O:=O) (El:=El) hi).comb F (hSL.rs c2) F.one
   obtain ⟨e,he,hx⟩:=hd
   have hz : ∀x,x<m->O.add (nth (nthR L i) x) (O.neg (O.mul (nth (cmbTo O m (pickL Q (nthR L i)) S S.length) x) 1))=0:=λx hxm=>by
    have h1 : O.add (nth (nthR L i) x) (O.neg (O.mul (nth (cmbTo O m (pickL Q (nthR L i)) S S.length) x) 1))=e (colS L x):=hx x hxm
    rw [h1]
    refine hclA x hxm e he λy hy=>?_
    obtain ⟨q,hq,rfl⟩:=mem_gA.1 hy
    obtain ⟨j,hj,rfl⟩:=List.mem_iff_getElem.1 hq
    have hqj:=hQ j hj
    rw [nth_getElem hj] at hqj
    have h2 : O.add (nth (nthR L i) (Q[j]).toNat) (O.neg (O.mul (nth (cmbTo O m (pickL Q (nthR L i)) S S.length) (Q[j]).toNat) 1))=e (colS L (Q[j]).toNat):=hx _ (by omega)
    rw [<- h2]
    have hvi : El (nth (nthR L i) (Q[j]).toNat):=Vc.at (hR.row (i:=i) hi) (by omega)
    have h3 : nth (cmbTo O m (pickL Q (nthR L i)) S S.length) (Q[j]).toNat=nth (nthR L i) (Q[j]).toNat:=by
     rw [cmb_dot F hSr hcx (by omega) _ (Nat.le_refl _)]
     have hone : ∀t,t<S.length->nth (nthR S t) (Q[j]).toNat=if t=j then 1 else 0:=λt ht=>by
      obtain ⟨e',_,hy',hj'⟩:=hform t (by omega)
      have h4:=hj' j hj
      rw [nth_getElem hj] at h4
      rw [hy' _ (by omega),h4]
     have hpj : nth (pickL Q (nthR L i)) j=nth (nthR L i) (Q[j]).toNat:=by rw [nth_pickL Q _ hj,nth_getElem hj]
     rw [dotN_one F (x:=j) (by
      show El (O.mul (nth (pickL Q (nthR L i)) j) (nth (nthR S j) (Q[j]).toNat))
      rw [hone j (by omega),if_pos rfl,hpj,F.mone hvi];exact hvi) S.length (λp hp hpj=>by
      show O.mul (nth (pickL Q (nthR L i)) p) (nth (nthR S p) (Q[j]).toNat)=0
      rw [hone p hp,if_neg hpj,F.mzero (hcx p hp)]),if_pos (by omega)]
     show O.mul (nth (pickL Q (nthR L i)) j) (nth (nthR S j) (Q[j]).toNat)=_
     rw [hone j (by omega),if_pos rfl,hpj,F.mone hvi]
    rw [h3,F.mone hvi,F.add_neg _ hvi]
   refine c2.congr λx hxm=>?_
   have h1:=hz x hxm
   have hvi : El (nth (nthR L i) x):=Vc.at (hR.row (i:=i) hi) hxm
   have hvc:=c1.at hxm
   rw [F.mone hvc] at h1
   have h4:=F.neg_of hvi (F.cl.neg _ hvc) h1
   have h5:=congrArg O.neg h4
   rw [F.neg_neg hvc,F.neg_neg hvi] at h5
   exact h5.symm
  exact can_uniq F (canO_rws F hSr) hR k1 hPv k2 hLd k3 hcl (s1.trans hSL) (hLS.trans s2)
end
end

section
open Go.RowKit
variable {O : FOps} {El : Int->Prop} {m : Nat} {L : List (List Int)}
structure HInv (O : FOps) (El : Int->Prop) (m : Nat) (L R : List (List Int)) (Z : List Int) : Prop where
 rws : Rws El m R
 sub : RSub O El m R L
 zero : ∀r ∈ R,∀z ∈ Z,nth r z.toNat=0
 all : ∀f,RS O El m L f->(∀z ∈ Z,f z.toNat=0)->RS O El m R f
 cnt : R.length+rkQ O L Z=L.length
end

section
open Go.RowKit
structure RX where
 a : Option Addr
 c : Nat
 l : List Int
structure MatA (A : Nat->Prop) (w : World) (a : Option Addr) (n : Nat) (L : List (List Int)) : Prop where
 len : L.length=n
 pl : Pl a n
 max : n<=maxLen
 no : 0<n->¬ A (ablk a)
 cell : ∀i,i<n->∃b m c,w.cell? ⟨ablk a,aoff a+i,none⟩=some (.slice b m c)/\Ints w b m (nthR L i)/\(0<m->¬ A (ablk b))
theorem MatA.mat {A : Nat->Prop} {w : World} {a : Option Addr} {n : Nat} {L : List (List Int)} (h : MatA A w a n L) : Mat w a n L :=
 ⟨h.len,h.pl,h.max,λi hi=>by obtain ⟨b,m,c,h1,h2,_⟩:=h.cell i hi;exact ⟨b,m,c,h1,h2⟩⟩
theorem MatA.moves {A A' : Nat->Prop} {w w' : World} {a : Option Addr} {n : Nat} {L : List (List Int)} (h : MatA A w a n L) (hM : Moves w w' A A') : MatA A w' a n L :=
 ⟨h.len,h.pl,h.max,h.no,λi hi=>by
  obtain ⟨b,m,c,h1,h2,h3⟩:=h.cell i hi
  exact ⟨b,m,c,hM.cell h1 (h.no (by omega)),h2.moves hM h3,h3⟩⟩
theorem MatA.keep {A : Nat->Prop} {w w' : World} {a : Option Addr} {n : Nat} {L : List (List Int)} (h : MatA A w a n L) (hb : Below w.heap.size w w') : MatA A w' a n L:=h.moves (Moves.of_below hb A)
variable {w : World} {b : Nat} {G : Tbl}
end

section
open Go.RowKit
def cmpL : List Int->List Int->Int
 | [],[]=>0
 | [],_ :: _=>-1
 | _ :: _,[]=>1
 | x :: a,y :: b=>if x<y then -1 else if y<x then 1 else cmpL a b
end

section
set_option maxHeartbeats 2000000

open Go.RowKit
theorem isNaN_any (x : Int) (w : World) : Calls Tryz.prog 247 #[.int .i64 x] w λe w'=>e = .returned (.bool false)/\w=w':=by
 go_enter Tryz.func247,Tryz.ntmps247
 go_wp2
 go_ret
 exact ⟨by simp,rfl⟩
def cmp1 (x y : Int) : Int:=if x<y then -1 else if y<x then 1 else 0
theorem cmpInt_any (x y : Int) (w : World) : Calls Tryz.prog 258 #[.int .i64 x,.int .i64 y] w λe w'=>e = .returned (.int .i64 (cmp1 x y))/\w=w':=by
 obtain ⟨r,hr⟩ : ∃r,cmp1 x y=r:=⟨_,rfl⟩
 rw [hr]
 go_enter Tryz.func258,Tryz.ntmps258
 unfold cmp1 at hr
 by_cases h1 : x<y
 ·have d1 : decide (x<y)=true:=by simpa using h1
  rw [if_pos h1] at hr
  clear h1
  go_wp2_with (go_at_call 247;refine (isNaN_any _ _).mono ?_;rintro e w' ⟨rfl,rfl⟩)
  go_ret
  exact ⟨by rw [<- hr];rfl,rfl⟩
 ·have d1 : decide (x<y)=false:=by simpa using h1
  rw [if_neg h1] at hr
  by_cases h2 : y<x
  ·have d2 : decide (y<x)=true:=by simpa using h2
   rw [if_pos h2] at hr
   clear h1 h2
   go_wp2_with (go_at_call 247;refine (isNaN_any _ _).mono ?_;rintro e w' ⟨rfl,rfl⟩)
   go_ret
   exact ⟨by rw [<- hr];rfl,rfl⟩
  ·have d2 : decide (y<x)=false:=by simpa using h2
   rw [if_neg h2] at hr
   clear h1 h2
   go_wp2_with (go_at_call 247;refine (isNaN_any _ _).mono ?_;rintro e w' ⟨rfl,rfl⟩)
   go_ret
   exact ⟨by rw [<- hr];rfl,rfl⟩
theorem cmpL_at : ∀ {a b : List Int} {k : Nat},(∀j,j<k->nth a j=nth b j)->k<a.length->k<b.length->cmp1 (nth a k) (nth b k) ≠ 0->cmpL a b=cmp1 (nth a k) (nth b k)
 | [],_,k,_,h,_,_=>by simp at h
 | x :: a,[],k,_,_,h,_=>by simp at h
 | x :: a,y :: b,0,_,_,_,hne=>by
  have e1 : nth (x :: a) 0=x:=rfl
  have e2 : nth (y :: b) 0=y:=rfl
  rw [e1,e2] at hne ⊢
  rw [cmpL]
  unfold cmp1 at hne ⊢
  split
  ·rfl
  ·split
   ·rfl
   ·rename_i h1 h2;rw [if_neg h1,if_neg h2] at hne;exact absurd rfl hne
 | x :: a,y :: b,k+1,h0,ha,hb,hne=>by
  have e : x=y:=by simpa [nth] using h0 0 (by omega)
  rw [cmpL,if_neg (by omega),if_neg (by omega)]
  have h1:=cmpL_at (a:=a) (b:=b) (k:=k) (λj hj=>by simpa [nth] using h0 (j+1) (by omega)) (by simpa using ha) (by simpa using hb) (by simpa [nth] using hne)
  simpa [nth] using h1
theorem cmpL_pre : ∀ {a b : List Int} {k : Nat},(∀j,j<k->nth a j=nth b j)->(k=a.length\/k=b.length)->k<=a.length->k<=b.length->cmpL a b=if a.length<b.length then -1 else if b.length<a.length then 1 else 0
 | [],[],_,_,_,_,_=>by simp [cmpL]
 | [],y :: b,_,_,_,_,_=>by simp [cmpL]
 | x :: a,[],_,_,_,_,_=>by simp [cmpL]
 | x :: a,y :: b,0,_,h,_,_=>by simp at h
 | x :: a,y :: b,k+1,h0,h,ha,hb=>by
  have e : x=y:=by simpa [nth] using h0 0 (by omega)
  rw [cmpL,if_neg (by omega),if_neg (by omega)]
  have h1:=cmpL_pre (a:=a) (b:=b) (k:=k) (λj hj=>by simpa [nth] using h0 (j+1) (by omega)) (by simpa using h) (by simpa using ha) (by simpa using hb)
  rw [h1];simp
theorem compare_any (a : Option Addr) (n c : Nat) (l : List Int) (a2 : Option Addr) (n2 c2 : Nat) (l2 : List Int) (w : World) (hi : Ints w a n l) (hi2 : Ints w a2 n2 l2) :
  Calls Tryz.prog 220 #[.slice a n c,.slice a2 n2 c2] w λe w'=>e = .returned (.int .i64 (cmpL l l2))/\w=w':=by
 have Hl:=Lib.hid hi.len
 have Hl2:=Lib.hid hi2.len
 have hpl:=hi.pl
 have hpl2:=hi2.pl
 have hmax:=hi.max
 have hmax2:=hi2.max
 unfold maxLen at hmax hmax2
 go_enter Tryz.func220,Tryz.ntmps220
 go_wp2_with fail
 go_loop [11] (λiv=>∃k : Nat,k<=n/\k<=n2/\iv = .int .i64 k/\Hid (∀j,j<k->nth l j=nth l2 j)) (λiv=>n - (intOf iv).toNat)
 case atStart=>exact ⟨0,Nat.zero_le _,Nat.zero_le _,rfl,λj hj=>by omega⟩
 case round =>
  obtain ⟨k,hk,hk2,rfl,hall⟩:=hrel
  by_cases hlt : k<n
  ·have ck:=hi.cell k hlt
   by_cases hlt2 : k<n2
   ·have ck2:=hi2.cell k hlt2
    have hge : decide ((n2 : Int)<=(k : Int))=false:=by simp;omega
    by_cases he : cmp1 (nth l k) (nth l2 k)=0
    ·have hEq : Hid (nth l k=nth l2 k):=by
      show _=_
      unfold cmp1 at he
      split at he
      ·omega
      ·split at he
       ·omega
       ·omega
     have hc:=cmpInt_any (nth l k) (nth l2 k)
     rw [he] at hc
     have Hc:=Lib.hid hc
     clear he hc
     go_wp2_with (go_at_call 258;refine (Hc.out _).mono ?_;rintro e w' ⟨rfl,rfl⟩)
     go_round
     case rel=>exact ⟨k+1,by omega,by omega,by go_num,λj hj=>by
      rcases Nat.lt_or_ge j k with h | h
      ·exact hall.out j h
      ·rw [show j=k by omega];exact hEq.out⟩
     case measure=>simp [intOf] <;> omega
    ·have Hv:=Lib.hid (cmpL_at hall.out (by rw [Hl.out];exact hlt) (by rw [Hl2.out];exact hlt2) he)
     have Hc:=Lib.hid (cmpInt_any (nth l k) (nth l2 k))
     have hne : (cmp1 (nth l k) (nth l2 k) != 0)=true:=by simpa using he
     clear he
     generalize cmp1 (nth l k) (nth l2 k)=r at *
     go_wp2_with (go_at_call 258;refine (Hc.out _).mono ?_;rintro e w' ⟨rfl,rfl⟩)
     go_ret
     exact ⟨ret_int Hv.out.symm,rfl⟩
   ·have hge : decide ((n2 : Int)<=(k : Int))=true:=by simp;omega
    have Hv : Hid (cmpL l l2=1):=by
     show _=_
     rw [cmpL_pre hall.out (.inr (by rw [Hl2.out];omega)) (by rw [Hl.out];exact hk) (by rw [Hl2.out];exact hk2),Hl.out,Hl2.out,if_neg (by omega),if_pos (by omega)]
    go_wp2_with fail
    go_ret
    exact ⟨ret_int Hv.out.symm,rfl⟩
  ·have Hv : Hid (cmpL l l2=if n<n2 then -1 else 0):=by
    show _=_
    rw [cmpL_pre hall.out (.inl (by rw [Hl.out];omega)) (by rw [Hl.out];exact hk) (by rw [Hl2.out];exact hk2),Hl.out,Hl2.out,if_neg (show ¬ n2<n by omega)]
   obtain rfl : k=n:=by omega
   by_cases h2 : k<n2
   ·rw [if_pos h2] at Hv
    go_wp2_with fail
    go_ret
    exact ⟨ret_int Hv.out.symm,rfl⟩
   ·rw [if_neg h2] at Hv
    go_wp2_with fail
    go_ret
    exact ⟨ret_int Hv.out.symm,rfl⟩
end

section
open Go.RowKit
end

section
open Go.RowKit
end

section
open Go.RowKit
theorem Box.setC {w : World} {b : Nat} {cs : List Value} (h : Box w b cs) (i : Nat) (v : Value) : Box (w.setCell ⟨b,i,none⟩ v) b (cs.set i v):=by
 refine ⟨by simpa using h.1,λj u hu=>?_,λj=>by rw [World.frozen?_setCell];exact h.2.2 j⟩
 by_cases e : j=i
 ·subst e
  by_cases hl : j<cs.length
  ·rw [List.getElem?_set_self hl] at hu
   cases hu
   exact World.cell?_setCell_same _ _ _ (h.2.1 j cs[j] (List.getElem?_eq_getElem hl))
  ·rw [List.set_eq_of_length_le (by omega),List.getElem?_eq_none (by omega)] at hu
   cases hu
 ·rw [List.getElem?_set_ne (by omega)] at hu
  rw [World.cell?_setCell_other _ _ _ _ (by simp <;> omega)]
  exact h.2.1 j u hu
end

section
open Go.RowKit
end

section
set_option maxRecDepth 100000
set_option maxHeartbeats 4000000

open Go.RowKit
theorem listG_any {w : World} {b : Nat} {G : Tbl} (q : Nat) (x : Int) (hc : w.cell? ⟨q,0,none⟩=some (.pointer (some ⟨b,0,none⟩))) (h : GFw w b G) :
  Calls Tryz.prog 137 #[.int .i64 x,.pointer (some ⟨q,0,none⟩)] w λe w'=>e = .returned (.bool (!(decide (0<=x) && decide (x<G.q))))/\w=w':=by
 go_enter Tryz.func137,Tryz.ntmps137
 go_wp2_with fail
 refine (gIs x h).mono ?_
 rintro e w' ⟨rfl,rfl⟩
 obtain ⟨z,hz⟩ : ∃z,(decide (0<=x) && decide (x<G.q))=z:=⟨_,rfl⟩
 have Hz:=Lib.hid hz
 rw [hz]
 clear hz
 cases z
 ·go_wp2_with fail
  go_ret
  exact ⟨ret_bool (by rw [Hz.out];rfl),rfl⟩
 ·go_wp2_with fail
  go_ret
  exact ⟨ret_bool (by rw [Hz.out];rfl),rfl⟩
theorem indexLG_any (p : Int->Bool) (q : Nat) (a : Option Addr) (n c : Nat) (l : List Int) (w : World) (hi : Ints w a n l) (hf : ∀k,k<n->Calls Tryz.prog 137 #[.int .i64 (nth l k),.pointer (some ⟨q,0,none⟩)] w λe w'=>e = .returned (.bool (p (nth l k)))/\w=w') :
  Calls Tryz.prog 97 #[.slice a n c,.func (.func 137) #[] #[.pointer (some ⟨q,0,none⟩)]] w λe w'=>∃z : Int,e = .returned (.int .i64 z)/\(0<=z ↔ l.any p=true)/\w=w':=by
 have hpl:=hi.pl
 have hmax:=hi.max
 have HF:=Lib.hid hf
 have Hl:=Lib.hid hi.len
 unfold maxLen at hmax
 clear hf
 go_enter Tryz.func97,Tryz.ntmps97
 go_wp2_with fail
 go_loop [8] (λiv=>∃k : Nat,k<=n/\iv = .int .i64 k/\Hid (∀j,j<k->p (nth l j)=false)) (λiv=>n - (intOf iv).toNat)
 case atStart=>exact ⟨0,Nat.zero_le _,rfl,λj hj=>by omega⟩
 case round =>
  obtain ⟨k,hk,rfl,hno⟩:=hrel
  by_cases hlt : k<n
  ·have ck:=hi.cell k hlt
   have hfk:=HF.out k hlt
   obtain ⟨z,hz⟩ : ∃z,p (nth l k)=z:=⟨_,rfl⟩
   rw [hz] at hfk
   have Hk:=Lib.hid hfk
   cases z
   ·have Hn : Hid (∀j,j<k+1->p (nth l j)=false):=λj hj=>by
     by_cases e : j=k
     ·subst e;exact hz
     ·exact hno.out j (by omega)
    clear hz hfk hno
    go_wp2_with fail
    refine Hk.out.mono ?_
    rintro e w' ⟨rfl,rfl⟩
    go_wp2_with fail
    go_round
    case rel=>exact ⟨k+1,by omega,by go_num,Hn.out⟩
    case measure=>simp [intOf] <;> omega
   ·have Hy : Hid (l.any p=true):=by
     show _=_
     rw [List.any_eq_true]
     exact ⟨nth l k,nth_mem (by rw [Hl.out];exact hlt),hz⟩
    clear hz hfk hno
    go_wp2_with fail
    refine Hk.out.mono ?_
    rintro e w' ⟨rfl,rfl⟩
    go_wp2_with fail
    go_ret
    exact ⟨k,rfl,⟨λ_=>by first | exact Hy.out | exact List.any_eq_true.1 Hy.out,λ_=>Int.natCast_nonneg _⟩,rfl⟩
  ·obtain rfl : k=n:=by omega
   have Hy : Hid (l.any p=false):=by
    show _=_
    rw [List.any_eq_false]
    intro x hx
    obtain ⟨j,hj,rfl⟩:=List.mem_iff_getElem.1 hx
    have:=hno.out j (by rw [<- Hl.out];exact hj)
    rw [nth_getElem hj] at this
    rw [this];decide
   go_wp2_with fail
   go_ret
   exact ⟨-1,rfl,⟨λh=>absurd h (by omega),λh=>by have h2 : l.any p=true:=(by first | exact h | exact List.any_eq_true.2 h);rw [Hy.out] at h2;exact absurd h2 (by decide)⟩,rfl⟩
theorem containsLG_any (p : Int->Bool) (q : Nat) (a : Option Addr) (n c : Nat) (l : List Int) (w : World) (hi : Ints w a n l) (hf : ∀k,k<n->Calls Tryz.prog 137 #[.int .i64 (nth l k),.pointer (some ⟨q,0,none⟩)] w λe w'=>e = .returned (.bool (p (nth l k)))/\w=w') :
  Calls Tryz.prog 136 #[.slice a n c,.func (.func 137) #[] #[.pointer (some ⟨q,0,none⟩)]] w λe w'=>e = .returned (.bool (l.any p))/\w=w':=by
 have Hc:=Lib.hid (indexLG_any p q a n c l w hi hf)
 clear hf
 go_enter Tryz.func136,Tryz.ntmps136
 go_wp2_with fail
 refine Hc.out.mono ?_
 rintro e w' ⟨z,rfl,hz,rfl⟩
 by_cases h0 : 0<=z
 ·have Hz : Hid (l.any p=true):=hz.1 h0
  have h0' : decide (0<=z)=true:=by simpa using h0
  clear hz h0
  go_wp2_with fail
  go_ret
  exact ⟨ret_bool Hz.out.symm,rfl⟩
 ·have Hz : Hid (l.any p=false):=by
   show _=_
   cases h : l.any p
   ·rfl
   ·exact absurd (hz.2 h) h0
  have h0' : decide (0<=z)=false:=by simpa using h0
  clear hz h0
  go_wp2_with fail
  go_ret
  exact ⟨ret_bool Hz.out.symm,rfl⟩
theorem any_els (q : Int) (l : List Int) : l.any (λx=>!(decide (0<=x) && decide (x<q))) = !(elsQ q l):=by
 unfold elsQ
 induction l with
 | nil=>rfl
 | cons x l ih =>
  rw [List.any_cons,List.all_cons,ih]
  unfold isQ
  cases (decide (0<=x) && decide (x<q)) <;> simp
theorem codeListG_any (P M : Int) (am : Option Addr) (mn cm : Nat) (mod : List Int) (ax : Option Addr) (nx cx : Nat) (x : List Int) (n : Nat) (w : World) (hmod : Ints w am mn mod) (hx : Ints w ax nx x) (hB : fieldB P M mod=true) :
  Calls Tryz.prog 71 #[.agg #[.int .i64 P,.int .i64 M,.slice am mn cm],.slice ax nx cx,.int .i64 n] w λe w'=>e = .returned (.int .i64 (lstE (tblOf P M.toNat mod).q x n))/\Below w.heap.size w w':=by
 have hxl:=hx.len
 go_enter Tryz.func71,Tryz.ntmps71
 go_upto_region 1 with fail
 obtain ⟨W,hW⟩ : ∃W : World,W=w.alloc (.cells #[.int .i64 P,.int .i64 M,.slice am mn cm] 24):=⟨_,rfl⟩
 rw [<- hW]
 have hbW : Below w.heap.size w W:=by rw [hW];exact below1 _ _
 have x0 : Box W w.heap.size [.int .i64 P,.int .i64 M,.slice am mn cm]:=by rw [hW];exact Box.new _ _ _ rfl
 have c0:=x0.cell 0 rfl
 have c1:=x0.cell 1 rfl
 have c2:=x0.cell 2 rfl
 clear hW x0
 by_cases hnx : nx=n
 rotate_left
 ·have hnn : ((nx : Int) != n)=true:=by simp;omega
  have HL : Hid (lstE (tblOf P M.toNat mod).q x n=4):=by show _=_;rw [lstE,if_neg (by omega)]
  clear hnx hxl
  go_wp2_with fail
  go_ret
  exact ⟨ret_int HL.out.symm,hbW⟩
 obtain rfl : nx=n:=hnx
 have hnn : ((nx : Int) != nx)=false:=by simp
 have HL : Hid (lstE (tblOf P M.toNat mod).q x nx=if elsQ (tblOf P M.toNat mod).q x=true then 0 else 2):=by show _=_;rw [lstE,if_pos hxl];rfl
 clear hxl
 go_wp2_with fail
 refine (fieldNew_any P M am mn cm mod W (hmod.keep hbW)).mono ?_
 rintro e w4 (⟨hB2,_,_⟩ | ⟨_,b,rfl,hG,hbl,hb4⟩)
 ·rw [hB] at hB2;cases hB2
 have hbw4:=Below.next hbW hb4
 have hb5:=below1 w4 (.cells #[.pointer (some ⟨b,0,none⟩)] 95)
 have hc5:=cell_new w4 (.pointer (some ⟨b,0,none⟩)) 95
 have hcc:=containsLG_any (λy=>!(decide (0<=y) && decide (y<(tblOf P M.toNat mod).q))) w4.heap.size ax nx cx x _ (hx.keep (Below.next hbw4 hb5)) λk hk=>listG_any w4.heap.size (nth x k) hc5 (hG.gf.keep hb5)
 rw [any_els] at hcc
 obtain ⟨z,hz⟩ : ∃z,elsQ (tblOf P M.toNat mod).q x=z:=⟨_,rfl⟩
 rw [hz] at hcc HL
 have Hc:=Lib.hid hcc
 have hF:=Below.next hbw4 hb5
 have HF:=Lib.hid hF
 clear c0 c1 c2 hG hbl hB hF hcc hz
 cases z
 ·have HL2 : Hid (lstE (tblOf P M.toNat mod).q x nx=2):=by show _=_;rw [HL.out];rfl
  go_wp2_with fail
  refine Hc.out.mono ?_
  rintro e w' ⟨rfl,rfl⟩
  go_wp2_with fail
  go_ret
  exact ⟨ret_int HL2.out.symm,HF.out⟩
 ·have HL2 : Hid (lstE (tblOf P M.toNat mod).q x nx=0):=by show _=_;rw [HL.out];rfl
  go_wp2_with fail
  refine Hc.out.mono ?_
  rintro e w' ⟨rfl,rfl⟩
  go_wp2_with fail
  go_ret
  exact ⟨ret_int HL2.out.symm,HF.out⟩
end

section
open Go.RowKit
section
variable {O : FOps} {El : Int->Prop} {m : Nat} {A B L : List (List Int)}
end
end

section
open Go.RowKit
variable {w : World} {b : Nat} {G : Tbl}
end

section
open Go.RowKit
structure HEnv (V : World) (b : Nat) (G : Tbl) (Bc Bo Bf Bg n : Nat) (ao : Option Addr) (n2 co : Nat) : Prop where
 cn : V.cell? ⟨Bc,3,none⟩=some (.int .i64 n)
 out : V.cell? ⟨Bo,0,none⟩=some (.slice ao n2 co)
 fr : V.cell? ⟨Bf,0,none⟩=some (.func (.func 218) #[] #[.pointer (some ⟨Bc,0,none⟩),.pointer (some ⟨Bo,0,none⟩),.pointer (some ⟨Bf,0,none⟩),.pointer (some ⟨Bg,0,none⟩)])
 gp : V.cell? ⟨Bg,0,none⟩=some (.pointer (some ⟨b,0,none⟩))
 gf : GFw V b G
theorem Moves.setAt' (w : World) {I : Nat->Prop} {p : Addr} (hB : I p.block) (v : Value) : Moves w (w.setCell p v) I I:=by
 have hb0 : Below 0 w (w.setCell p v):=(Below.refl 0 w).setCell (Nat.zero_le _) v
 exact ⟨hb0.os,hb0.tape,hb0.output,hb0.size,λb hb hI=>Below.heap_setCell _ _ _ _ λe=>hI (e ▸ hB),λb hb=>.inl hb⟩
end

section
open Go.RowKit
end

section
open Go.RowKit
end

section
open Go.RowKit
end

section

end

end Go.Proofs.YtcfmiocdlcapoaaGreat
