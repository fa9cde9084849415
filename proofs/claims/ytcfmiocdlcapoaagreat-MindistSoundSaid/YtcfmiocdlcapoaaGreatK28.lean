/-  -/
import Derived.Test.YtcfmiocdlcapoaaGreatK24
import Derived.Test.YtcfmiocdlcapoaaGreatK21
import Derived.Test.YtcfmiocdlcapoaaGreatK20
import Derived.Test.YtcfmiocdlcapoaaGreatK18
import Derived.Test.YtcfmiocdlcapoaaGreatK11
import Derived.Laws.Bits64
import Derived.Laws.Bits64b
import Derived.Test.YtcfmiocdlcapoaaGreatK25
import Derived.Test.YtcfmiocdlcapoaaGreatK9
import Derived.Test.YtcfmiocdlcapoaaGreatK6
import Derived.RangeFuncNested
import Derived.Test.YtcfmiocdlcapoaaGreatK16
namespace Go.Proofs.YtcfmiocdlcapoaaGreat
set_option linter.unusedVariables false
set_option linter.unusedSimpArgs false
set_option linter.unusedSectionVars false

section
section
variable {O : FOps} {El : Int->Prop} {m : Nat}
theorem Piv.lessT (F : Fld O El) {L : List (List Int)} {P : List Int} {c : Nat} (h : Piv L P c) (hL : Rws El m L) {v : List Int} (hv : Vc El L.length v) {φ : List Int->Int} (hφ : Lin O El L.length φ)
  {t : Nat} (ht : t<=P.length) (h0 : ∀j,j<t->φ (colS L (nth P j).toNat)=0) : ∀k,k<=t->Vc El L.length (lessTo O L P v k)/\φ (lessTo O L P v k)=φ v/\∀i,i<L.length->nth (lessTo O L P v k) i=if i<k then 0 else nth v i
 | 0,_=>⟨hv,rfl,λi _=>by rw [if_neg (by omega)];rfl⟩
 | k+1,hk=>by
  obtain ⟨h1,h2,h3⟩:=h.lessT F hL hv hφ ht h0 k (by omega)
  have hle:=h.le
  have hcol:=colS_vc hL F.zero (nth P k).toNat
  have hx:=h1.at (i:=k) (by omega)
  refine ⟨h1.sub F hcol hx,?_,λi hi=>?_⟩
  ·rw [lessTo,hφ.sub _ _ _ h1 hcol hx,h0 k (by omega),F.mzero hx,F.nzero,F.add_zero _ (hφ.el _ h1),h2]
  ·rw [lessTo,nth_subRow O _ _ _ i (by rw [hcol.1,h1.1]) (by rw [h1.1];exact hi),nth_colS L _ i hi,h.one k i (by omega) hi]
   by_cases e : i=k
   ·subst e
    rw [if_pos rfl,F.mone hx,F.add_neg _ hx,if_pos (by omega)]
   ·rw [if_neg e,F.mzero hx,F.nzero,F.add_zero _ (h1.at hi),h3 i hi]
    by_cases e2 : i<k
    ·rw [if_pos e2,if_pos (by omega)]
    ·rw [if_neg e2,if_neg (by omega)]
theorem asc_cut {P : List Int} (ha : ∀i j,i<j->j<P.length->nth P i<nth P j) {x : Int} (hx : ¬ x ∈ P) : ∀k,k<=P.length->∃t,t<=k/\(∀j,j<t->nth P j<x)/\∀j,t<=j->j<k->x<nth P j
 | 0,_=>⟨0,Nat.le_refl _,λj hj=>by omega,λj _ hj=>by omega⟩
 | k+1,hk=>by
  obtain ⟨t,h1,h2,h3⟩:=asc_cut ha hx k (by omega)
  have hne : nth P k ≠ x:=λe=>hx (e ▸ nth_mem (by omega))
  by_cases ht : t=k
  ·subst ht
   by_cases hlt : nth P t<x
   ·exact ⟨t+1,by omega,λj hj=>by
     by_cases e : j=t
     ·subst e;exact hlt
     ·exact h2 j (by omega),λj h4 h5=>by omega⟩
   ·exact ⟨t,by omega,h2,λj h4 h5=>by
     obtain rfl : j=t:=by omega
     omega⟩
  ·refine ⟨t,by omega,h2,λj h4 h5=>?_⟩
   by_cases e : j=k
   ·subst e
    have:=ha t j (by omega) (by omega)
    have:=h3 t (Nat.le_refl _) (by omega)
    omega
   ·exact h3 j h4 (by omega)
theorem lead_in (F : Fld O El) {R : List (List Int)} {P : List Int} (hR : Rws El m R) (hP : Piv R P m) (hl : Lead R P) {f : Nat->Int} (hf : RS O El m R f) {x : Nat} (hx : x<m) (h0 : ∀y,y<x->f y=0) (hne : f x ≠ 0) : (x : Int) ∈ P:=by
 refine Classical.byContradiction λhn=>hne ?_
 obtain ⟨t,h1,h2,h3⟩:=asc_cut hl.asc hn P.length (Nat.le_refl _)
 obtain ⟨e,he,h⟩:=hf
 have hlt:=hP.lt
 obtain ⟨q1,q2,q3⟩:=hP.lessT F hR (colS_vc hR F.zero x) he h1 (λj hj=>by
  have:=h2 j hj
  have:=hlt j (by omega)
  rw [<- h _ (by omega)]
  exact h0 _ (by omega)) t (Nat.le_refl _)
 rw [h x hx,<- q2]
 refine he.zero F q1 λi hi=>?_
 rw [q3 i hi]
 split
 ·rfl
 ·rw [nth_colS R x i hi]
  by_cases hi2 : i<P.length
  ·have:=h3 i (by omega) hi2
   exact hl.lead i x hi2 (by omega)
  ·exact hP.zero i x (by omega) hi hx
theorem piv_zero (F : Fld O El) {R : List (List Int)} {P : List Int} (hR : Rws El m R) (hP : Piv R P m) {f : Nat->Int} (hf : RS O El m R f) (h0 : ∀j,j<P.length->f (nth P j).toNat=0) : ∀x,x<m->f x=0:=λx hx=>by
 obtain ⟨e,he,h⟩:=hf
 rw [h x hx]
 refine hP.all F hR hx e he λy hy=>?_
 obtain ⟨j,hj,rfl⟩:=(mem_grL P _ _).1 hy
 rw [<- h _ (by have:=hP.lt j hj;omega)]
 exact h0 j hj
theorem asc_pair {P : List Int} (ha : ∀i j,i<j->j<P.length->nth P i<nth P j) : P.Pairwise λx y=>x<y:=by
 rw [List.pairwise_iff_getElem]
 intro i j hi hj hij
 have:=ha i j hij hj
 rwa [nth_getElem hi,nth_getElem hj] at this
theorem asc_same {P P' : List Int} (ha : ∀i j,i<j->j<P.length->nth P i<nth P j) (ha' : ∀i j,i<j->j<P'.length->nth P' i<nth P' j) (h : ∀x,x ∈ P ↔ x ∈ P') : P=P':=by
 have h1:=asc_pair ha
 have h2:=asc_pair ha'
 exact pair_unique (h1.imp λh=>by omega) (h2.imp λh=>by omega) ((List.perm_ext_iff_of_nodup (h1.imp λh=>by omega) (h2.imp λh=>by omega)).2 h)
theorem can_uniq (F : Fld O El) {R R' : List (List Int)} {P P' : List Int} (hR : Rws El m R) (hR' : Rws El m R') (hP : Piv R P m) (hP' : Piv R' P' m) (hl : Lead R P) (hl' : Lead R' P') (hlen : R.length=P.length) (hlen' : R'.length=P'.length)
  (h1 : RSub O El m R R') (h2 : RSub O El m R' R) : R=R':=by
 have key : ∀ {R R' : List (List Int)} {P P' : List Int},Rws El m R->Piv R P m->Lead R P->Piv R' P' m->Lead R' P'->R'.length=P'.length->RSub O El m R' R->∀x ∈ P',x ∈ P:=λ{R R' P P'} hR hP hl hP' hl' hlen' h2 x hx=>by
  obtain ⟨i,hi,rfl⟩:=List.mem_iff_getElem.1 hx
  have hb:=hP'.lt i hi
  have h3:=lead_in F hR hP hl (h2 i (by omega)) (x:=(nth P' i).toNat) (by omega) (λy hy=>hl'.lead i y hi hy) (by
   show nth (nthR R' i) (nth P' i).toNat ≠ 0
   rw [hP'.one i i hi (by omega),if_pos rfl];decide)
  rw [show (((nth P' i).toNat : Nat) : Int)=nth P' i by omega,nth_getElem hi] at h3
  exact h3
 have hPP : P=P':=asc_same hl.asc hl'.asc λx=>⟨key hR' hP' hl' hP hl hlen h1 x,key hR hP hl hP' hl' hlen' h2 x⟩
 subst hPP
 refine List.ext_getElem (by omega) λi hi hi'=>?_
 have hr:=hR _ (List.getElem_mem hi)
 have hr':=hR' _ (List.getElem_mem hi')
 refine nth_ext (by rw [hr.1,hr'.1]) λx hx=>?_
 rw [hr.1] at hx
 have hz:=piv_zero F hR hP ((h2 i hi').comb F (RS.row F (m:=m) hi) F.one) (λj hj=>by
  show O.add (nth (nthR R' i) (nth P j).toNat) (O.neg (O.mul (nth (nthR R i) (nth P j).toNat) 1))=0
  rw [hP'.one j i hj hi',hP.one j i hj hi]
  split
  ·rw [F.mone F.one,F.add_neg _ F.one]
  ·rw [F.mone F.zero,F.add_neg _ F.zero]) x hx
 have hz' : O.add (nth (nthR R' i) x) (O.neg (O.mul (nth (nthR R i) x) 1))=0:=hz
 have e1 : El (nth R[i] x):=hr.2 _ (nth_mem (by rw [hr.1];exact hx))
 have e2 : El (nth R'[i] x):=hr'.2 _ (nth_mem (by rw [hr'.1];exact hx))
 rw [nthR_getElem hi,nthR_getElem hi',F.mone e1] at hz'
 have h4:=F.neg_of e2 (F.cl.neg _ e1) hz'
 have h5:=congrArg O.neg h4
 rwa [F.neg_neg e1,F.neg_neg e2] at h5
theorem unitR_vc (F : Fld O El) (n k : Nat) : Vc El n (unitR n k):=by
 refine ⟨unitR_len n k,λx hx=>?_⟩
 unfold unitR at hx
 rcases List.mem_or_eq_of_mem_set hx with hx | rfl
 ·rw [List.eq_of_mem_replicate hx];exact F.zero
 ·exact F.one
theorem nth_unitR {n k i : Nat} (hk : k<n) : nth (unitR n k) i=if i=k then 1 else 0:=by
 unfold unitR
 rw [nth_set _ _ _ _ (by simpa using hk)]
 split
 ·rfl
 ·unfold nth
  simp only [List.getD_eq_getElem?_getD,List.getElem?_replicate]
  split <;> rfl
def cutTo (O : FOps) (n : Nat) (v : List Int) : Nat->List Int
 | 0=>v
 | k+1=>subRow O (cutTo O n v k) (nth v k) (unitR n k)
theorem cut_form (F : Fld O El) {n : Nat} {φ : List Int->Int} (hφ : Lin O El n φ) {v : List Int} (hv : Vc El n v) : ∀k,k<=n->Vc El n (cutTo O n v k)/\(∀i,i<n->nth (cutTo O n v k) i=if i<k then 0 else nth v i) /\
  O.add (φ (cutTo O n v k)) (dotN O (λt=>φ (unitR n t)) (λt=>nth v t) k)=φ v
 | 0,_=>⟨hv,λi _=>by rw [if_neg (by omega)];rfl,by rw [dotN];exact F.add_zero _ (hφ.el _ hv)⟩
 | k+1,hk=>by
  obtain ⟨h1,h2,h3⟩:=cut_form F hφ hv k (by omega)
  have hu:=unitR_vc F n k
  have hx:=hv.at (i:=k) (by omega)
  refine ⟨h1.sub F hu hx,λi hi=>?_,?_⟩
  ·rw [cutTo,nth_subRow O _ _ _ i (by rw [hu.1,h1.1]) (by rw [h1.1];exact hi),nth_unitR (by omega),h2 i hi]
   by_cases e : i=k
   ·subst e
    rw [if_pos rfl,if_neg (by omega),F.mone hx,F.add_neg _ hx,if_pos (by omega)]
   ·rw [if_neg e,F.mzero hx,F.nzero]
    by_cases e2 : i<k
    ·rw [if_pos e2,if_pos (by omega),F.add_zero _ F.zero]
    ·rw [if_neg e2,if_neg (by omega),F.add_zero _ (hv.at hi)]
  ·have hm:=F.cl.mul _ _ hx (hφ.el _ hu)
   have hd:=dotN_el F (a:=λt=>φ (unitR n t)) (b:=λt=>nth v t) k (λp _=>hφ.el _ (unitR_vc F n p)) (λp hp=>hv.at (by omega))
   rw [cutTo,hφ.sub _ _ _ h1 hu hx,dotN,F.mul_comm _ _ (hφ.el _ hu) hx,F.add4 (hφ.el _ h1) (F.cl.neg _ hm) hd hm,F.negadd hm,F.add_zero _ (F.cl.add _ _ (hφ.el _ h1) hd),h3]
theorem form_unit (F : Fld O El) {n : Nat} {φ : List Int->Int} (hφ : Lin O El n φ) {v : List Int} (hv : Vc El n v) : φ v=dotN O (λt=>φ (unitR n t)) (λt=>nth v t) n:=by
 obtain ⟨h1,h2,h3⟩:=cut_form F hφ hv n (Nat.le_refl _)
 rw [<- h3,hφ.zero F h1 λi hi=>by rw [h2 i hi,if_pos hi],F.zadd (dotN_el F n (λp _=>hφ.el _ (unitR_vc F n p)) (λp hp=>hv.at hp))]
theorem cmb_dot (F : Fld O El) {L : List (List Int)} (hL : Rws El m L) {x : List Int} (hx : ∀k,k<L.length->El (nth x k)) {y : Nat} (hy : y<m) : ∀k,k<=L.length->nth (cmbTo O m x L k) y=dotN O (λt=>nth x t) (λt=>nth (nthR L t) y) k
 | 0,_=>by
  rw [cmbTo,dotN]
  unfold nth
  simp only [List.getD_eq_getElem?_getD,List.getElem?_replicate]
  split <;> rfl
 | k+1,hk=>by
  have ih:=cmb_dot F hL hx hy k (by omega)
  obtain ⟨h1,_⟩:=cmb_rs F hL hx k (by omega)
  have hr:=hL.row (i:=k) (by omega)
  have hd:=dotN_el F (a:=λt=>nth x t) (b:=λt=>nth (nthR L t) y) k (λp hp=>hx p (by omega)) (λp hp=>Vc.at (hL.row (i:=p) (by omega)) hy)
  rw [cmbTo,dotN]
  split
  ·rename_i e0
   rw [ih,e0,F.zmul (Vc.at hr hy),F.add_zero _ hd]
  ·rw [nth_addRow O _ _ _ y (by rw [hr.1,h1.1]) (by rw [h1.1];exact hy),ih]
   split
   ·rename_i e1
    show _=O.add _ (O.mul (nth x k) (nth (nthR L k) y))
    rw [e1,F.mzero (hx k (by omega)),F.add_zero _ hd]
   ·rfl
theorem asc_id {P : List Int} {k : Nat} (hl : P.length=k) (hb : ∀j,j<k->0<=nth P j/\nth P j<k) (ha : ∀i j,i<j->j<P.length->nth P i<nth P j) : ∀j,j<k->nth P j=j:=by
 have h1 : ∀j,j<k->(j : Int)<=nth P j:=λj=>by
  induction j with
  | zero=>intro h;exact (hb 0 h).1
  | succ j ih=>intro h;have:=ih (by omega);have:=ha j (j+1) (by omega) (by omega);omega
 have h2 : ∀d j,j+d+1=k->nth P j<=j:=λd=>by
  induction d with
  | zero=>intro j h;have:=hb j (by omega);omega
  | succ d ih=>intro j h;have:=ih (j+1) (by omega);have:=ha j (j+1) (by omega) (by omega);omega
 intro j hj
 have:=h1 j hj
 have:=h2 (k - j - 1) j (by omega)
 omega
theorem sys_form (F : Fld O El) {L : List (List Int)} (hL : Rws El m L) {Q : List Int} (hQ : InN m Q) (hl : Q.length=L.length) (hg : (grS O L Q).length=Q.length) (i : Nat) (hi : i<L.length) :
  ∃e,Lin O El L.length e/\(∀y,y<m->nth (nthR (sysL O m L Q) i) y=e (colS L y))/\∀j,j<Q.length->e (colS L (nth Q j).toNat)=if i=j then 1 else 0:=by
 have hD:=pick_rws hL hQ
 have hpv:=sys_pv F hL hQ hl hg
 have hJr:=joinL_rws hD (unit_rws F.zero F.one Q.length)
 have hDl : (L.map (pickL Q)).length=Q.length:=by rw [List.length_map,hl]
 have hJl : (joinL (L.map (pickL Q)) (unitL Q.length)).length=Q.length:=by simp [joinL,unitL_len,hl]
 have hJt:=joinL_take (D:=L.map (pickL Q)) (U:=unitL Q.length) (k:=Q.length) (by rw [unitL_len,hDl]) (λr hr=>(hD r hr).1)
 have hJd:=joinL_drop (D:=L.map (pickL Q)) (U:=unitL Q.length) (k:=Q.length) (by rw [unitL_len,hDl]) (λr hr=>(hD r hr).1)
 obtain ⟨J,hJ⟩ : ∃J,joinL (L.map (pickL Q)) (unitL Q.length)=J:=⟨_,rfl⟩
 have hsys : sysL O m L Q=mtL O m ((elimTo O J Q.length).1.map (List.drop Q.length)) L:=by rw [sysL,invL,hJ]
 rw [hJ] at hpv hJr hJl hJt hJd
 obtain ⟨h1,h2,_⟩:=elim_inv F hJr Q.length (by omega)
 have h3:=elim_lead F hJr Q.length (by omega)
 have hel : (elimTo O J Q.length).1.length=Q.length:=by rw [elimTo_length,hJl]
 have hEr:=elim_rws F hJr Q.length (by omega)
 have hid:=asc_id hpv (λj hj=>h1.lt j (by omega)) h3.asc
 obtain ⟨e,he,hx⟩:=h2 i (by omega)
 rw [hJl,hl] at he
 have hcolD : ∀x,x<Q.length->colS J x=colS L (nth Q x).toNat:=λx hx=>by
  have e1 : colS J x=colS (J.map (List.take Q.length)) x:=by
   unfold colS
   rw [List.map_map]
   exact List.map_congr_left λr _=>(nth_take hx).symm
  rw [e1,hJt]
  unfold colS
  rw [List.map_map]
  exact List.map_congr_left λr _=>nth_pickL Q r hx
 have hcolU : ∀x,x<Q.length->colS J (Q.length+x)=unitR L.length x:=λx hx=>by
  have e1 : colS J (Q.length+x)=colS (J.map (List.drop Q.length)) x:=by
   unfold colS
   rw [List.map_map]
   refine List.map_congr_left λr _=>?_
   unfold nth
   simp only [List.getD_eq_getElem?_getD,Function.comp,List.getElem?_drop]
  rw [e1,hJd]
  refine nth_ext (by rw [colS_length,unitL_len,unitR_len,hl]) λt ht=>?_
  rw [colS_length,unitL_len] at ht
  rw [nth_colS _ _ _ (by rw [unitL_len];exact ht),nthR_unit ht,nth_unitR ht,<- hl,nth_unitR hx]
  by_cases e : x=t
  ·subst e;simp
  ·rw [if_neg e,if_neg λe2=>e e2.symm]
 have hT : ∀t,t<Q.length->nth (nthR ((elimTo O J Q.length).1.map (List.drop Q.length)) i) t=e (unitR L.length t):=λt ht=>by
  rw [nthR_map0 _ List.drop_nil,<- hcolU t ht,<- hx _ (by omega)]
  unfold nth
  simp only [List.getD_eq_getElem?_getD,List.getElem?_drop]
 have hTl : ((elimTo O J Q.length).1.map (List.drop Q.length)).length=L.length:=by rw [List.length_map,hel,hl]
 refine ⟨e,he,λy hy=>?_,λj hj=>?_⟩
 ·rw [hsys,mtL,nthR_mapf _ _ (by rw [hTl];exact hi)]
  rw [cmb_dot F hL (λt ht=>by rw [hT t (by omega)];exact he.el _ (unitR_vc F _ t)) hy _ (Nat.le_refl _),form_unit F he (colS_vc hL F.zero y)]
  exact dotN_congr _ λt ht=>⟨hT t (by omega),(nth_colS L y t ht).symm⟩
 ·rw [<- hcolD j hj,<- hx _ (by omega)]
  have:=h1.one j i (by omega) (by omega)
  rw [hid j hj,Int.toNat_natCast] at this
  exact this
end
section
variable {P M : Int} {mod : List Int} {m : Nat} {L : List (List Int)}
theorem sys_law (hE : codeE P M mod m L=0) {Q : List Int} (hQ : InN m Q) (hl : Q.length=L.length) (hg : (grS (tblOf P M.toNat mod).ops L Q).length=Q.length) :
  Rws (tblOf P M.toNat mod).El m (sysL (tblOf P M.toNat mod).ops m L Q)/\(sysL (tblOf P M.toNat mod).ops m L Q).length=L.length/\(sysL (tblOf P M.toNat mod).ops m L Q).map (pickL Q)=unitL Q.length /\
  canS (tblOf P M.toNat mod) (sysL (tblOf P M.toNat mod).ops m L Q) m=L:=by
 obtain ⟨N',e,hm1,hm64,F,hR⟩:=codeE_fld hE
 obtain rfl : m=N':=by omega
 have hfull:=code_full hE
 have h6:=(spaceE_zero (codeE_zero hE).2.2.2).2
 rw [Int.toNat_natCast] at h6
 have hcan : canO (tblOf P M.toNat mod).ops m L=L:=h6
 obtain ⟨hPv,hLd⟩:=canO_piv F hR
 have hcl:=canO_len F hR
 rw [hcan] at hPv hLd hcl
 have hform:=λi hi=>sys_form F hR hQ hl hg i hi
 have hD:=pick_rws hR hQ
 have hIr:=invL_rws F hD
 have hIl : (invL (tblOf P M.toNat mod).ops (L.map (pickL Q)) Q.length).length=L.length:=by rw [invL_len _ (by rw [List.length_map,hl]),hl]
 have hSl : (sysL (tblOf P M.toNat mod).ops m L Q).length=L.length:=by unfold sysL mtL;rw [List.length_map,hIl]
 have hSr : Rws (tblOf P M.toNat mod).El m (sysL (tblOf P M.toNat mod).ops m L Q):=λr hr=>by
  unfold sysL mtL at hr
  obtain ⟨s,hs,rfl⟩:=List.mem_map.1 hr
  have hs2:=hIr s hs
  exact (cmb_rs F hR (λk hk=>hs2.2 _ (nth_mem (by rw [hs2.1];omega))) _ (Nat.le_refl _)).1
 show _/\_/\_/\canO (tblOf P M.toNat mod).ops m (sysL (tblOf P M.toNat mod).ops m L Q)=L
 generalize sysL (tblOf P M.toNat mod).ops m L Q=S at *
 generalize (tblOf P M.toNat mod).ops=O at *
 generalize (tblOf P M.toNat mod).El=El at *
 refine ⟨hSr,hSl,?_,?_⟩
 ·refine List.ext_getElem (by rw [List.length_map,unitL_len,hSl,hl]) λi h1 h2=>?_
  rw [List.length_map,hSl] at h1
  rw [<- nthR_getElem,<- nthR_getElem,nthR_mapf _ _ (by rw [hSl];exact h1),nthR_unit (by omega)]
  obtain ⟨e,he,hy,hj⟩:=hform i h1
  refine nth_ext (by rw [unitR_len];simp [pickL]) λj hj2=>?_
  have hj3 : j<Q.length:=by simpa [pickL] using hj2
  have hqj:=hQ j hj3
  rw [nth_pickL Q _ hj3,nth_unitR (by omega),hy _ (by omega),hj j hj3]
  by_cases e2 : i=j
  ·subst e2;simp
  ·rw [if_neg e2,if_neg λe3=>e2 e3.symm]
 ·obtain ⟨k1,k2⟩:=canO_piv F hSr
  have k3:=canO_len F hSr
  obtain ⟨s1,s2⟩:=canO_rsub F hSr
  have hSL : RSub O El m S L:=λi hi=>by
   obtain ⟨e,he,hy,_⟩:=hform i (by omega)
   exact ⟨e,he,hy⟩
  have hclA : ∀x,x<m->clV O El L.length (colS L) (gA Q) x:=λx hx=>by
   refine Classical.byContradiction λhn=>?_
   have h1:=rkQ_out F hR (Q:=Q) (x:=(x : Int)) (by simpa using hn)
   have h2:=Rk.le (col_clo F hR) (rkQ_rk F hR (Q ++ [(x : Int)])) hfull λy hy=>by
    refine (col_clo F hR).mem _ _ ?_
    rw [List.mem_range]
    obtain ⟨z,hz,rfl⟩:=mem_gA.1 hy
    rcases List.mem_append.1 hz with hz | hz
    ·obtain ⟨j,hj,rfl⟩:=List.mem_iff_getElem.1 hz
     have:=hQ j hj
     rw [nth_getElem hj] at this
     omega
    ·rw [List.mem_singleton] at hz;subst hz;simpa using hx
   have h3 : rkQ O L Q=Q.length:=hg
   omega
  have hLS : RSub O El m L S:=λi hi=>by
   have hcx : ∀k,k<S.length->El (nth (pickL Q (nthR L i)) k):=λk hk=>by
    have hk2 : k<Q.length:=by omega
    have:=hQ k hk2
    rw [nth_pickL Q _ hk2]
    exact Vc.at (hR.row (i:=i) hi) (by omega)
   obtain ⟨c1,c2⟩:=cmb_rs F hSr hcx S.length (Nat.le_refl _)
   have hd:=(RS.row F (m:=m) (O:=O) (El:=El) hi).comb F (hSL.rs c2) F.one
   obtain ⟨e,he,hx⟩:=hd
   have hz : ∀x,x<m->O.add (nth (nthR L i) x) (O.neg (O.mul (nth (cmbTo O m (pickL Q (nthR L i)) S S.length) x) 1))=0:=λx hxm=>by
    have h1 : O.add (nth (nthR L i) x) (O.neg (O.mul (nth (cmbTo O m (pickL Q (nthR L i)) S S.length) x) 1))=e (colS L x):=hx x hxm
    rw [h1]
    refine hclA x hxm e he λy hy=>?_
    obtain ⟨q,hq,rfl⟩:=mem_gA.1 hy
    obtain ⟨j,hj,rfl⟩:=List.mem_iff_getElem.1 hq
    have hqj:=hQ j hj
    rw [nth_getElem hj] at hqj
    have h2 : O.add (nth (nthR L i) (Q[j]).toNat) (O.neg (O.mul (nth (cmbTo O m (pickL Q (nthR L i)) S S.length) (Q[j]).toNat) 1))=e (colS L (Q[j]).toNat):=hx _ (by omega)
    rw [<- h2]
    have hvi : El (nth (nthR L i) (Q[j]).toNat):=Vc.at (hR.row (i:=i) hi) (by omega)
    have h3 : nth (cmbTo O m (pickL Q (nthR L i)) S S.length) (Q[j]).toNat=nth (nthR L i) (Q[j]).toNat:=by
     rw [cmb_dot F hSr hcx (by omega) _ (Nat.le_refl _)]
     have hone : ∀t,t<S.length->nth (nthR S t) (Q[j]).toNat=if t=j then 1 else 0:=λt ht=>by
      obtain ⟨e',_,hy',hj'⟩:=hform t (by omega)
      have h4:=hj' j hj
      rw [nth_getElem hj] at h4
      rw [hy' _ (by omega),h4]
     have hpj : nth (pickL Q (nthR L i)) j=nth (nthR L i) (Q[j]).toNat:=by rw [nth_pickL Q _ hj,nth_getElem hj]
     rw [dotN_one F (x:=j) (by
      show El (O.mul (nth (pickL Q (nthR L i)) j) (nth (nthR S j) (Q[j]).toNat))
      rw [hone j (by omega),if_pos rfl,hpj,F.mone hvi];exact hvi) S.length (λp hp hpj=>by
      show O.mul (nth (pickL Q (nthR L i)) p) (nth (nthR S p) (Q[j]).toNat)=0
      rw [hone p hp,if_neg hpj,F.mzero (hcx p hp)]),if_pos (by omega)]
     show O.mul (nth (pickL Q (nthR L i)) j) (nth (nthR S j) (Q[j]).toNat)=_
     rw [hone j (by omega),if_pos rfl,hpj,F.mone hvi]
    rw [h3,F.mone hvi,F.add_neg _ hvi]
   refine c2.congr λx hxm=>?_
   have h1:=hz x hxm
   have hvi : El (nth (nthR L i) x):=Vc.at (hR.row (i:=i) hi) hxm
   have hvc:=c1.at hxm
   rw [F.mone hvc] at h1
   have h4:=F.neg_of hvi (F.cl.neg _ hvc) h1
   have h5:=congrArg O.neg h4
   rw [F.neg_neg hvc,F.neg_neg hvi] at h5
   exact h5.symm
  exact can_uniq F (canO_rws F hSr) hR k1 hPv k2 hLd k3 hcl (s1.trans hSL) (hLS.trans s2)
end
end

section
open Go.RowKit
def wRow (O : FOps) (p : List Int) (i : Nat) (r : List Int) : List Int :=
 if nth r i=0 then r else List.zipWith (λa x=>O.add a (O.neg (O.mul (O.mul (nth r i) (O.inv (nth p i))) x))) r p
def woTo (O : FOps) (R : List (List Int)) (p i : Nat) : Nat->List (List Int)
 | 0=>[]
 | l+1=>if l=p then woTo O R p i l else woTo O R p i l ++ [wRow O (nthR R p) i (nthR R l)]
def woS (O : FOps) (R : List (List Int)) (i : Nat) : List (List Int) :=
 if findRow R i 0=R.length then R else woTo O R (findRow R i 0) i R.length
variable {O : FOps} {El : Int->Prop} {m : Nat} {L : List (List Int)}
theorem wRow_length (O : FOps) {p r : List Int} {i : Nat} (h : p.length=r.length) : (wRow O p i r).length=r.length:=by
 unfold wRow
 split
 ·rfl
 ·rw [List.length_zipWith];omega
theorem nth_wRow (O : FOps) {p r : List Int} {i j : Nat} (h : p.length=r.length) (hj : j<r.length) : nth (wRow O p i r) j=if nth r i=0 then nth r j else O.add (nth r j) (O.neg (O.mul (O.mul (nth r i) (O.inv (nth p i))) (nth p j))):=by
 have hl:=wRow_length O (i:=i) h
 unfold wRow at hl ⊢
 split
 ·rfl
 ·rename_i h0
  rw [if_neg h0] at hl
  rw [nth_getElem (by omega),nth_getElem hj,nth_getElem (show j<p.length by omega)]
  simp
theorem mem_woTo {R : List (List Int)} {p i : Nat} {r : List Int} : ∀ {l},r ∈ woTo O R p i l ↔ ∃j,j<l/\j ≠ p/\r=wRow O (nthR R p) i (nthR R j)
 | 0=>by simp [woTo]
 | l+1=>by
  have ih:=mem_woTo (R:=R) (p:=p) (i:=i) (r:=r) (l:=l)
  rw [woTo]
  constructor
  ·intro h
   by_cases e : l=p
   ·rw [if_pos e] at h
    obtain ⟨j,h1,h2⟩:=ih.1 h
    exact ⟨j,by omega,h2⟩
   ·rw [if_neg e] at h
    rcases List.mem_append.1 h with h | h
    ·obtain ⟨j,h1,h2⟩:=ih.1 h
     exact ⟨j,by omega,h2⟩
    ·exact ⟨l,by omega,e,List.mem_singleton.1 h⟩
  ·rintro ⟨j,h1,h2,h3⟩
   by_cases e : l=p
   ·rw [if_pos e]
    exact ih.2 ⟨j,by omega,h2,h3⟩
   ·rw [if_neg e]
    by_cases e2 : j=l
    ·subst e2;exact List.mem_append.2 (.inr (List.mem_singleton.2 h3))
    ·exact List.mem_append.2 (.inl (ih.2 ⟨j,by omega,h2,h3⟩))
theorem woTo_length (O : FOps) (R : List (List Int)) (p i : Nat) : ∀l,(woTo O R p i l).length=if p<l then l - 1 else l
 | 0=>by simp [woTo]
 | l+1=>by
  have ih:=woTo_length O R p i l
  rw [woTo]
  split
  ·rename_i e
   subst e
   rw [ih,if_neg (by omega),if_pos (by omega)];rfl
  ·rename_i e
   rw [List.length_append,ih,List.length_singleton]
   by_cases h : p<l
   ·rw [if_pos h,if_pos (by omega)];omega
   ·rw [if_neg h,if_neg (by omega)]
theorem mem_nthR {R : List (List Int)} {r : List Int} (h : r ∈ R) : ∃j,j<R.length/\nthR R j=r:=by
 obtain ⟨j,hj,e⟩:=List.mem_iff_getElem.1 h
 exact ⟨j,hj,by rw [nthR_getElem hj];exact e⟩
theorem RS.mem (F : Fld O El) {r : List Int} (h : r ∈ L) : RS O El m L (λx=>nth r x):=by
 obtain ⟨j,hj,rfl⟩:=mem_nthR h
 exact .row F hj
theorem RS.el (F : Fld O El) (hL : Rws El m L) {f : Nat->Int} (h : RS O El m L f) {x : Nat} (hx : x<m) : El (f x):=by
 obtain ⟨e,he,h2⟩:=h
 rw [h2 x hx];exact he.el _ (colS_vc hL F.zero x)
theorem RS.at0 (F : Fld O El) (hL : Rws El m L) {f : Nat->Int} (h : RS O El m L f) {x : Nat} (hx : x<m) (h0 : ∀r ∈ L,nth r x=0) : f x=0:=by
 obtain ⟨e,he,h2⟩:=h
 rw [h2 x hx,form_unit F he (colS_vc hL F.zero x)]
 refine dotN_zero F _ λp hp=>?_
 show O.mul (e (unitR L.length p)) (nth (colS L x) p)=0
 rw [nth_colS _ _ p hp,h0 _ (nthR_mem hp),F.mzero (he.el _ (unitR_vc F _ p))]
theorem rs_snoc (F : Fld O El) (hL : Rws El m L) {r : List Int} (hr : Vc El m r) {f : Nat->Int} (h : RS O El m (L ++ [r]) f) : ∃s g,El s/\RS O El m L g/\∀x,x<m->f x=O.add (g x) (O.mul s (nth r x)):=by
 obtain ⟨e,he,h2⟩:=h
 have hLr : Rws El m (L ++ [r]):=λy hy=>by
  rcases List.mem_append.1 hy with hy | hy
  ·exact hL y hy
  ·rw [List.mem_singleton.1 hy];exact hr
 have hlen : (L ++ [r]).length=L.length+1:=by simp
 obtain ⟨c,hc⟩ : ∃c,((List.range L.length).map λt=>e (unitR (L.length+1) t))=c:=⟨_,rfl⟩
 have hcn : ∀t,t<L.length->nth c t=e (unitR (L.length+1) t):=λt ht=>by
  rw [<- hc,nth_getElem (by simpa using ht)];simp
 have hel : ∀t,El (e (unitR (L.length+1) t)):=λt=>by
  refine he.el _ ?_
  rw [hlen];exact unitR_vc F _ t
 have hce : ∀k,k<L.length->El (nth c k):=λk hk=>by rw [hcn k hk];exact hel k
 obtain ⟨c1,c2⟩:=cmb_rs F hL hce L.length (Nat.le_refl _)
 refine ⟨e (unitR (L.length+1) L.length),_,hel _,c2,λx hx=>?_⟩
 rw [h2 x hx,form_unit F he (colS_vc hLr F.zero x),cmb_dot F hL hce hx _ (Nat.le_refl _)]
 rw [hlen,dotN]
 have h3 : nth (colS (L ++ [r]) x) L.length=nth r x:=by
  rw [nth_colS _ _ _ (by rw [hlen];omega)]
  congr 1
  rw [nthR_getElem (by rw [hlen];omega)];simp
 rw [h3]
 congr 1
 refine dotN_congr _ λp hp=>⟨(hcn p hp).symm,?_⟩
 rw [nth_colS _ _ _ (by rw [hlen];omega)]
 congr 1
 rw [nthR_getElem (by rw [hlen];omega),nthR_getElem hp,List.getElem_append_left]
theorem wRow_vc (hO : FCl O El) {p r : List Int} (hp : Vc El m p) (hr : Vc El m r) {i : Nat} (hi : i<m) (h0 : nth p i ≠ 0) : Vc El m (wRow O p i r):=by
 have hl : p.length=r.length:=by rw [hp.1,hr.1]
 refine ⟨by rw [wRow_length O hl];exact hr.1,λx hx=>?_⟩
 obtain ⟨j,hj,rfl⟩:=List.mem_iff_getElem.1 hx
 rw [<- nth_getElem]
 rw [wRow_length O hl] at hj
 rw [nth_wRow O hl hj]
 have hj' : j<m:=by rw [hr.1] at hj;exact hj
 split
 ·exact hr.at hj'
 ·exact hO.add _ _ (hr.at hj') (hO.neg _ (hO.mul _ _ (hO.mul _ _ (hr.at hi) (hO.inv _ (hp.at hi) h0)) (hp.at hj')))
theorem wRow_zero (F : Fld O El) {p r : List Int} (hp : Vc El m p) (hr : Vc El m r) {i : Nat} (hi : i<m) (h0 : nth p i ≠ 0) : nth (wRow O p i r) i=0:=by
 have hl : p.length=r.length:=by rw [hp.1,hr.1]
 rw [nth_wRow O hl (by rw [hr.1];exact hi)]
 split
 ·assumption
 ·have h1:=hp.at hi
  have h2:=hr.at hi
  have h3:=F.cl.inv _ h1 h0
  rw [F.mul_assoc _ _ _ h2 h3 h1,F.mul_comm _ _ h3 h1,F.mul_inv _ h1 h0,F.mone h2,F.add_neg _ h2]
structure HInv (O : FOps) (El : Int->Prop) (m : Nat) (L R : List (List Int)) (Z : List Int) : Prop where
 rws : Rws El m R
 sub : RSub O El m R L
 zero : ∀r ∈ R,∀z ∈ Z,nth r z.toNat=0
 all : ∀f,RS O El m L f->(∀z ∈ Z,f z.toNat=0)->RS O El m R f
 cnt : R.length+rkQ O L Z=L.length
theorem HInv.init (F : Fld O El) (hL : Rws El m L) : HInv O El m L L [] :=
 ⟨hL,RSub.refl F L,λ_ _ z hz=>by simp at hz,λ_ h _=>h,by
  have:=rkQ_le O L []
  simp at this;omega⟩
theorem rkQ_dep (F : Fld O El) (hL : Rws El m L) {Q : List Int} {x : Int} (h : clV O El L.length (colS L) (gA Q) x.toNat) : rkQ O L (Q ++ [x])=rkQ O L Q:=by
 have h1:=rkQ_rk F hL (Q ++ [x])
 rw [gA_snoc] at h1
 exact h1.uniq (Rk.dep _ h (rkQ_rk F hL Q))
theorem HInv.step (F : Fld O El) (hL : Rws El m L) {R : List (List Int)} {Z : List Int} (h : HInv O El m L R Z) (hZ : ∀z ∈ Z,0<=z/\z<(m : Int)) {i : Nat} (hi : i<m) : HInv O El m L (woS O R i) (Z ++ [(i : Int)]):=by
 unfold woS
 by_cases hf : findRow R i 0=R.length
 ·rw [if_pos hf]
  have h0 : ∀r ∈ R,nth r i=0:=λr hr=>by
   obtain ⟨j,hj,rfl⟩:=mem_nthR hr
   refine findTo_zero R i (R.length - 0) 0 j (Nat.zero_le _) ?_
   unfold findRow at hf
   omega
  have hall : ∀f,RS O El m L f->(∀z ∈ Z,f z.toNat=0)->f i=0:=λf hf hz=>RS.at0 F h.rws (h.all f hf hz) hi h0
  refine ⟨h.rws,h.sub,λr hr z hz=>?_,λf hf hz=>h.all f hf λz hz'=>hz z (List.mem_append.2 (.inl hz')),?_⟩
  ·rcases List.mem_append.1 hz with hz | hz
   ·exact h.zero r hr z hz
   ·rw [List.mem_singleton.1 hz];simpa using h0 r hr
  ·rw [rkQ_dep F hL λφ hφ h1=>?_]
   ·exact h.cnt
   ·refine hall (λx=>φ (colS L x)) ⟨φ,hφ,λ_ _=>rfl⟩ λz hz=>h1 _ (mem_gA.2 ⟨z,hz,rfl⟩)
 ·rw [if_neg hf]
  obtain ⟨_,hp,hp0⟩:=find_lt (Nat.zero_le _) hf
  obtain ⟨p,hpe⟩ : ∃p,findRow R i 0=p:=⟨_,rfl⟩
  rw [hpe] at hp hp0 ⊢
  clear hf hpe
  have hpv : Vc El m (nthR R p):=h.rws.row hp
  have hR' : Rws El m (woTo O R p i R.length):=λr hr=>by
   obtain ⟨j,hj,_,rfl⟩:=mem_woTo.1 hr
   exact wRow_vc F.cl hpv (h.rws.row hj) hi hp0
  have hpr : RS O El m R (λx=>nth (nthR R p) x):=.row F hp
  have hpi:=hpv.at hi
  have hinv:=F.cl.inv _ hpi hp0
  have hat : ∀j x,j<R.length->x<m->nth (wRow O (nthR R p) i (nthR R j)) x=O.add (nth (nthR R j) x) (O.neg (O.mul (nth (nthR R p) x) (if nth (nthR R j) i=0 then 0 else O.mul (nth (nthR R j) i) (O.inv (nth (nthR R p) i))))):=λj x hj hx=>by
   have hjv : Vc El m (nthR R j):=h.rws.row hj
   rw [nth_wRow O (by rw [hpv.1,hjv.1]) (by rw [hjv.1];exact hx)]
   by_cases h0 : nth (nthR R j) i=0
   ·rw [if_pos h0,if_pos h0,F.mzero (hpv.at hx),F.nzero,F.add_zero _ (hjv.at hx)]
   ·rw [if_neg h0,if_neg h0,F.mul_comm _ _ (hpv.at hx) (F.cl.mul _ _ (hjv.at hi) hinv)]
  have hs : ∀j,j<R.length->El (if nth (nthR R j) i=0 then 0 else O.mul (nth (nthR R j) i) (O.inv (nth (nthR R p) i))):=λj hj=>by
   split
   ·exact F.zero
   ·exact F.cl.mul _ _ (Vc.at (h.rws.row hj) hi) hinv
  have hsub : RSub O El m (woTo O R p i R.length) R:=λk hk=>by
   obtain ⟨j,hj,_,e⟩:=mem_woTo.1 (nthR_mem hk)
   rw [e]
   exact ((RS.row F hj).comb F hpr (hs j hj)).congr λx hx=>hat j x hj hx
  have hz' : ∀r ∈ woTo O R p i R.length,nth r i=0:=λr hr=>by
   obtain ⟨j,hj,_,rfl⟩:=mem_woTo.1 hr
   exact wRow_zero F hpv (h.rws.row hj) hi hp0
  refine ⟨hR',hsub.trans h.sub,λr hr z hz=>?_,λf hf hz=>?_,?_⟩
  ·rcases List.mem_append.1 hz with hz | hz
   ·obtain ⟨j,hj,_,rfl⟩:=mem_woTo.1 hr
    have hzb:=hZ z hz
    rw [hat j _ hj (by omega),h.zero _ (nthR_mem hj) z hz,h.zero _ (nthR_mem hp) z hz,F.zmul (hs j hj),F.nzero,F.add_zero _ F.zero]
   ·rw [List.mem_singleton.1 hz];simpa using hz' r hr
  ·have hfR := h.all f hf λz hz'' => hz z (List.mem_append.2 (.inl hz''))
   have hRJ : Rws El m (woTo O R p i R.length ++ [nthR R p]):=λy hy=>by
    rcases List.mem_append.1 hy with hy | hy
    ·exact hR' y hy
    ·rw [List.mem_singleton.1 hy];exact hpv
   have hback : RSub O El m R (woTo O R p i R.length ++ [nthR R p]):=λj hj=>by
    have hlast : RS O El m (woTo O R p i R.length ++ [nthR R p]) (λx=>nth (nthR R p) x):=RS.mem F (List.mem_append.2 (.inr (List.mem_singleton.2 rfl)))
    by_cases e : j=p
    ·subst e;exact hlast
    ·have hj' : RS O El m (woTo O R p i R.length ++ [nthR R p]) (λx=>nth (wRow O (nthR R p) i (nthR R j)) x):=RS.mem F (List.mem_append.2 (.inl (mem_woTo.2 ⟨j,hj,e,rfl⟩)))
     refine (RS.add F hRJ hj' hlast (hs j hj)).congr λx hx=>?_
     have hq:=F.cl.mul _ _ (hpv.at hx) (hs j hj)
     have hjx : El (nth (nthR R j) x):=Vc.at (h.rws.row hj) hx
     rw [hat j x hj hx,F.add_assoc _ _ _ hjx (F.cl.neg _ hq) hq,F.negadd hq,F.add_zero _ hjx]
   obtain ⟨s,g,hse,hg,hfx⟩:=rs_snoc F hR' hpv (hback.rs hfR)
   have hgi:=RS.at0 F hR' hg hi hz'
   have hfi:=hz i (List.mem_append.2 (.inr (List.mem_singleton.2 rfl)))
   rw [Int.toNat_natCast,hfx i hi,hgi,F.zadd (F.cl.mul _ _ hse hpi)] at hfi
   have hs0 : s=0:=by
    have h1:=congrArg (λy=>O.mul y (O.inv (nth (nthR R p) i))) hfi
    change O.mul (O.mul s (nth (nthR R p) i)) (O.inv (nth (nthR R p) i))=O.mul 0 (O.inv (nth (nthR R p) i)) at h1
    rw [F.mul_assoc _ _ _ hse hpi hinv,F.mul_inv _ hpi hp0,F.mone hse,F.zmul hinv] at h1
    exact h1
   refine hg.congr λx hx=>?_
   rw [hfx x hx,hs0,F.zmul (hpv.at hx),F.add_zero _ (RS.el F hR' hg hx)]
  ·have hne : ¬ clV O El L.length (colS L) (gA Z) ((i : Int)).toNat:=λhcl=>by
    obtain ⟨φ,hφ,h2'⟩:=h.sub p hp
    have h2 : ∀x,x<m->nth (nthR R p) x=φ (colS L x):=h2'
    rw [Int.toNat_natCast] at hcl
    refine hp0 ?_
    rw [h2 i hi]
    refine hcl φ hφ λy hy=>?_
    obtain ⟨z,hz,rfl⟩:=mem_gA.1 hy
    have hzb:=hZ z hz
    rw [<- h2 _ (by omega)]
    exact h.zero _ (nthR_mem hp) z hz
   rw [rkQ_out F hL hne,woTo_length,if_pos hp]
   have:=h.cnt
   omega
end

section
open Go.RowKit
structure RX where
 a : Option Addr
 c : Nat
 l : List Int
structure MatA (A : Nat->Prop) (w : World) (a : Option Addr) (n : Nat) (L : List (List Int)) : Prop where
 len : L.length=n
 pl : Pl a n
 max : n<=maxLen
 no : 0<n->¬ A (ablk a)
 cell : ∀i,i<n->∃b m c,w.cell? ⟨ablk a,aoff a+i,none⟩=some (.slice b m c)/\Ints w b m (nthR L i)/\(0<m->¬ A (ablk b))
theorem MatA.mat {A : Nat->Prop} {w : World} {a : Option Addr} {n : Nat} {L : List (List Int)} (h : MatA A w a n L) : Mat w a n L :=
 ⟨h.len,h.pl,h.max,λi hi=>by obtain ⟨b,m,c,h1,h2,_⟩:=h.cell i hi;exact ⟨b,m,c,h1,h2⟩⟩
theorem MatA.moves {A A' : Nat->Prop} {w w' : World} {a : Option Addr} {n : Nat} {L : List (List Int)} (h : MatA A w a n L) (hM : Moves w w' A A') : MatA A w' a n L :=
 ⟨h.len,h.pl,h.max,h.no,λi hi=>by
  obtain ⟨b,m,c,h1,h2,h3⟩:=h.cell i hi
  exact ⟨b,m,c,hM.cell h1 (h.no (by omega)),h2.moves hM h3,h3⟩⟩
theorem MatA.keep {A : Nat->Prop} {w w' : World} {a : Option Addr} {n : Nat} {L : List (List Int)} (h : MatA A w a n L) (hb : Below w.heap.size w w') : MatA A w' a n L:=h.moves (Moves.of_below hb A)
theorem MatA.of_mat {A : Nat->Prop} {w : World} {a : Option Addr} {n : Nat} {L : List (List Int)} (h : Mat w a n L) (hA : ∀b,A b->w.heap.size<=b) : MatA A w a n L :=
 ⟨h.len,h.pl,h.max,λhn hc=>by have:=hA _ hc;have:=h.lt hn;omega,λi hi=>by
  obtain ⟨b,m,c,h1,h2⟩:=h.cell i hi
  exact ⟨b,m,c,h1,h2,λhm hc=>by have:=hA _ hc;have:=h2.lt hm;omega⟩⟩
def rxV (m : Nat) (x : RX) : Value:=.slice x.a m x.c
theorem MatA.own {A : Nat->Prop} {w : World} {B m : Nat} {a : Option Addr} {c : Nat} {xs : List RX} (h : w.ownsRow B 22 1 (.slice a xs.length c) xs.length (xs.map (rxV m)))
  (hA : ∀b,A b->b<B) (hm : xs.length<=maxLen) (hx : ∀x ∈ xs,Ints w x.a m x.l/\(0<m->¬ A (ablk x.a))) : MatA A w a xs.length (xs.map RX.l):=by
 refine ⟨by simp,?_,hm,λhn hc=>?_,λi hi=>?_⟩
 ·obtain ⟨a',c',hv,hp⟩:=Pl.own h
  cases hv
  exact hp
 ·have:=hA _ hc
  have:=(own_lt_pos h hn).1
  omega
 ·have h1:=(ownsRow_cell h i hi).1
  have e1 : (xs.map (rxV m))[i]? = some (rxV m xs[i]):=by rw [List.getElem?_map,List.getElem?_eq_getElem hi];rfl
  obtain ⟨h2,h3⟩:=hx xs[i] (List.getElem_mem hi)
  refine ⟨xs[i].a,m,xs[i].c,?_,?_,h3⟩
  ·rw [h1,e1];rfl
  ·rw [nthR_getElem (by rw [List.length_map];exact hi),List.getElem_map]
   exact h2
variable {w : World} {b : Nat} {G : Tbl}
end

section
open Go.RowKit
def cmpL : List Int->List Int->Int
 | [],[]=>0
 | [],_ :: _=>-1
 | _ :: _,[]=>1
 | x :: a,y :: b=>if x<y then -1 else if y<x then 1 else cmpL a b
end

section
set_option maxHeartbeats 2000000

open Go.RowKit
theorem isNaN_any (x : Int) (w : World) : Calls Tryz.prog 247 #[.int .i64 x] w λe w'=>e = .returned (.bool false)/\w=w':=by
 go_enter Tryz.func247,Tryz.ntmps247
 go_wp2
 go_ret
 exact ⟨by simp,rfl⟩
def cmp1 (x y : Int) : Int:=if x<y then -1 else if y<x then 1 else 0
theorem cmpInt_any (x y : Int) (w : World) : Calls Tryz.prog 258 #[.int .i64 x,.int .i64 y] w λe w'=>e = .returned (.int .i64 (cmp1 x y))/\w=w':=by
 obtain ⟨r,hr⟩ : ∃r,cmp1 x y=r:=⟨_,rfl⟩
 rw [hr]
 go_enter Tryz.func258,Tryz.ntmps258
 unfold cmp1 at hr
 by_cases h1 : x<y
 ·have d1 : decide (x<y)=true:=by simpa using h1
  rw [if_pos h1] at hr
  clear h1
  go_wp2_with (go_at_call 247;refine (isNaN_any _ _).mono ?_;rintro e w' ⟨rfl,rfl⟩)
  go_ret
  exact ⟨by rw [<- hr];rfl,rfl⟩
 ·have d1 : decide (x<y)=false:=by simpa using h1
  rw [if_neg h1] at hr
  by_cases h2 : y<x
  ·have d2 : decide (y<x)=true:=by simpa using h2
   rw [if_pos h2] at hr
   clear h1 h2
   go_wp2_with (go_at_call 247;refine (isNaN_any _ _).mono ?_;rintro e w' ⟨rfl,rfl⟩)
   go_ret
   exact ⟨by rw [<- hr];rfl,rfl⟩
  ·have d2 : decide (y<x)=false:=by simpa using h2
   rw [if_neg h2] at hr
   clear h1 h2
   go_wp2_with (go_at_call 247;refine (isNaN_any _ _).mono ?_;rintro e w' ⟨rfl,rfl⟩)
   go_ret
   exact ⟨by rw [<- hr];rfl,rfl⟩
theorem cmpL_at : ∀ {a b : List Int} {k : Nat},(∀j,j<k->nth a j=nth b j)->k<a.length->k<b.length->cmp1 (nth a k) (nth b k) ≠ 0->cmpL a b=cmp1 (nth a k) (nth b k)
 | [],_,k,_,h,_,_=>by simp at h
 | x :: a,[],k,_,_,h,_=>by simp at h
 | x :: a,y :: b,0,_,_,_,hne=>by
  have e1 : nth (x :: a) 0=x:=rfl
  have e2 : nth (y :: b) 0=y:=rfl
  rw [e1,e2] at hne ⊢
  rw [cmpL]
  unfold cmp1 at hne ⊢
  split
  ·rfl
  ·split
   ·rfl
   ·rename_i h1 h2;rw [if_neg h1,if_neg h2] at hne;exact absurd rfl hne
 | x :: a,y :: b,k+1,h0,ha,hb,hne=>by
  have e : x=y:=by simpa [nth] using h0 0 (by omega)
  rw [cmpL,if_neg (by omega),if_neg (by omega)]
  have h1:=cmpL_at (a:=a) (b:=b) (k:=k) (λj hj=>by simpa [nth] using h0 (j+1) (by omega)) (by simpa using ha) (by simpa using hb) (by simpa [nth] using hne)
  simpa [nth] using h1
theorem cmpL_pre : ∀ {a b : List Int} {k : Nat},(∀j,j<k->nth a j=nth b j)->(k=a.length\/k=b.length)->k<=a.length->k<=b.length->cmpL a b=if a.length<b.length then -1 else if b.length<a.length then 1 else 0
 | [],[],_,_,_,_,_=>by simp [cmpL]
 | [],y :: b,_,_,_,_,_=>by simp [cmpL]
 | x :: a,[],_,_,_,_,_=>by simp [cmpL]
 | x :: a,y :: b,0,_,h,_,_=>by simp at h
 | x :: a,y :: b,k+1,h0,h,ha,hb=>by
  have e : x=y:=by simpa [nth] using h0 0 (by omega)
  rw [cmpL,if_neg (by omega),if_neg (by omega)]
  have h1:=cmpL_pre (a:=a) (b:=b) (k:=k) (λj hj=>by simpa [nth] using h0 (j+1) (by omega)) (by simpa using h) (by simpa using ha) (by simpa using hb)
  rw [h1];simp
theorem compare_any (a : Option Addr) (n c : Nat) (l : List Int) (a2 : Option Addr) (n2 c2 : Nat) (l2 : List Int) (w : World) (hi : Ints w a n l) (hi2 : Ints w a2 n2 l2) :
  Calls Tryz.prog 220 #[.slice a n c,.slice a2 n2 c2] w λe w'=>e = .returned (.int .i64 (cmpL l l2))/\w=w':=by
 have Hl:=Lib.hid hi.len
 have Hl2:=Lib.hid hi2.len
 have hpl:=hi.pl
 have hpl2:=hi2.pl
 have hmax:=hi.max
 have hmax2:=hi2.max
 unfold maxLen at hmax hmax2
 go_enter Tryz.func220,Tryz.ntmps220
 go_wp2_with fail
 go_loop [11] (λiv=>∃k : Nat,k<=n/\k<=n2/\iv = .int .i64 k/\Hid (∀j,j<k->nth l j=nth l2 j)) (λiv=>n - (intOf iv).toNat)
 case atStart=>exact ⟨0,Nat.zero_le _,Nat.zero_le _,rfl,λj hj=>by omega⟩
 case round =>
  obtain ⟨k,hk,hk2,rfl,hall⟩:=hrel
  by_cases hlt : k<n
  ·have ck:=hi.cell k hlt
   by_cases hlt2 : k<n2
   ·have ck2:=hi2.cell k hlt2
    have hge : decide ((n2 : Int)<=(k : Int))=false:=by simp;omega
    by_cases he : cmp1 (nth l k) (nth l2 k)=0
    ·have hEq : Hid (nth l k=nth l2 k):=by
      show _=_
      unfold cmp1 at he
      split at he
      ·omega
      ·split at he
       ·omega
       ·omega
     have hc:=cmpInt_any (nth l k) (nth l2 k)
     rw [he] at hc
     have Hc:=Lib.hid hc
     clear he hc
     go_wp2_with (go_at_call 258;refine (Hc.out _).mono ?_;rintro e w' ⟨rfl,rfl⟩)
     go_round
     case rel=>exact ⟨k+1,by omega,by omega,by go_num,λj hj=>by
      rcases Nat.lt_or_ge j k with h | h
      ·exact hall.out j h
      ·rw [show j=k by omega];exact hEq.out⟩
     case measure=>simp [intOf] <;> omega
    ·have Hv:=Lib.hid (cmpL_at hall.out (by rw [Hl.out];exact hlt) (by rw [Hl2.out];exact hlt2) he)
     have Hc:=Lib.hid (cmpInt_any (nth l k) (nth l2 k))
     have hne : (cmp1 (nth l k) (nth l2 k) != 0)=true:=by simpa using he
     clear he
     generalize cmp1 (nth l k) (nth l2 k)=r at *
     go_wp2_with (go_at_call 258;refine (Hc.out _).mono ?_;rintro e w' ⟨rfl,rfl⟩)
     go_ret
     exact ⟨ret_int Hv.out.symm,rfl⟩
   ·have hge : decide ((n2 : Int)<=(k : Int))=true:=by simp;omega
    have Hv : Hid (cmpL l l2=1):=by
     show _=_
     rw [cmpL_pre hall.out (.inr (by rw [Hl2.out];omega)) (by rw [Hl.out];exact hk) (by rw [Hl2.out];exact hk2),Hl.out,Hl2.out,if_neg (by omega),if_pos (by omega)]
    go_wp2_with fail
    go_ret
    exact ⟨ret_int Hv.out.symm,rfl⟩
  ·have Hv : Hid (cmpL l l2=if n<n2 then -1 else 0):=by
    show _=_
    rw [cmpL_pre hall.out (.inl (by rw [Hl.out];omega)) (by rw [Hl.out];exact hk) (by rw [Hl2.out];exact hk2),Hl.out,Hl2.out,if_neg (show ¬ n2<n by omega)]
   obtain rfl : k=n:=by omega
   by_cases h2 : k<n2
   ·rw [if_pos h2] at Hv
    go_wp2_with fail
    go_ret
    exact ⟨ret_int Hv.out.symm,rfl⟩
   ·rw [if_neg h2] at Hv
    go_wp2_with fail
    go_ret
    exact ⟨ret_int Hv.out.symm,rfl⟩
end

section
open Go.RowKit
theorem Ints.drop {w : World} {b o : Nat} {n k : Nat} {l : List Int} (h : Ints w (some ⟨b,o,none⟩) n l) (hk : k<=n) : Ints w (some ⟨b,o+k,none⟩) (n - k) (l.drop k) :=
 ⟨by rw [List.length_drop,h.len],λ_=>rfl,by have:=h.max;omega,λi hi=>by
  have h1:=h.cell (k+i) (by omega)
  have e : nth (l.drop k) i=nth l (k+i):=by unfold nth;simp only [List.getD_eq_getElem?_getD,List.getElem?_drop]
  rw [e]
  simp only [ablk_some,aoff_some] at h1 ⊢
  rw [Nat.add_assoc];exact h1⟩
end

section
open Go.RowKit
end

section
open Go.RowKit
theorem Box.setC {w : World} {b : Nat} {cs : List Value} (h : Box w b cs) (i : Nat) (v : Value) : Box (w.setCell ⟨b,i,none⟩ v) b (cs.set i v):=by
 refine ⟨by simpa using h.1,λj u hu=>?_,λj=>by rw [World.frozen?_setCell];exact h.2.2 j⟩
 by_cases e : j=i
 ·subst e
  by_cases hl : j<cs.length
  ·rw [List.getElem?_set_self hl] at hu
   cases hu
   exact World.cell?_setCell_same _ _ _ (h.2.1 j cs[j] (List.getElem?_eq_getElem hl))
  ·rw [List.set_eq_of_length_le (by omega),List.getElem?_eq_none (by omega)] at hu
   cases hu
 ·rw [List.getElem?_set_ne (by omega)] at hu
  rw [World.cell?_setCell_other _ _ _ _ (by simp <;> omega)]
  exact h.2.1 j u hu
end

section
open Go.RowKit
end

section
set_option maxRecDepth 100000
set_option maxHeartbeats 4000000

open Go.RowKit
theorem listG_any {w : World} {b : Nat} {G : Tbl} (q : Nat) (x : Int) (hc : w.cell? ⟨q,0,none⟩=some (.pointer (some ⟨b,0,none⟩))) (h : GFw w b G) :
  Calls Tryz.prog 137 #[.int .i64 x,.pointer (some ⟨q,0,none⟩)] w λe w'=>e = .returned (.bool (!(decide (0<=x) && decide (x<G.q))))/\w=w':=by
 go_enter Tryz.func137,Tryz.ntmps137
 go_wp2_with fail
 refine (gIs x h).mono ?_
 rintro e w' ⟨rfl,rfl⟩
 obtain ⟨z,hz⟩ : ∃z,(decide (0<=x) && decide (x<G.q))=z:=⟨_,rfl⟩
 have Hz:=Lib.hid hz
 rw [hz]
 clear hz
 cases z
 ·go_wp2_with fail
  go_ret
  exact ⟨ret_bool (by rw [Hz.out];rfl),rfl⟩
 ·go_wp2_with fail
  go_ret
  exact ⟨ret_bool (by rw [Hz.out];rfl),rfl⟩
theorem indexLG_any (p : Int->Bool) (q : Nat) (a : Option Addr) (n c : Nat) (l : List Int) (w : World) (hi : Ints w a n l) (hf : ∀k,k<n->Calls Tryz.prog 137 #[.int .i64 (nth l k),.pointer (some ⟨q,0,none⟩)] w λe w'=>e = .returned (.bool (p (nth l k)))/\w=w') :
  Calls Tryz.prog 97 #[.slice a n c,.func (.func 137) #[] #[.pointer (some ⟨q,0,none⟩)]] w λe w'=>∃z : Int,e = .returned (.int .i64 z)/\(0<=z ↔ l.any p=true)/\w=w':=by
 have hpl:=hi.pl
 have hmax:=hi.max
 have HF:=Lib.hid hf
 have Hl:=Lib.hid hi.len
 unfold maxLen at hmax
 clear hf
 go_enter Tryz.func97,Tryz.ntmps97
 go_wp2_with fail
 go_loop [8] (λiv=>∃k : Nat,k<=n/\iv = .int .i64 k/\Hid (∀j,j<k->p (nth l j)=false)) (λiv=>n - (intOf iv).toNat)
 case atStart=>exact ⟨0,Nat.zero_le _,rfl,λj hj=>by omega⟩
 case round =>
  obtain ⟨k,hk,rfl,hno⟩:=hrel
  by_cases hlt : k<n
  ·have ck:=hi.cell k hlt
   have hfk:=HF.out k hlt
   obtain ⟨z,hz⟩ : ∃z,p (nth l k)=z:=⟨_,rfl⟩
   rw [hz] at hfk
   have Hk:=Lib.hid hfk
   cases z
   ·have Hn : Hid (∀j,j<k+1->p (nth l j)=false):=λj hj=>by
     by_cases e : j=k
     ·subst e;exact hz
     ·exact hno.out j (by omega)
    clear hz hfk hno
    go_wp2_with fail
    refine Hk.out.mono ?_
    rintro e w' ⟨rfl,rfl⟩
    go_wp2_with fail
    go_round
    case rel=>exact ⟨k+1,by omega,by go_num,Hn.out⟩
    case measure=>simp [intOf] <;> omega
   ·have Hy : Hid (l.any p=true):=by
     show _=_
     rw [List.any_eq_true]
     exact ⟨nth l k,nth_mem (by rw [Hl.out];exact hlt),hz⟩
    clear hz hfk hno
    go_wp2_with fail
    refine Hk.out.mono ?_
    rintro e w' ⟨rfl,rfl⟩
    go_wp2_with fail
    go_ret
    exact ⟨k,rfl,⟨λ_=>by first | exact Hy.out | exact List.any_eq_true.1 Hy.out,λ_=>Int.natCast_nonneg _⟩,rfl⟩
  ·obtain rfl : k=n:=by omega
   have Hy : Hid (l.any p=false):=by
    show _=_
    rw [List.any_eq_false]
    intro x hx
    obtain ⟨j,hj,rfl⟩:=List.mem_iff_getElem.1 hx
    have:=hno.out j (by rw [<- Hl.out];exact hj)
    rw [nth_getElem hj] at this
    rw [this];decide
   go_wp2_with fail
   go_ret
   exact ⟨-1,rfl,⟨λh=>absurd h (by omega),λh=>by have h2 : l.any p=true:=(by first | exact h | exact List.any_eq_true.2 h);rw [Hy.out] at h2;exact absurd h2 (by decide)⟩,rfl⟩
theorem containsLG_any (p : Int->Bool) (q : Nat) (a : Option Addr) (n c : Nat) (l : List Int) (w : World) (hi : Ints w a n l) (hf : ∀k,k<n->Calls Tryz.prog 137 #[.int .i64 (nth l k),.pointer (some ⟨q,0,none⟩)] w λe w'=>e = .returned (.bool (p (nth l k)))/\w=w') :
  Calls Tryz.prog 136 #[.slice a n c,.func (.func 137) #[] #[.pointer (some ⟨q,0,none⟩)]] w λe w'=>e = .returned (.bool (l.any p))/\w=w':=by
 have Hc:=Lib.hid (indexLG_any p q a n c l w hi hf)
 clear hf
 go_enter Tryz.func136,Tryz.ntmps136
 go_wp2_with fail
 refine Hc.out.mono ?_
 rintro e w' ⟨z,rfl,hz,rfl⟩
 by_cases h0 : 0<=z
 ·have Hz : Hid (l.any p=true):=hz.1 h0
  have h0' : decide (0<=z)=true:=by simpa using h0
  clear hz h0
  go_wp2_with fail
  go_ret
  exact ⟨ret_bool Hz.out.symm,rfl⟩
 ·have Hz : Hid (l.any p=false):=by
   show _=_
   cases h : l.any p
   ·rfl
   ·exact absurd (hz.2 h) h0
  have h0' : decide (0<=z)=false:=by simpa using h0
  clear hz h0
  go_wp2_with fail
  go_ret
  exact ⟨ret_bool Hz.out.symm,rfl⟩
theorem any_els (q : Int) (l : List Int) : l.any (λx=>!(decide (0<=x) && decide (x<q))) = !(elsQ q l):=by
 unfold elsQ
 induction l with
 | nil=>rfl
 | cons x l ih =>
  rw [List.any_cons,List.all_cons,ih]
  unfold isQ
  cases (decide (0<=x) && decide (x<q)) <;> simp
theorem codeListG_any (P M : Int) (am : Option Addr) (mn cm : Nat) (mod : List Int) (ax : Option Addr) (nx cx : Nat) (x : List Int) (n : Nat) (w : World) (hmod : Ints w am mn mod) (hx : Ints w ax nx x) (hB : fieldB P M mod=true) :
  Calls Tryz.prog 71 #[.agg #[.int .i64 P,.int .i64 M,.slice am mn cm],.slice ax nx cx,.int .i64 n] w λe w'=>e = .returned (.int .i64 (lstE (tblOf P M.toNat mod).q x n))/\Below w.heap.size w w':=by
 have hxl:=hx.len
 go_enter Tryz.func71,Tryz.ntmps71
 go_upto_region 1 with fail
 obtain ⟨W,hW⟩ : ∃W : World,W=w.alloc (.cells #[.int .i64 P,.int .i64 M,.slice am mn cm] 24):=⟨_,rfl⟩
 rw [<- hW]
 have hbW : Below w.heap.size w W:=by rw [hW];exact below1 _ _
 have x0 : Box W w.heap.size [.int .i64 P,.int .i64 M,.slice am mn cm]:=by rw [hW];exact Box.new _ _ _ rfl
 have c0:=x0.cell 0 rfl
 have c1:=x0.cell 1 rfl
 have c2:=x0.cell 2 rfl
 clear hW x0
 by_cases hnx : nx=n
 rotate_left
 ·have hnn : ((nx : Int) != n)=true:=by simp;omega
  have HL : Hid (lstE (tblOf P M.toNat mod).q x n=4):=by show _=_;rw [lstE,if_neg (by omega)]
  clear hnx hxl
  go_wp2_with fail
  go_ret
  exact ⟨ret_int HL.out.symm,hbW⟩
 obtain rfl : nx=n:=hnx
 have hnn : ((nx : Int) != nx)=false:=by simp
 have HL : Hid (lstE (tblOf P M.toNat mod).q x nx=if elsQ (tblOf P M.toNat mod).q x=true then 0 else 2):=by show _=_;rw [lstE,if_pos hxl];rfl
 clear hxl
 go_wp2_with fail
 refine (fieldNew_any P M am mn cm mod W (hmod.keep hbW)).mono ?_
 rintro e w4 (⟨hB2,_,_⟩ | ⟨_,b,rfl,hG,hbl,hb4⟩)
 ·rw [hB] at hB2;cases hB2
 have hbw4:=Below.next hbW hb4
 have hb5:=below1 w4 (.cells #[.pointer (some ⟨b,0,none⟩)] 95)
 have hc5:=cell_new w4 (.pointer (some ⟨b,0,none⟩)) 95
 have hcc:=containsLG_any (λy=>!(decide (0<=y) && decide (y<(tblOf P M.toNat mod).q))) w4.heap.size ax nx cx x _ (hx.keep (Below.next hbw4 hb5)) λk hk=>listG_any w4.heap.size (nth x k) hc5 (hG.gf.keep hb5)
 rw [any_els] at hcc
 obtain ⟨z,hz⟩ : ∃z,elsQ (tblOf P M.toNat mod).q x=z:=⟨_,rfl⟩
 rw [hz] at hcc HL
 have Hc:=Lib.hid hcc
 have hF:=Below.next hbw4 hb5
 have HF:=Lib.hid hF
 clear c0 c1 c2 hG hbl hB hF hcc hz
 cases z
 ·have HL2 : Hid (lstE (tblOf P M.toNat mod).q x nx=2):=by show _=_;rw [HL.out];rfl
  go_wp2_with fail
  refine Hc.out.mono ?_
  rintro e w' ⟨rfl,rfl⟩
  go_wp2_with fail
  go_ret
  exact ⟨ret_int HL2.out.symm,HF.out⟩
 ·have HL2 : Hid (lstE (tblOf P M.toNat mod).q x nx=0):=by show _=_;rw [HL.out];rfl
  go_wp2_with fail
  refine Hc.out.mono ?_
  rintro e w' ⟨rfl,rfl⟩
  go_wp2_with fail
  go_ret
  exact ⟨ret_int HL2.out.symm,HF.out⟩
end

section
open Go.RowKit
section
variable {O : FOps} {El : Int->Prop} {m : Nat} {A B L : List (List Int)}
theorem Lin.nul (F : Fld O El) (n : Nat) : Lin O El n (λ_=>0) :=
 ⟨λ_ _=>F.zero,λ_ _ x _ _ hx=>by rw [F.mzero hx,F.nzero,F.add_zero _ F.zero],λ_ x _ hx=>by rw [F.mzero hx]⟩
theorem Lin.dot (F : Fld O El) {n : Nat} {u : Nat->Int} : ∀ {k},k<=n->(∀j,j<k->El (u j))->Lin O El n (λw=>dotN O u (λj=>nth w j) k)
 | 0,_,_=>Lin.nul F n
 | k+1,hk,hu=>by
  have h1:=Lin.dot F (n:=n) (u:=u) (k:=k) (by omega) λj hj=>hu j (by omega)
  refine (h1.comb F (Lin.coord F (i:=k) (by omega)) (F.cl.neg _ (hu k (by omega)))).congr F λv hv=>?_
  show O.add _ (O.mul (u k) (nth v k))=O.add _ (O.neg (O.mul (nth v k) (O.neg (u k))))
  have hvk:=hv.at (show k<n by omega)
  rw [F.mul_neg hvk (hu k (by omega)),F.neg_neg (F.cl.mul _ _ hvk (hu k (by omega))),F.mul_comm _ _ hvk (hu k (by omega))]
theorem RS.dot (F : Fld O El) (hA : Rws El m A) (hB : Rws El m B) (ho : Orth O m A B) {f : Nat->Int} (hf : RS O El m A f) {i : Nat} (hi : i<B.length) : dotN O f (λp=>nth (nthR B i) p) m=0:=by
 obtain ⟨e,he,h2⟩:=hf
 have hb : ∀p,p<m->El (nth (nthR B i) p):=λp hp=>Vc.at (hB.row hi) hp
 rw [dotN_congr (a':=λp=>e (colS A p)) (b':=λp=>nth (nthR B i) p) m λp hp=>⟨h2 p hp,rfl⟩]
 rw [dotN_comm F m (λp _=>he.el _ (colS_vc hA F.zero p)) hb]
 refine form_dot F hA he hb λj hj=>?_
 rw [dotN_comm F m hb λp hp=>Vc.at (hA.row hj) hp]
 exact ho j i hj hi
theorem RS.cmb (F : Fld O El) (hL : Rws El m L) {f : Nat->Int} (h : RS O El m L f) : ∃v,Vc El L.length v/\∀x,x<m->f x=nth (cmbTo O m v L L.length) x:=by
 obtain ⟨e,he,h2⟩:=h
 obtain ⟨c,hc⟩ : ∃c,((List.range L.length).map λt=>e (unitR L.length t))=c:=⟨_,rfl⟩
 have hcl : c.length=L.length:=by rw [<- hc];simp
 have hcn : ∀t,t<L.length->nth c t=e (unitR L.length t):=λt ht=>by rw [<- hc,nth_mapRange _ _ _ ht]
 have hcv : Vc El L.length c:=⟨hcl,λy hy=>by
  obtain ⟨t,ht,rfl⟩:=List.mem_iff_getElem.1 hy
  rw [<- nth_getElem ht,hcn t (by omega)]
  exact he.el _ (unitR_vc F _ _)⟩
 refine ⟨c,hcv,λx hx=>?_⟩
 rw [h2 x hx,form_unit F he (colS_vc hL F.zero x),cmb_dot F hL (λk hk=>hcv.at hk) hx _ (Nat.le_refl _)]
 exact dotN_congr _ λp hp=>⟨(hcn p hp).symm,nth_colS _ _ _ hp⟩
end
end

section
open Go.RowKit
variable {w : World} {b : Nat} {G : Tbl}
end

section
open Go.RowKit
structure HEnv (V : World) (b : Nat) (G : Tbl) (Bc Bo Bf Bg n : Nat) (ao : Option Addr) (n2 co : Nat) : Prop where
 cn : V.cell? ⟨Bc,3,none⟩=some (.int .i64 n)
 out : V.cell? ⟨Bo,0,none⟩=some (.slice ao n2 co)
 fr : V.cell? ⟨Bf,0,none⟩=some (.func (.func 218) #[] #[.pointer (some ⟨Bc,0,none⟩),.pointer (some ⟨Bo,0,none⟩),.pointer (some ⟨Bf,0,none⟩),.pointer (some ⟨Bg,0,none⟩)])
 gp : V.cell? ⟨Bg,0,none⟩=some (.pointer (some ⟨b,0,none⟩))
 gf : GFw V b G
theorem Moves.setAt' (w : World) {I : Nat->Prop} {p : Addr} (hB : I p.block) (v : Value) : Moves w (w.setCell p v) I I:=by
 have hb0 : Below 0 w (w.setCell p v):=(Below.refl 0 w).setCell (Nat.zero_le _) v
 exact ⟨hb0.os,hb0.tape,hb0.output,hb0.size,λb hb hI=>Below.heap_setCell _ _ _ _ λe=>hI (e ▸ hB),λb hb=>.inl hb⟩
end

section
open Go.RowKit
theorem Moves.grownI {U w w' : World} {I : Nat->Prop} {a : Option Addr} {n c : Nat} (h : Moves U w I I) (hg : w.grownBy w' (Value.slice a n c).ownBlock) (hI : a ≠ none->I (ablk a)\/U.heap.size<=ablk a) : Moves U w' I I :=
 ⟨hg.os.trans h.os,hg.tape.trans h.tape,hg.output.trans h.output,Nat.le_trans h.size hg.size,λb hb hIb=>(hg.block b (Nat.lt_of_lt_of_le hb h.size) (λe=>by
  by_cases ha : Apt a b
  ·exact ha.own n c e.symm
  ·have h1 : a ≠ none:=λh=>ha (.inl h)
   have h2 : ablk a=b:=Classical.byContradiction λh=>ha (.inr h)
   rw [h2] at hI
   rcases hI h1 with h3 | h3
   ·exact hIb h3
   ·omega)).trans (h.block b hb hIb),λb hb=>.inl hb⟩
theorem MatN.moves {B : Nat} {w w' : World} {I I' : Nat->Prop} {a : Option Addr} {n : Nat} {L : List (List Int)} (h : MatN B w a n L) (hM : Moves w w' I I') (hI : ∀b,I b->b<B) : MatN B w' a n L :=
 ⟨h.len,h.pl,h.max,h.lo,λi hi=>by
  obtain ⟨b,m,c,h1,h2⟩:=h.cell i hi
  exact ⟨b,m,c,hM.cell h1 (λhc=>Nat.lt_irrefl _ (Nat.lt_of_lt_of_le (hI _ hc) (h.lo (by omega)))),h2.ints.moves hM (λhm hc=>Nat.lt_irrefl _ (Nat.lt_of_lt_of_le (hI _ hc) (h2.lo hm))),h2.lo⟩⟩
end

section
open Go.RowKit
theorem code_le {P M : Int} {mod : List Int} {m : Nat} {L : List (List Int)} (hE : codeE P M mod m L=0) : L.length<=m:=by
 obtain ⟨_,_,_,h4⟩:=codeE_zero hE
 obtain ⟨_,h6⟩:=spaceE_zero h4
 rw [Int.toNat_natCast] at h6
 rw [<- h6,canS_length]
 exact (elimTo_piv _ _ _).1
theorem Box.setA {w : World} {g : Nat} {x y : Value} (h : Box w g [x,y]) (u : Value) : Box (w.setCell ⟨g,0,none⟩ u) g [u,y]:=by
 have hc0:=h.cell 0 rfl
 have hc1:=h.cell 1 rfl
 refine ⟨by have:=h.1;simpa using this,λi v hv=>?_,λi=>by rw [World.frozen?_setCell];exact h.2.2 i⟩
 match i,hv with
 | 0,hv=>simp at hv;subst hv;exact World.cell?_setCell_same w _ _ hc0
 | 1,hv=>simp at hv;subst hv;rw [World.cell?_setCell_other _ _ _ _ (by simp)];exact hc1
 | i+2,hv=>simp at hv
theorem Box.setB {w : World} {g : Nat} {x y : Value} (h : Box w g [x,y]) (u : Value) : Box (w.setCell ⟨g,1,none⟩ u) g [x,u]:=by
 have hc0:=h.cell 0 rfl
 have hc1:=h.cell 1 rfl
 refine ⟨by have:=h.1;simpa using this,λi v hv=>?_,λi=>by rw [World.frozen?_setCell];exact h.2.2 i⟩
 match i,hv with
 | 0,hv=>simp at hv;subst hv;rw [World.cell?_setCell_other _ _ _ _ (by simp)];exact hc0
 | 1,hv=>simp at hv;subst hv;exact World.cell?_setCell_same w _ _ hc1
 | i+2,hv=>simp at hv
end

section
open Go.RowKit
end

section
open Go.RowKit
end

section
open Go.RowKit
end

section
open Go.RowKit
end

section
open Go.RowKit
section
variable {O : FOps} {El : Int->Prop} {m : Nat} {L : List (List Int)}
end
end

section
open Go.RowKit
end

section

end

section
open Go.RowKit
end

section
open Go.RowKit
end

section
open Go.RowKit Go.Shelf
theorem Moves.putAt (w : World) {I : Nat->Prop} {B : Nat} (hB : I B) (o : Obj) : Moves w (w.putObj B o) I I:=by
 have hg:=grownBy_putObj' w B o
 exact ⟨hg.os,hg.tape,hg.output,hg.size,λb hb hI=>hg.block b hb (λe=>by cases e;exact hI hB),λb hb=>.inl hb⟩
theorem Ints.put {w : World} {a : Option Addr} {n : Nat} {l : List Int} (h : Ints w a n l) (B : Nat) (o : Obj) (hB : 0<n->ablk a ≠ B) : Ints (w.putObj B o) a n l :=
 h.of_block λhn=>World.putObj_heap_other (λe=>hB hn e)
end

section
open Go.RowKit
end

section
open Go.RowKit
end

section
open Go.RowKit
section
variable {O : FOps} {El : Int->Prop} {m : Nat} {L : List (List Int)}
end
section
variable {P M : Int} {mod : List Int} {m : Nat} {L : List (List Int)}
end
end

section

end

section
open Go.RowKit
end

end Go.Proofs.YtcfmiocdlcapoaaGreat
