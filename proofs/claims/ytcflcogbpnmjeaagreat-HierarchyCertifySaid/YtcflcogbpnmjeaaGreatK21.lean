/-  -/
import Derived.Test.YtcflcogbpnmjeaaGreatK20
import Derived.Test.YtcflcogbpnmjeaaGreatK12
import Derived.Test.YtcflcogbpnmjeaaGreatK19
import Derived.Test.YtcflcogbpnmjeaaGreatK18
import Derived.Test.YtcflcogbpnmjeaaGreatK15
import Derived.Test.YtcflcogbpnmjeaaGreatK11
import Derived.Test.YtcflcogbpnmjeaaGreatK17
import Derived.Test.YtcflcogbpnmjeaaGreatK8
import Derived.OwnWalk
namespace Go.Proofs.YtcflcogbpnmjeaaGreat
set_option linter.unusedVariables false
set_option linter.unusedSimpArgs false
set_option linter.unusedSectionVars false

section
open Go.RowKit
end

section
open Go.RowKit
end

section
open Go.RowKit
end

section
open Go.RowKit
end

section
open Go.RowKit
end

section
open Go.RowKit
end

section
open Go.RowKit
end

section
section
variable {O : FOps} {El : Int→Prop} {m : Nat}
theorem Piv.lessT (F : Fld O El) {L : List (List Int)} {P : List Int} {c : Nat} (h : Piv L P c) (hL : Rws El m L) {v : List Int} (hv : Vc El L.length v) {φ : List Int→Int} (hφ : Lin O El L.length φ)
  {t : Nat} (ht : t≤P.length) (h0 : ∀ j,j<t→φ (colS L (nth P j).toNat)=0) : ∀ k,k≤t→Vc El L.length (lessTo O L P v k)∧φ (lessTo O L P v k)=φ v∧∀ i,i<L.length→nth (lessTo O L P v k) i=if i<k then 0 else nth v i
 | 0,_=>⟨hv,rfl,fun i _=>by rw [if_neg (by omega)];rfl⟩
 | k+1,hk=>by
  obtain ⟨h1,h2,h3⟩:=h.lessT F hL hv hφ ht h0 k (by omega)
  have hle:=h.le
  have hcol:=colS_vc hL F.zero (nth P k).toNat
  have hx:=h1.at (i:=k) (by omega)
  refine ⟨h1.sub F hcol hx,?_,fun i hi=>?_⟩
  ·rw [lessTo,hφ.sub _ _ _ h1 hcol hx,h0 k (by omega),F.mzero hx,F.nzero,F.add_zero _ (hφ.el _ h1),h2]
  ·rw [lessTo,nth_subRow O _ _ _ i (by rw [hcol.1,h1.1]) (by rw [h1.1];exact hi),nth_colS L _ i hi,h.one k i (by omega) hi]
   by_cases e : i=k
   ·subst e
    rw [if_pos rfl,F.mone hx,F.add_neg _ hx,if_pos (by omega)]
   ·rw [if_neg e,F.mzero hx,F.nzero,F.add_zero _ (h1.at hi),h3 i hi]
    by_cases e2 : i<k
    ·rw [if_pos e2,if_pos (by omega)]
    ·rw [if_neg e2,if_neg (by omega)]
theorem asc_cut {P : List Int} (ha : ∀ i j,i<j→j<P.length→nth P i<nth P j) {x : Int} (hx : ¬ x ∈ P) : ∀ k,k≤P.length→∃ t,t≤k∧(∀ j,j<t→nth P j<x)∧∀ j,t≤j→j<k→x<nth P j
 | 0,_=>⟨0,Nat.le_refl _,fun j hj=>by omega,fun j _ hj=>by omega⟩
 | k+1,hk=>by
  obtain ⟨t,h1,h2,h3⟩:=asc_cut ha hx k (by omega)
  have hne : nth P k ≠ x:=fun e=>hx (e ▸ nth_mem (by omega))
  by_cases ht : t=k
  ·subst ht
   by_cases hlt : nth P t<x
   ·exact ⟨t+1,by omega,fun j hj=>by
     by_cases e : j=t
     ·subst e;exact hlt
     ·exact h2 j (by omega),fun j h4 h5=>by omega⟩
   ·exact ⟨t,by omega,h2,fun j h4 h5=>by
     obtain rfl : j=t:=by omega
     omega⟩
  ·refine ⟨t,by omega,h2,fun j h4 h5=>?_⟩
   by_cases e : j=k
   ·subst e
    have:=ha t j (by omega) (by omega)
    have:=h3 t (Nat.le_refl _) (by omega)
    omega
   ·exact h3 j h4 (by omega)
theorem lead_in (F : Fld O El) {R : List (List Int)} {P : List Int} (hR : Rws El m R) (hP : Piv R P m) (hl : Lead R P) {f : Nat→Int} (hf : RS O El m R f) {x : Nat} (hx : x<m) (h0 : ∀ y,y<x→f y=0) (hne : f x ≠ 0) : (x : Int) ∈ P:=by
 refine Classical.byContradiction fun hn=>hne ?_
 obtain ⟨t,h1,h2,h3⟩:=asc_cut hl.asc hn P.length (Nat.le_refl _)
 obtain ⟨e,he,h⟩:=hf
 have hlt:=hP.lt
 obtain ⟨q1,q2,q3⟩:=hP.lessT F hR (colS_vc hR F.zero x) he h1 (fun j hj=>by
  have:=h2 j hj
  have:=hlt j (by omega)
  rw [← h _ (by omega)]
  exact h0 _ (by omega)) t (Nat.le_refl _)
 rw [h x hx,← q2]
 refine he.zero F q1 fun i hi=>?_
 rw [q3 i hi]
 split
 ·rfl
 ·rw [nth_colS R x i hi]
  by_cases hi2 : i<P.length
  ·have:=h3 i (by omega) hi2
   exact hl.lead i x hi2 (by omega)
  ·exact hP.zero i x (by omega) hi hx
theorem piv_zero (F : Fld O El) {R : List (List Int)} {P : List Int} (hR : Rws El m R) (hP : Piv R P m) {f : Nat→Int} (hf : RS O El m R f) (h0 : ∀ j,j<P.length→f (nth P j).toNat=0) : ∀ x,x<m→f x=0:=fun x hx=>by
 obtain ⟨e,he,h⟩:=hf
 rw [h x hx]
 refine hP.all F hR hx e he fun y hy=>?_
 obtain ⟨j,hj,rfl⟩:=(mem_grL P _ _).1 hy
 rw [← h _ (by have:=hP.lt j hj;omega)]
 exact h0 j hj
theorem asc_pair {P : List Int} (ha : ∀ i j,i<j→j<P.length→nth P i<nth P j) : P.Pairwise fun x y=>x<y:=by
 rw [List.pairwise_iff_getElem]
 intro i j hi hj hij
 have:=ha i j hij hj
 rwa [nth_getElem hi,nth_getElem hj] at this
theorem asc_same {P P' : List Int} (ha : ∀ i j,i<j→j<P.length→nth P i<nth P j) (ha' : ∀ i j,i<j→j<P'.length→nth P' i<nth P' j) (h : ∀ x,x ∈ P ↔ x ∈ P') : P=P':=by
 have h1:=asc_pair ha
 have h2:=asc_pair ha'
 exact pair_unique (h1.imp fun h=>by omega) (h2.imp fun h=>by omega) ((List.perm_ext_iff_of_nodup (h1.imp fun h=>by omega) (h2.imp fun h=>by omega)).2 h)
theorem can_uniq (F : Fld O El) {R R' : List (List Int)} {P P' : List Int} (hR : Rws El m R) (hR' : Rws El m R') (hP : Piv R P m) (hP' : Piv R' P' m) (hl : Lead R P) (hl' : Lead R' P') (hlen : R.length=P.length) (hlen' : R'.length=P'.length)
  (h1 : RSub O El m R R') (h2 : RSub O El m R' R) : R=R':=by
 have key : ∀ {R R' : List (List Int)} {P P' : List Int},Rws El m R→Piv R P m→Lead R P→Piv R' P' m→Lead R' P'→R'.length=P'.length→RSub O El m R' R→∀ x ∈ P',x ∈ P:=fun {R R' P P'} hR hP hl hP' hl' hlen' h2 x hx=>by
  obtain ⟨i,hi,rfl⟩:=List.mem_iff_getElem.1 hx
  have hb:=hP'.lt i hi
  have h3:=lead_in F hR hP hl (h2 i (by omega)) (x:=(nth P' i).toNat) (by omega) (fun y hy=>hl'.lead i y hi hy) (by
   show nth (nthR R' i) (nth P' i).toNat ≠ 0
   rw [hP'.one i i hi (by omega),if_pos rfl];decide)
  rw [show (((nth P' i).toNat : Nat) : Int)=nth P' i by omega,nth_getElem hi] at h3
  exact h3
 have hPP : P=P':=asc_same hl.asc hl'.asc fun x=>⟨key hR' hP' hl' hP hl hlen h1 x,key hR hP hl hP' hl' hlen' h2 x⟩
 subst hPP
 refine List.ext_getElem (by omega) fun i hi hi'=>?_
 have hr:=hR _ (List.getElem_mem hi)
 have hr':=hR' _ (List.getElem_mem hi')
 refine nth_ext (by rw [hr.1,hr'.1]) fun x hx=>?_
 rw [hr.1] at hx
 have hz:=piv_zero F hR hP ((h2 i hi').comb F (RS.row F (m:=m) hi) F.one) (fun j hj=>by
  show O.add (nth (nthR R' i) (nth P j).toNat) (O.neg (O.mul (nth (nthR R i) (nth P j).toNat) 1))=0
  rw [hP'.one j i hj hi',hP.one j i hj hi]
  split
  ·rw [F.mone F.one,F.add_neg _ F.one]
  ·rw [F.mone F.zero,F.add_neg _ F.zero]) x hx
 have hz' : O.add (nth (nthR R' i) x) (O.neg (O.mul (nth (nthR R i) x) 1))=0:=hz
 have e1 : El (nth R[i] x):=hr.2 _ (nth_mem (by rw [hr.1];exact hx))
 have e2 : El (nth R'[i] x):=hr'.2 _ (nth_mem (by rw [hr'.1];exact hx))
 rw [nthR_getElem hi,nthR_getElem hi',F.mone e1] at hz'
 have h4:=F.neg_of e2 (F.cl.neg _ e1) hz'
 have h5:=congrArg O.neg h4
 rwa [F.neg_neg e1,F.neg_neg e2] at h5
theorem unitR_vc (F : Fld O El) (n k : Nat) : Vc El n (unitR n k):=by
 refine ⟨unitR_len n k,fun x hx=>?_⟩
 unfold unitR at hx
 rcases List.mem_or_eq_of_mem_set hx with hx | rfl
 ·rw [List.eq_of_mem_replicate hx];exact F.zero
 ·exact F.one
theorem nth_unitR {n k i : Nat} (hk : k<n) : nth (unitR n k) i=if i=k then 1 else 0:=by
 unfold unitR
 rw [nth_set _ _ _ _ (by simpa using hk)]
 split
 ·rfl
 ·unfold nth
  simp only [List.getD_eq_getElem?_getD,List.getElem?_replicate]
  split <;> rfl
def cutTo (O : FOps) (n : Nat) (v : List Int) : Nat→List Int
 | 0=>v
 | k+1=>subRow O (cutTo O n v k) (nth v k) (unitR n k)
theorem cut_form (F : Fld O El) {n : Nat} {φ : List Int→Int} (hφ : Lin O El n φ) {v : List Int} (hv : Vc El n v) : ∀ k,k≤n→Vc El n (cutTo O n v k)∧(∀ i,i<n→nth (cutTo O n v k) i=if i<k then 0 else nth v i) ∧
  O.add (φ (cutTo O n v k)) (dotN O (fun t=>φ (unitR n t)) (fun t=>nth v t) k)=φ v
 | 0,_=>⟨hv,fun i _=>by rw [if_neg (by omega)];rfl,by rw [dotN];exact F.add_zero _ (hφ.el _ hv)⟩
 | k+1,hk=>by
  obtain ⟨h1,h2,h3⟩:=cut_form F hφ hv k (by omega)
  have hu:=unitR_vc F n k
  have hx:=hv.at (i:=k) (by omega)
  refine ⟨h1.sub F hu hx,fun i hi=>?_,?_⟩
  ·rw [cutTo,nth_subRow O _ _ _ i (by rw [hu.1,h1.1]) (by rw [h1.1];exact hi),nth_unitR (by omega),h2 i hi]
   by_cases e : i=k
   ·subst e
    rw [if_pos rfl,if_neg (by omega),F.mone hx,F.add_neg _ hx,if_pos (by omega)]
   ·rw [if_neg e,F.mzero hx,F.nzero]
    by_cases e2 : i<k
    ·rw [if_pos e2,if_pos (by omega),F.add_zero _ F.zero]
    ·rw [if_neg e2,if_neg (by omega),F.add_zero _ (hv.at hi)]
  ·have hm:=F.cl.mul _ _ hx (hφ.el _ hu)
   have hd:=dotN_el F (a:=fun t=>φ (unitR n t)) (b:=fun t=>nth v t) k (fun p _=>hφ.el _ (unitR_vc F n p)) (fun p hp=>hv.at (by omega))
   rw [cutTo,hφ.sub _ _ _ h1 hu hx,dotN,F.mul_comm _ _ (hφ.el _ hu) hx,F.add4 (hφ.el _ h1) (F.cl.neg _ hm) hd hm,F.negadd hm,F.add_zero _ (F.cl.add _ _ (hφ.el _ h1) hd),h3]
theorem form_unit (F : Fld O El) {n : Nat} {φ : List Int→Int} (hφ : Lin O El n φ) {v : List Int} (hv : Vc El n v) : φ v=dotN O (fun t=>φ (unitR n t)) (fun t=>nth v t) n:=by
 obtain ⟨h1,h2,h3⟩:=cut_form F hφ hv n (Nat.le_refl _)
 rw [← h3,hφ.zero F h1 fun i hi=>by rw [h2 i hi,if_pos hi],F.zadd (dotN_el F n (fun p _=>hφ.el _ (unitR_vc F n p)) (fun p hp=>hv.at hp))]
theorem cmb_dot (F : Fld O El) {L : List (List Int)} (hL : Rws El m L) {x : List Int} (hx : ∀ k,k<L.length→El (nth x k)) {y : Nat} (hy : y<m) : ∀ k,k≤L.length→nth (cmbTo O m x L k) y=dotN O (fun t=>nth x t) (fun t=>nth (nthR L t) y) k
 | 0,_=>by
  rw [cmbTo,dotN]
  unfold nth
  simp only [List.getD_eq_getElem?_getD,List.getElem?_replicate]
  split <;> rfl
 | k+1,hk=>by
  have ih:=cmb_dot F hL hx hy k (by omega)
  obtain ⟨h1,_⟩:=cmb_rs F hL hx k (by omega)
  have hr:=hL.row (i:=k) (by omega)
  have hd:=dotN_el F (a:=fun t=>nth x t) (b:=fun t=>nth (nthR L t) y) k (fun p hp=>hx p (by omega)) (fun p hp=>Vc.at (hL.row (i:=p) (by omega)) hy)
  rw [cmbTo,dotN]
  split
  ·rename_i e0
   rw [ih,e0,F.zmul (Vc.at hr hy),F.add_zero _ hd]
  ·rw [nth_addRow O _ _ _ y (by rw [hr.1,h1.1]) (by rw [h1.1];exact hy),ih]
   split
   ·rename_i e1
    show _=O.add _ (O.mul (nth x k) (nth (nthR L k) y))
    rw [e1,F.mzero (hx k (by omega)),F.add_zero _ hd]
   ·rfl
end
section
variable {P M : Int} {mod : List Int} {m : Nat} {L : List (List Int)}
end
end

section
open Go.RowKit
def wRow (O : FOps) (p : List Int) (i : Nat) (r : List Int) : List Int :=
 if nth r i=0 then r else List.zipWith (fun a x=>O.add a (O.neg (O.mul (O.mul (nth r i) (O.inv (nth p i))) x))) r p
def woTo (O : FOps) (R : List (List Int)) (p i : Nat) : Nat→List (List Int)
 | 0=>[]
 | l+1=>if l=p then woTo O R p i l else woTo O R p i l ++ [wRow O (nthR R p) i (nthR R l)]
def woS (O : FOps) (R : List (List Int)) (i : Nat) : List (List Int) :=
 if findRow R i 0=R.length then R else woTo O R (findRow R i 0) i R.length
def hfrom (O : FOps) (n : Nat) : Nat→List (List Int)→Nat→List Int→List Int
 | 0,R,x,o=>if R.length=0 then o else o.set x R.length
 | d+1,R,x,o=>if R.length=0 then o else hfrom O n d (woS O R (n - (d+1))) x (hfrom O n d R (x+2 ^ (n - (d+1))) o)
def dimsS (O : FOps) (n : Nat) (L : List (List Int)) : List Int:=hfrom O n n L 0 (List.replicate (2 ^ n) 0)
def leafS (O : FOps) (n x : Nat) : Nat→List (List Int)→List (List Int)
 | 0,R=>R
 | d+1,R=>leafS O n x d (if x.testBit (n - (d+1))=true then R else woS O R (n - (d+1)))
variable {O : FOps} {El : Int→Prop} {m : Nat} {L : List (List Int)}
theorem wRow_length (O : FOps) {p r : List Int} {i : Nat} (h : p.length=r.length) : (wRow O p i r).length=r.length:=by
 unfold wRow
 split
 ·rfl
 ·rw [List.length_zipWith];omega
theorem nth_wRow (O : FOps) {p r : List Int} {i j : Nat} (h : p.length=r.length) (hj : j<r.length) : nth (wRow O p i r) j=if nth r i=0 then nth r j else O.add (nth r j) (O.neg (O.mul (O.mul (nth r i) (O.inv (nth p i))) (nth p j))):=by
 have hl:=wRow_length O (i:=i) h
 unfold wRow at hl ⊢
 split
 ·rfl
 ·rename_i h0
  rw [if_neg h0] at hl
  rw [nth_getElem (by omega),nth_getElem hj,nth_getElem (show j<p.length by omega)]
  simp
theorem mem_woTo {R : List (List Int)} {p i : Nat} {r : List Int} : ∀ {l},r ∈ woTo O R p i l ↔ ∃ j,j<l∧j ≠ p∧r=wRow O (nthR R p) i (nthR R j)
 | 0=>by simp [woTo]
 | l+1=>by
  have ih:=mem_woTo (R:=R) (p:=p) (i:=i) (r:=r) (l:=l)
  rw [woTo]
  constructor
  ·intro h
   by_cases e : l=p
   ·rw [if_pos e] at h
    obtain ⟨j,h1,h2⟩:=ih.1 h
    exact ⟨j,by omega,h2⟩
   ·rw [if_neg e] at h
    rcases List.mem_append.1 h with h | h
    ·obtain ⟨j,h1,h2⟩:=ih.1 h
     exact ⟨j,by omega,h2⟩
    ·exact ⟨l,by omega,e,List.mem_singleton.1 h⟩
  ·rintro ⟨j,h1,h2,h3⟩
   by_cases e : l=p
   ·rw [if_pos e]
    exact ih.2 ⟨j,by omega,h2,h3⟩
   ·rw [if_neg e]
    by_cases e2 : j=l
    ·subst e2;exact List.mem_append.2 (.inr (List.mem_singleton.2 h3))
    ·exact List.mem_append.2 (.inl (ih.2 ⟨j,by omega,h2,h3⟩))
theorem woTo_length (O : FOps) (R : List (List Int)) (p i : Nat) : ∀ l,(woTo O R p i l).length=if p<l then l - 1 else l
 | 0=>by simp [woTo]
 | l+1=>by
  have ih:=woTo_length O R p i l
  rw [woTo]
  split
  ·rename_i e
   subst e
   rw [ih,if_neg (by omega),if_pos (by omega)];rfl
  ·rename_i e
   rw [List.length_append,ih,List.length_singleton]
   by_cases h : p<l
   ·rw [if_pos h,if_pos (by omega)];omega
   ·rw [if_neg h,if_neg (by omega)]
theorem mem_nthR {R : List (List Int)} {r : List Int} (h : r ∈ R) : ∃ j,j<R.length∧nthR R j=r:=by
 obtain ⟨j,hj,e⟩:=List.mem_iff_getElem.1 h
 exact ⟨j,hj,by rw [nthR_getElem hj];exact e⟩
theorem RS.mem (F : Fld O El) {r : List Int} (h : r ∈ L) : RS O El m L (fun x=>nth r x):=by
 obtain ⟨j,hj,rfl⟩:=mem_nthR h
 exact .row F hj
theorem RS.el (F : Fld O El) (hL : Rws El m L) {f : Nat→Int} (h : RS O El m L f) {x : Nat} (hx : x<m) : El (f x):=by
 obtain ⟨e,he,h2⟩:=h
 rw [h2 x hx];exact he.el _ (colS_vc hL F.zero x)
theorem RS.at0 (F : Fld O El) (hL : Rws El m L) {f : Nat→Int} (h : RS O El m L f) {x : Nat} (hx : x<m) (h0 : ∀ r ∈ L,nth r x=0) : f x=0:=by
 obtain ⟨e,he,h2⟩:=h
 rw [h2 x hx,form_unit F he (colS_vc hL F.zero x)]
 refine dotN_zero F _ fun p hp=>?_
 show O.mul (e (unitR L.length p)) (nth (colS L x) p)=0
 rw [nth_colS _ _ p hp,h0 _ (nthR_mem hp),F.mzero (he.el _ (unitR_vc F _ p))]
theorem rs_snoc (F : Fld O El) (hL : Rws El m L) {r : List Int} (hr : Vc El m r) {f : Nat→Int} (h : RS O El m (L ++ [r]) f) : ∃ s g,El s∧RS O El m L g∧∀ x,x<m→f x=O.add (g x) (O.mul s (nth r x)):=by
 obtain ⟨e,he,h2⟩:=h
 have hLr : Rws El m (L ++ [r]):=fun y hy=>by
  rcases List.mem_append.1 hy with hy | hy
  ·exact hL y hy
  ·rw [List.mem_singleton.1 hy];exact hr
 have hlen : (L ++ [r]).length=L.length+1:=by simp
 obtain ⟨c,hc⟩ : ∃ c,((List.range L.length).map fun t=>e (unitR (L.length+1) t))=c:=⟨_,rfl⟩
 have hcn : ∀ t,t<L.length→nth c t=e (unitR (L.length+1) t):=fun t ht=>by
  rw [← hc,nth_getElem (by simpa using ht)];simp
 have hel : ∀ t,El (e (unitR (L.length+1) t)):=fun t=>by
  refine he.el _ ?_
  rw [hlen];exact unitR_vc F _ t
 have hce : ∀ k,k<L.length→El (nth c k):=fun k hk=>by rw [hcn k hk];exact hel k
 obtain ⟨c1,c2⟩:=cmb_rs F hL hce L.length (Nat.le_refl _)
 refine ⟨e (unitR (L.length+1) L.length),_,hel _,c2,fun x hx=>?_⟩
 rw [h2 x hx,form_unit F he (colS_vc hLr F.zero x),cmb_dot F hL hce hx _ (Nat.le_refl _)]
 rw [hlen,dotN]
 have h3 : nth (colS (L ++ [r]) x) L.length=nth r x:=by
  rw [nth_colS _ _ _ (by rw [hlen];omega)]
  congr 1
  rw [nthR_getElem (by rw [hlen];omega)];simp
 rw [h3]
 congr 1
 refine dotN_congr _ fun p hp=>⟨(hcn p hp).symm,?_⟩
 rw [nth_colS _ _ _ (by rw [hlen];omega)]
 congr 1
 rw [nthR_getElem (by rw [hlen];omega),nthR_getElem hp,List.getElem_append_left]
theorem wRow_vc (hO : FCl O El) {p r : List Int} (hp : Vc El m p) (hr : Vc El m r) {i : Nat} (hi : i<m) (h0 : nth p i ≠ 0) : Vc El m (wRow O p i r):=by
 have hl : p.length=r.length:=by rw [hp.1,hr.1]
 refine ⟨by rw [wRow_length O hl];exact hr.1,fun x hx=>?_⟩
 obtain ⟨j,hj,rfl⟩:=List.mem_iff_getElem.1 hx
 rw [← nth_getElem]
 rw [wRow_length O hl] at hj
 rw [nth_wRow O hl hj]
 have hj' : j<m:=by rw [hr.1] at hj;exact hj
 split
 ·exact hr.at hj'
 ·exact hO.add _ _ (hr.at hj') (hO.neg _ (hO.mul _ _ (hO.mul _ _ (hr.at hi) (hO.inv _ (hp.at hi) h0)) (hp.at hj')))
theorem woS_len_le (O : FOps) (R : List (List Int)) (i : Nat) : (woS O R i).length≤R.length:=by
 unfold woS
 split
 ·exact Nat.le_refl _
 ·rw [woTo_length];split <;> omega
theorem woS_rws (hO : FCl O El) {R : List (List Int)} (hR : Rws El m R) {i : Nat} (hi : i<m) : Rws El m (woS O R i):=by
 unfold woS
 split
 ·exact hR
 ·rename_i hf
  obtain ⟨_,hp,hp0⟩:=find_lt (Nat.zero_le _) hf
  intro r hr
  obtain ⟨j,hj,_,rfl⟩:=mem_woTo.1 hr
  exact wRow_vc hO (hR.row hp) (hR.row hj) hi hp0
theorem wRow_zero (F : Fld O El) {p r : List Int} (hp : Vc El m p) (hr : Vc El m r) {i : Nat} (hi : i<m) (h0 : nth p i ≠ 0) : nth (wRow O p i r) i=0:=by
 have hl : p.length=r.length:=by rw [hp.1,hr.1]
 rw [nth_wRow O hl (by rw [hr.1];exact hi)]
 split
 ·assumption
 ·have h1:=hp.at hi
  have h2:=hr.at hi
  have h3:=F.cl.inv _ h1 h0
  rw [F.mul_assoc _ _ _ h2 h3 h1,F.mul_comm _ _ h3 h1,F.mul_inv _ h1 h0,F.mone h2,F.add_neg _ h2]
structure HInv (O : FOps) (El : Int→Prop) (m : Nat) (L R : List (List Int)) (Z : List Int) : Prop where
 rws : Rws El m R
 sub : RSub O El m R L
 zero : ∀ r ∈ R,∀ z ∈ Z,nth r z.toNat=0
 all : ∀ f,RS O El m L f→(∀ z ∈ Z,f z.toNat=0)→RS O El m R f
 cnt : R.length+rkQ O L Z=L.length
theorem HInv.init (F : Fld O El) (hL : Rws El m L) : HInv O El m L L [] :=
 ⟨hL,RSub.refl F L,fun _ _ z hz=>by simp at hz,fun _ h _=>h,by
  have:=rkQ_le O L []
  simp at this;omega⟩
theorem rkQ_dep (F : Fld O El) (hL : Rws El m L) {Q : List Int} {x : Int} (h : clV O El L.length (colS L) (gA Q) x.toNat) : rkQ O L (Q ++ [x])=rkQ O L Q:=by
 have h1:=rkQ_rk F hL (Q ++ [x])
 rw [gA_snoc] at h1
 exact h1.uniq (Rk.dep _ h (rkQ_rk F hL Q))
theorem HInv.step (F : Fld O El) (hL : Rws El m L) {R : List (List Int)} {Z : List Int} (h : HInv O El m L R Z) (hZ : ∀ z ∈ Z,0≤z∧z<(m : Int)) {i : Nat} (hi : i<m) : HInv O El m L (woS O R i) (Z ++ [(i : Int)]):=by
 unfold woS
 by_cases hf : findRow R i 0=R.length
 ·rw [if_pos hf]
  have h0 : ∀ r ∈ R,nth r i=0:=fun r hr=>by
   obtain ⟨j,hj,rfl⟩:=mem_nthR hr
   refine findTo_zero R i (R.length - 0) 0 j (Nat.zero_le _) ?_
   unfold findRow at hf
   omega
  have hall : ∀ f,RS O El m L f→(∀ z ∈ Z,f z.toNat=0)→f i=0:=fun f hf hz=>RS.at0 F h.rws (h.all f hf hz) hi h0
  refine ⟨h.rws,h.sub,fun r hr z hz=>?_,fun f hf hz=>h.all f hf fun z hz'=>hz z (List.mem_append.2 (.inl hz')),?_⟩
  ·rcases List.mem_append.1 hz with hz | hz
   ·exact h.zero r hr z hz
   ·rw [List.mem_singleton.1 hz];simpa using h0 r hr
  ·rw [rkQ_dep F hL fun φ hφ h1=>?_]
   ·exact h.cnt
   ·refine hall (fun x=>φ (colS L x)) ⟨φ,hφ,fun _ _=>rfl⟩ fun z hz=>h1 _ (mem_gA.2 ⟨z,hz,rfl⟩)
 ·rw [if_neg hf]
  obtain ⟨_,hp,hp0⟩:=find_lt (Nat.zero_le _) hf
  obtain ⟨p,hpe⟩ : ∃ p,findRow R i 0=p:=⟨_,rfl⟩
  rw [hpe] at hp hp0 ⊢
  clear hf hpe
  have hpv : Vc El m (nthR R p):=h.rws.row hp
  have hR' : Rws El m (woTo O R p i R.length):=fun r hr=>by
   obtain ⟨j,hj,_,rfl⟩:=mem_woTo.1 hr
   exact wRow_vc F.cl hpv (h.rws.row hj) hi hp0
  have hpr : RS O El m R (fun x=>nth (nthR R p) x):=.row F hp
  have hpi:=hpv.at hi
  have hinv:=F.cl.inv _ hpi hp0
  have hat : ∀ j x,j<R.length→x<m→nth (wRow O (nthR R p) i (nthR R j)) x=O.add (nth (nthR R j) x) (O.neg (O.mul (nth (nthR R p) x) (if nth (nthR R j) i=0 then 0 else O.mul (nth (nthR R j) i) (O.inv (nth (nthR R p) i))))):=fun j x hj hx=>by
   have hjv : Vc El m (nthR R j):=h.rws.row hj
   rw [nth_wRow O (by rw [hpv.1,hjv.1]) (by rw [hjv.1];exact hx)]
   by_cases h0 : nth (nthR R j) i=0
   ·rw [if_pos h0,if_pos h0,F.mzero (hpv.at hx),F.nzero,F.add_zero _ (hjv.at hx)]
   ·rw [if_neg h0,if_neg h0,F.mul_comm _ _ (hpv.at hx) (F.cl.mul _ _ (hjv.at hi) hinv)]
  have hs : ∀ j,j<R.length→El (if nth (nthR R j) i=0 then 0 else O.mul (nth (nthR R j) i) (O.inv (nth (nthR R p) i))):=fun j hj=>by
   split
   ·exact F.zero
   ·exact F.cl.mul _ _ (Vc.at (h.rws.row hj) hi) hinv
  have hsub : RSub O El m (woTo O R p i R.length) R:=fun k hk=>by
   obtain ⟨j,hj,_,e⟩:=mem_woTo.1 (nthR_mem hk)
   rw [e]
   exact ((RS.row F hj).comb F hpr (hs j hj)).congr fun x hx=>hat j x hj hx
  have hz' : ∀ r ∈ woTo O R p i R.length,nth r i=0:=fun r hr=>by
   obtain ⟨j,hj,_,rfl⟩:=mem_woTo.1 hr
   exact wRow_zero F hpv (h.rws.row hj) hi hp0
  refine ⟨hR',hsub.trans h.sub,fun r hr z hz=>?_,fun f hf hz=>?_,?_⟩
  ·rcases List.mem_append.1 hz with hz | hz
   ·obtain ⟨j,hj,_,rfl⟩:=mem_woTo.1 hr
    have hzb:=hZ z hz
    rw [hat j _ hj (by omega),h.zero _ (nthR_mem hj) z hz,h.zero _ (nthR_mem hp) z hz,F.zmul (hs j hj),F.nzero,F.add_zero _ F.zero]
   ·rw [List.mem_singleton.1 hz];simpa using hz' r hr
  ·have hfR := h.all f hf fun z hz'' => hz z (List.mem_append.2 (.inl hz''))
   have hRJ : Rws El m (woTo O R p i R.length ++ [nthR R p]):=fun y hy=>by
    rcases List.mem_append.1 hy with hy | hy
    ·exact hR' y hy
    ·rw [List.mem_singleton.1 hy];exact hpv
   have hback : RSub O El m R (woTo O R p i R.length ++ [nthR R p]):=fun j hj=>by
    have hlast : RS O El m (woTo O R p i R.length ++ [nthR R p]) (fun x=>nth (nthR R p) x):=RS.mem F (List.mem_append.2 (.inr (List.mem_singleton.2 rfl)))
    by_cases e : j=p
    ·subst e;exact hlast
    ·have hj' : RS O El m (woTo O R p i R.length ++ [nthR R p]) (fun x=>nth (wRow O (nthR R p) i (nthR R j)) x):=RS.mem F (List.mem_append.2 (.inl (mem_woTo.2 ⟨j,hj,e,rfl⟩)))
     refine (RS.add F hRJ hj' hlast (hs j hj)).congr fun x hx=>?_
     have hq:=F.cl.mul _ _ (hpv.at hx) (hs j hj)
     have hjx : El (nth (nthR R j) x):=Vc.at (h.rws.row hj) hx
     rw [hat j x hj hx,F.add_assoc _ _ _ hjx (F.cl.neg _ hq) hq,F.negadd hq,F.add_zero _ hjx]
   obtain ⟨s,g,hse,hg,hfx⟩:=rs_snoc F hR' hpv (hback.rs hfR)
   have hgi:=RS.at0 F hR' hg hi hz'
   have hfi:=hz i (List.mem_append.2 (.inr (List.mem_singleton.2 rfl)))
   rw [Int.toNat_natCast,hfx i hi,hgi,F.zadd (F.cl.mul _ _ hse hpi)] at hfi
   have hs0 : s=0:=by
    have h1:=congrArg (fun y=>O.mul y (O.inv (nth (nthR R p) i))) hfi
    change O.mul (O.mul s (nth (nthR R p) i)) (O.inv (nth (nthR R p) i))=O.mul 0 (O.inv (nth (nthR R p) i)) at h1
    rw [F.mul_assoc _ _ _ hse hpi hinv,F.mul_inv _ hpi hp0,F.mone hse,F.zmul hinv] at h1
    exact h1
   refine hg.congr fun x hx=>?_
   rw [hfx x hx,hs0,F.zmul (hpv.at hx),F.add_zero _ (RS.el F hR' hg hx)]
  ·have hne : ¬ clV O El L.length (colS L) (gA Z) ((i : Int)).toNat:=fun hcl=>by
    obtain ⟨φ,hφ,h2'⟩:=h.sub p hp
    have h2 : ∀ x,x<m→nth (nthR R p) x=φ (colS L x):=h2'
    rw [Int.toNat_natCast] at hcl
    refine hp0 ?_
    rw [h2 i hi]
    refine hcl φ hφ fun y hy=>?_
    obtain ⟨z,hz,rfl⟩:=mem_gA.1 hy
    have hzb:=hZ z hz
    rw [← h2 _ (by omega)]
    exact h.zero _ (nthR_mem hp) z hz
   rw [rkQ_out F hL hne,woTo_length,if_pos hp]
   have:=h.cnt
   omega
def offTo (x : Nat) : Nat→List Int
 | 0=>[]
 | k+1=>if x.testBit k=true then offTo x k else offTo x k ++ [(k : Int)]
theorem mem_offTo {x : Nat} {y : Int} : ∀ {k},y ∈ offTo x k ↔ ∃ j : Nat,j<k∧y=j∧x.testBit j=false
 | 0=>by simp [offTo]
 | k+1=>by
  have ih:=mem_offTo (x:=x) (y:=y) (k:=k)
  rw [offTo]
  constructor
  ·intro h
   split at h
   ·obtain ⟨j,h1,h2⟩:=ih.1 h
    exact ⟨j,by omega,h2⟩
   ·rename_i hb
    rcases List.mem_append.1 h with h | h
    ·obtain ⟨j,h1,h2⟩:=ih.1 h
     exact ⟨j,by omega,h2⟩
    ·exact ⟨k,by omega,List.mem_singleton.1 h,by simpa using hb⟩
  ·rintro ⟨j,h1,h2,h3⟩
   by_cases e : j=k
   ·subst e
    rw [if_neg (by rw [h3];decide)]
    exact List.mem_append.2 (.inr (List.mem_singleton.2 h2))
   ·split
    ·exact ih.2 ⟨j,by omega,h2,h3⟩
    ·exact List.mem_append.2 (.inl (ih.2 ⟨j,by omega,h2,h3⟩))
theorem leaf_inv (F : Fld O El) (hL : Rws El m L) {n x : Nat} (hn : n≤m) : ∀ (d : Nat) (R : List (List Int)),d≤n→HInv O El m L R (offTo x (n - d))→HInv O El m L (leafS O n x d R) (offTo x n)
 | 0,R,_,h=>by rw [leafS];exact h
 | d+1,R,hd,h=>by
  rw [leafS]
  refine leaf_inv F hL hn d _ (by omega) ?_
  have e : n - d=(n - (d+1))+1:=by omega
  rw [e,offTo]
  split
  ·exact h
  ·refine h.step F hL (fun z hz=>?_) (by omega)
   obtain ⟨j,h1,h2,_⟩:=mem_offTo.1 hz
   omega
theorem leaf_len (F : Fld O El) (hL : Rws El m L) (x : Nat) : (leafS O m x m L).length+rkQ O L (offTo x m)=L.length :=
 (leaf_inv F hL (Nat.le_refl m) m L (Nat.le_refl m) (by rw [Nat.sub_self];exact HInv.init F hL)).cnt
theorem woS_nil (O : FOps) {R : List (List Int)} (h : R.length=0) (i : Nat) : (woS O R i).length=0:=by
 obtain rfl:=List.eq_nil_of_length_eq_zero h
 unfold woS;simp [findRow,findTo]
theorem leaf_nil (O : FOps) (n x : Nat) : ∀ (d : Nat) (R : List (List Int)),R.length=0→(leafS O n x d R).length=0
 | 0,R,h=>by rw [leafS];exact h
 | d+1,R,h=>by
  rw [leafS]
  refine leaf_nil O n x d _ ?_
  split
  ·exact h
  ·exact woS_nil O h _
theorem hfrom_len (O : FOps) (n : Nat) : ∀ (d : Nat) (R : List (List Int)) (x : Nat) (o : List Int),(hfrom O n d R x o).length=o.length
 | 0,R,x,o=>by
  rw [hfrom]
  split
  ·rfl
  ·rw [List.length_set]
 | d+1,R,x,o=>by
  rw [hfrom]
  split
  ·rfl
  ·rw [hfrom_len O n d,hfrom_len O n d]
theorem mod_succ (y k : Nat) : y % 2 ^ (k+1)=y % 2 ^ k+(if y.testBit k=true then 2 ^ k else 0):=by
 rw [Nat.mod_pow_succ,testBit_div]
 rcases Nat.mod_two_eq_zero_or_one (y / 2 ^ k) with h | h <;> simp [h]
theorem hfrom_nth (O : FOps) (n : Nat) : ∀ (d : Nat) (R : List (List Int)) (x : Nat) (o : List Int),d≤n→o.length=2 ^ n→x<2 ^ (n - d)→∀ y,y<2 ^ n →
  nth (hfrom O n d R x o) y=if y % 2 ^ (n - d)=x∧(leafS O n y d R).length ≠ 0 then ((leafS O n y d R).length : Int) else nth o y
 | 0,R,x,o,_,ho,hx,y,hy=>by
  rw [hfrom,leafS,Nat.sub_zero,Nat.mod_eq_of_lt hy]
  by_cases h : R.length=0
  ·rw [if_pos h,if_neg fun hh=>hh.2 h]
  ·rw [if_neg h,nth_set _ _ _ _ (by rw [ho];simpa using hx)]
   by_cases e : y=x
   ·rw [if_pos e,if_pos ⟨e,h⟩]
   ·rw [if_neg e,if_neg fun hh=>e hh.1]
 | d+1,R,x,o,hd,ho,hx,y,hy=>by
  rw [hfrom,leafS]
  by_cases h : R.length=0
  ·rw [if_pos h,if_neg]
   refine fun hh=>hh.2 (leaf_nil O n y d _ ?_)
   split
   ·exact h
   ·exact woS_nil O h _
  ·rw [if_neg h]
   obtain ⟨k,hk⟩ : ∃ k,n - (d+1)=k:=⟨_,rfl⟩
   have e : n - d=k+1:=by omega
   rw [hk] at hx ⊢
   have hx2 : x<2 ^ (n - d):=by rw [e,Nat.pow_succ];omega
   have hx3 : x+2 ^ k<2 ^ (n - d):=by rw [e,Nat.pow_succ];omega
   rw [hfrom_nth O n d _ _ _ (by omega) (by rw [hfrom_len];exact ho) hx2 y hy,hfrom_nth O n d _ _ _ (by omega) ho hx3 y hy,e,mod_succ]
   have hym : y % 2 ^ k<2 ^ k:=Nat.mod_lt _ (Nat.two_pow_pos k)
   by_cases hb : y.testBit k=true
   ·rw [if_pos hb,if_pos hb,if_neg fun hh=>by omega]
    by_cases e2 : y % 2 ^ k=x
    ·simp only [e2,true_and]
    ·rw [if_neg fun hh=>e2 (by omega),if_neg fun hh=>e2 hh.1]
   ·rw [if_neg hb,if_neg hb,Nat.add_zero]
    by_cases e2 : y % 2 ^ k=x∧(leafS O n y d (woS O R k)).length ≠ 0
    ·rw [if_pos e2,if_pos e2]
    ·rw [if_neg e2,if_neg e2,if_neg fun hh=>by omega]
theorem dims_nth (F : Fld O El) (hL : Rws El m L) {x : Nat} (hx : x<2 ^ m) : nth (dimsS O m L) x=((L.length - rkQ O L (offTo x m) : Nat) : Int):=by
 have h:=leaf_len F hL x
 unfold dimsS
 rw [hfrom_nth O m m L 0 _ (Nat.le_refl _) (by simp) (by simp) x hx]
 rw [show m - m=0 by omega,Nat.pow_zero,Nat.mod_one]
 by_cases h0 : (leafS O m x m L).length=0
 ·rw [if_neg fun hh=>hh.2 h0]
  have e : nth (List.replicate (2 ^ m) (0 : Int)) x=0:=by
   unfold nth;simp only [List.getD_eq_getElem?_getD,List.getElem?_replicate];split <;> rfl
  rw [e];omega
 ·rw [if_pos ⟨rfl,h0⟩];omega
end

section
open Go.RowKit
structure RX where
 a : Option Addr
 c : Nat
 l : List Int
structure MatA (A : Nat→Prop) (w : World) (a : Option Addr) (n : Nat) (L : List (List Int)) : Prop where
 len : L.length=n
 pl : Pl a n
 max : n≤maxLen
 no : 0<n→¬ A (ablk a)
 cell : ∀ i,i<n→∃ b m c,w.cell? ⟨ablk a,aoff a+i,none⟩=some (.slice b m c)∧Ints w b m (nthR L i)∧(0<m→¬ A (ablk b))
theorem MatA.mat {A : Nat→Prop} {w : World} {a : Option Addr} {n : Nat} {L : List (List Int)} (h : MatA A w a n L) : Mat w a n L :=
 ⟨h.len,h.pl,h.max,fun i hi=>by obtain ⟨b,m,c,h1,h2,_⟩:=h.cell i hi;exact ⟨b,m,c,h1,h2⟩⟩
theorem MatA.moves {A A' : Nat→Prop} {w w' : World} {a : Option Addr} {n : Nat} {L : List (List Int)} (h : MatA A w a n L) (hM : Moves w w' A A') : MatA A w' a n L :=
 ⟨h.len,h.pl,h.max,h.no,fun i hi=>by
  obtain ⟨b,m,c,h1,h2,h3⟩:=h.cell i hi
  exact ⟨b,m,c,hM.cell h1 (h.no (by omega)),h2.moves hM h3,h3⟩⟩
theorem MatA.keep {A : Nat→Prop} {w w' : World} {a : Option Addr} {n : Nat} {L : List (List Int)} (h : MatA A w a n L) (hb : Below w.heap.size w w') : MatA A w' a n L:=h.moves (Moves.of_below hb A)
theorem MatA.of_mat {A : Nat→Prop} {w : World} {a : Option Addr} {n : Nat} {L : List (List Int)} (h : Mat w a n L) (hA : ∀ b,A b→w.heap.size≤b) : MatA A w a n L :=
 ⟨h.len,h.pl,h.max,fun hn hc=>by have:=hA _ hc;have:=h.lt hn;omega,fun i hi=>by
  obtain ⟨b,m,c,h1,h2⟩:=h.cell i hi
  exact ⟨b,m,c,h1,h2,fun hm hc=>by have:=hA _ hc;have:=h2.lt hm;omega⟩⟩
def rxV (m : Nat) (x : RX) : Value:=.slice x.a m x.c
theorem MatA.own {A : Nat→Prop} {w : World} {B m : Nat} {a : Option Addr} {c : Nat} {xs : List RX} (h : w.ownsRow B 22 1 (.slice a xs.length c) xs.length (xs.map (rxV m)))
  (hA : ∀ b,A b→b<B) (hm : xs.length≤maxLen) (hx : ∀ x ∈ xs,Ints w x.a m x.l∧(0<m→¬ A (ablk x.a))) : MatA A w a xs.length (xs.map RX.l):=by
 refine ⟨by simp,?_,hm,fun hn hc=>?_,fun i hi=>?_⟩
 ·obtain ⟨a',c',hv,hp⟩:=Pl.own h
  cases hv
  exact hp
 ·have:=hA _ hc
  have:=(own_lt_pos h hn).1
  omega
 ·have h1:=(ownsRow_cell h i hi).1
  have e1 : (xs.map (rxV m))[i]? = some (rxV m xs[i]):=by rw [List.getElem?_map,List.getElem?_eq_getElem hi];rfl
  obtain ⟨h2,h3⟩:=hx xs[i] (List.getElem_mem hi)
  refine ⟨xs[i].a,m,xs[i].c,?_,?_,h3⟩
  ·rw [h1,e1];rfl
  ·rw [nthR_getElem (by rw [List.length_map];exact hi),List.getElem_map]
   exact h2
variable {w : World} {b : Nat} {G : Tbl}
set_option maxHeartbeats 1000000 in
theorem gDiv (x y : Int) (h : GFw w b G) (hx : G.El x) (hy : G.El y) (hy0 : y ≠ 0) :
  Calls Tryz.prog 169 #[.pointer (some ⟨b,0,none⟩),.int .i64 x,.int .i64 y] w fun e w'=>∃ n,e = .returned (.tuple #[.int .i64 (G.mul x (G.inv y)),.int .i64 0])∧w'=w.drewN n:=by
 have Hi:=Lib.hid (gInv y h hy hy0)
 have Hinv : Hid (G.El (G.inv y)):=Tbl.cl h |>.inv y hy hy0
 have HG : Hid (∀ n,GFw (w.drewN n) b G):=fun n=>h.drewN n
 clear hy0
 go_enter Tryz.func169,Tryz.ntmps169
 go_wp2_with fail
 refine Hi.out.mono ?_
 rintro e w1 ⟨n1,rfl,rfl⟩
 go_wp2_with fail
 refine (gMul x (G.inv y) (HG.out n1) hx Hinv.out).mono ?_
 rintro e w2 ⟨n2,rfl,rfl⟩
 go_wp2_with fail
 go_ret2
 exact ⟨n1+n2,rfl,rfl⟩
end

section
open Go.RowKit
variable {w : World} {b : Nat} {G : Tbl}
theorem findRow_eq {L : List (List Int)} {i k : Nat} (hk : k<L.length) (h0 : ∀ j,j<k→nth (nthR L j) i=0) (h1 : nth (nthR L k) i ≠ 0) : findRow L i 0=k:=by
 have hb:=findTo_bd L i (L.length - 0) 0
 have hs:=findTo_stop L i (L.length - 0) 0
 have hz:=findTo_zero L i (L.length - 0) 0
 unfold findRow
 generalize findTo L i 0 (L.length - 0)=p at *
 rcases Nat.lt_trichotomy p k with h | h | h
 ·exact absurd (h0 p h) (hs (by omega))
 ·exact h
 ·exact absurd (hz k (Nat.zero_le _) h) h1
theorem findRow_none {L : List (List Int)} {i : Nat} (h0 : ∀ j,j<L.length→nth (nthR L j) i=0) : findRow L i 0=L.length:=by
 have hb:=findTo_bd L i (L.length - 0) 0
 have hs:=findTo_stop L i (L.length - 0) 0
 unfold findRow
 generalize findTo L i 0 (L.length - 0)=p at *
 rcases Nat.lt_or_ge p L.length with h | h
 ·exact absurd (h0 p h) (hs (by omega))
 ·omega
def frV (L : List (List Int)) (i : Nat) : Int:=if findRow L i 0<L.length then findRow L i 0 else -1
theorem wo1_any (q i : Nat) (a : Option Addr) (n c : Nat) (r : List Int) (w : World) (hc : w.cell? ⟨q,0,none⟩=some (.int .i64 i)) (hr : Ints w a n r) (hi : i<n) :
  Calls Tryz.prog 168 #[.slice a n c,.pointer (some ⟨q,0,none⟩)] w fun e w'=>e = .returned (.bool (nth r i != 0))∧w=w':=by
 have ci:=hr.cell i hi
 have hpl:=hr.pl
 go_enter Tryz.func168,Tryz.ntmps168
 go_wp2
 go_ret
 exact ⟨rfl,rfl⟩
set_option maxHeartbeats 1600000 in
theorem indexWo_any (q i m : Nat) (a : Option Addr) (n c : Nat) (R : List (List Int)) (w : World) (hc : w.cell? ⟨q,0,none⟩=some (.int .i64 i)) (hi : Mat w a n R) (hR : ∀ r ∈ R,r.length=m) (him : i<m) :
  Calls Tryz.prog 167 #[.slice a n c,.func (.func 168) #[] #[.pointer (some ⟨q,0,none⟩)]] w fun e w'=>e = .returned (.int .i64 (frV R i))∧w=w':=by
 have Hlen:=Lib.hid hi.len
 have hpl:=hi.pl
 have hmax:=hi.max
 unfold maxLen at hmax
 have HR:=Lib.hid hR
 clear hR
 go_enter Tryz.func167,Tryz.ntmps167
 go_wp2_with fail
 go_loop [8] (fun iv=>∃ k : Nat,k≤n∧iv = .int .i64 k∧Hid (∀ j,j<k→nth (nthR R j) i=0)) (fun iv=>n - (intOf iv).toNat)
 case atStart=>exact ⟨0,Nat.zero_le _,rfl,fun j hj=>by omega⟩
 case round =>
  obtain ⟨k,hk,rfl,hall⟩:=hrel
  by_cases hlt : k<n
  ·obtain ⟨br,mr,cr,ck,hrow⟩:=hi.cell k hlt
   have hml : mr=m:=by rw [← hrow.len];exact HR.out _ (nthR_mem (by rw [Hlen.out];exact hlt))
   subst hml
   have Hc:=Lib.hid (wo1_any q i br mr cr _ w hc hrow him)
   by_cases hz : nth (nthR R k) i=0
   ·have hz' : (nth (nthR R k) i != 0)=false:=by simpa using hz
    have Hz:=Lib.hid hz
    rw [hz'] at Hc
    clear hz hrow
    go_wp2_with fail
    refine Hc.out.mono ?_
    rintro e w' ⟨rfl,rfl⟩
    go_wp2_with fail
    go_round
    case rel=>exact ⟨k+1,by omega,by go_num,fun j hj=>by
     rcases Nat.lt_or_ge j k with h | h
     ·exact hall.out j h
     ·rw [show j=k by omega];exact Hz.out⟩
    case measure=>simp [intOf] <;> omega
   ·have hz' : (nth (nthR R k) i != 0)=true:=by simpa using hz
    have Hf : Hid (frV R i=k):=by
     show _=_
     have:=findRow_eq (L:=R) (i:=i) (k:=k) (by rw [Hlen.out];exact hlt) hall.out hz
     rw [frV,this,if_pos (by rw [Hlen.out];exact hlt)]
    rw [hz'] at Hc
    clear hz hrow
    go_wp2_with fail
    refine Hc.out.mono ?_
    rintro e w' ⟨rfl,rfl⟩
    go_wp2_with fail
    go_ret
    exact ⟨ret_int Hf.out.symm,rfl⟩
  ·obtain rfl : k=n:=by omega
   have Hf : Hid (frV R i = -1):=by
    show _=_
    have:=findRow_none (L:=R) (i:=i) (by rw [Hlen.out];exact hall.out)
    rw [frV,this,if_neg (by omega)]
   go_wp2_with fail
   go_ret
   exact ⟨ret_int Hf.out.symm,rfl⟩
set_option maxRecDepth 100000 in
set_option maxHeartbeats 8000000 in
theorem without_any (A : Nat→Prop) (a : Option Addr) (n c : Nat) (R : List (List Int)) (m i : Nat) (h : GFw w b G) (hA : ∀ x,A x→x<w.heap.size) (hi : MatA A w a n R) (hR : Rws G.El m R) (him : i<m) (hn : n≤1000000) (hm : m≤1000000) :
  Calls Tryz.prog 123 #[.pointer (some ⟨b,0,none⟩),.slice a n c,.int .i64 i] w fun e w'=>∃ a1 n1 c1,e = .returned (.slice a1 n1 c1)∧MatA A w' a1 n1 (woS G.ops R i)∧Below w.heap.size w w':=by
 have Hlen:=Lib.hid hi.len
 have HA:=Lib.hid hA
 have HR:=Lib.hid hR
 have hplR:=hi.pl
 clear hA hR
 go_enter Tryz.func123,Tryz.ntmps123
 have hmf : ∀ (fn : Fn) (first cap : Array Value) (w : World),(Instr.makeFunc fn first cap).run Tryz.prog w = .ok (.func fn first cap) w:=fun _ _ _ _=>rfl
 go_wp2_with fail
 obtain ⟨W,hW⟩ : ∃ W : World,W=w.alloc (.cells #[.int .i64 i] 3):=⟨_,rfl⟩
 rw [← hW]
 have hbW : Below w.heap.size w W:=by rw [hW];exact below1 _ _
 have cI : W.cell? ⟨w.heap.size,0,none⟩=some (.int .i64 i):=by rw [hW];exact cell_new _ _ _
 have HbW:=Lib.hid hbW
 have hiW:=hi.keep hbW
 have hGW : GFw W b G:=h.keep hbW
 clear hW
 refine (indexWo_any w.heap.size i m a n c R W cI hiW.mat (fun r hr=>(HR.out r hr).1) him).mono ?_
 rintro e w1 ⟨rfl,rfl⟩
 by_cases hf : findRow R i 0=R.length
 ·have Hw : Hid (woS G.ops R i=R):=by show _=_;rw [woS,if_pos hf]
  have hv : frV R i = -1:=by rw [frV,if_neg (by omega)]
  rw [hv]
  clear hf hv
  go_wp2_with fail
  go_ret
  exact ⟨a,n,c,rfl,by rw [Hw.out];exact hiW,HbW.out⟩
 obtain ⟨_,hp,hp0⟩:=find_lt (Nat.zero_le _) hf
 obtain ⟨p,hpe⟩ : ∃ p,findRow R i 0=p:=⟨_,rfl⟩
 have Hw : Hid (woS G.ops R i=woTo G.ops R p i n):=by show _=_;rw [woS,if_neg hf,hpe,Hlen.out]
 have hv : frV R i=p:=by rw [frV,hpe,if_pos (by rw [← hpe];exact hp)]
 rw [hpe] at hp hp0
 rw [hv]
 have hpn : p<n:=by rw [← Hlen.out];exact hp
 have hp1 : nth (nthR R p) i ≠ 0:=hp0
 have Hp0:=Lib.hid hp1
 clear hf hpe hv hp0 hp1
 go_wp2_with fail
 go_loopw [8,23] (fun ov iv wr=>∃ (l : Nat) (ao : Option Addr) (co : Nat) (xs : List RX),l≤n∧ov = .slice ao xs.length co∧iv = .int .i64 l∧wr.ownsRow W.heap.size 22 1 (.slice ao xs.length co) xs.length (xs.map (rxV m))∧xs.length≤l ∧
   Hid (xs.map RX.l=woTo G.ops R p i l)∧Hid (∀ x ∈ xs,Ints wr x.a m x.l∧¬ A (ablk x.a)∧Apt ao (ablk x.a))∧Below W.heap.size W wr) (fun _ iv _=>n - (intOf iv).toNat)
 case atStart=>exact ⟨0,none,0,[],Nat.zero_le _,rfl,rfl,own_none,Nat.zero_le _,rfl,fun x hx=>by simp at hx,Below.refl _ _⟩
 case round =>
  obtain ⟨l,ao,co,xs,hl,rfl,rfl,hown,hxl,hxs,hxo,hbr⟩:=hrel
  generalize wr=U at *
  by_cases hlt : l<n
  ·have hiU:=hiW.keep hbr
   have cIU:=cell_keep hbr cI
   obtain ⟨br,mr,cr,crow,hrow,hno⟩:=hiU.cell l hlt
   have hrv:=HR.out _ (nthR_mem (show l<R.length by rw [Hlen.out];exact hlt))
   have hml : mr=m:=by rw [← hrow.len];exact hrv.1
   subst hml
   by_cases hlp : l=p
   ·have Hwo : Hid (woTo G.ops R p i (l+1)=woTo G.ops R p i l):=by show _=_;rw [woTo,if_pos hlp]
    have he : ((l : Int) == (p : Int))=true:=by simp;omega
    clear hlp hrow hrv
    go_wp2_with fail
    go_roundw
    case rel=>exact ⟨l+1,ao,co,xs,by omega,rfl,by go_num,hown,by omega,by rw [Hwo.out];exact hxs,hxo,hbr⟩
    case measure=>simp [intOf] <;> omega
   have he : ((l : Int) == (p : Int))=false:=by simp;omega
   have Hwo : Hid (woTo G.ops R p i (l+1)=woTo G.ops R p i l ++ [wRow G.ops (nthR R p) i (nthR R l)]):=by show _=_;rw [woTo,if_neg hlp]
   have hpl:=hrow.pl
   have cri:=hrow.cell i him
   obtain ⟨N,hN⟩ : ∃ N,wRow G.ops (nthR R p) i (nthR R l)=N:=⟨_,rfl⟩
   have hpv:=HR.out _ (nthR_mem (show p<R.length by rw [Hlen.out];exact hpn))
   have hprl : (nthR R p).length=(nthR R l).length:=by rw [hpv.1,hrv.1]
   have HN:=Lib.hid hN
   go_upto_if 35 with fail
   go_cut [10] (fun v wx=>∃ a4 c4,v = .slice a4 mr c4∧Ints wx a4 mr N∧¬ A (ablk a4)∧(ablk a4<W.heap.size∨U.heap.size≤ablk a4)∧Below U.heap.size U wx)
   case first =>
    by_cases hz : nth (nthR R l) i=0
    ·have hz' : (nth (nthR R l) i != 0)=false:=by simpa using hz
     have hNe : N=nthR R l:=by rw [← hN,wRow,if_pos hz]
     have HNe:=Lib.hid hNe
     have hlow : ablk br<W.heap.size:=by
      obtain ⟨b0,m0,c0,k0,k1,k2⟩:=hiW.cell l hlt
      have k3:=(cell_keep hbr k0).symm.trans crow
      injection k3 with k3
      injection k3 with e1 e2 e3
      subst e1 e2
      exact k1.lt (by omega)
     clear hz hN hNe
     go_wp2_with fail
     go_meet
     exact ⟨br,cr,rfl,by rw [HNe.out];exact hrow,hno (by omega),.inl hlow,Below.refl _ _⟩
    ·have hz' : (nth (nthR R l) i != 0)=true:=by simpa using hz
     obtain ⟨bp,mp,cp,cprow,hprow,hpno⟩:=hiU.cell p hpn
     have hmp : mp=mr:=by rw [← hprow.len];exact hpv.1
     subst hmp
     have cpi:=hprow.cell i him
     have hppl:=hprow.pl
     have hGU : GFw U b G:=hGW.keep hbr
     have elr : G.El (nth (nthR R l) i):=Vc.at hrv him
     have elp : G.El (nth (nthR R p) i):=Vc.at hpv him
     have HDv : Hid (∀ k,Calls Tryz.prog 169 #[.pointer (some ⟨b,0,none⟩),.int .i64 (nth (nthR R l) i),.int .i64 (nth (nthR R p) i)] (U.drewN k) fun e w'=>∃ n,e = .returned (.tuple #[.int .i64 (G.mul (nth (nthR R l) i) (G.inv (nth (nthR R p) i))),.int .i64 0])∧w'=(U.drewN k).drewN n):=fun k=>gDiv _ _ (hGU.drewN k) elr elp Hp0.out
     have HDv0 : Hid (Calls Tryz.prog 169 #[.pointer (some ⟨b,0,none⟩),.int .i64 (nth (nthR R l) i),.int .i64 (nth (nthR R p) i)] U.drew fun e w'=>∃ n,e = .returned (.tuple #[.int .i64 (G.mul (nth (nthR R l) i) (G.inv (nth (nthR R p) i))),.int .i64 0])∧w'=U.drew.drewN n):=gDiv _ _ (hGU.keep (Below.refl _ _).drew) elr elp Hp0.out
     have elq : G.El (G.mul (nth (nthR R l) i) (G.inv (nth (nthR R p) i))):=Tbl.mul_el hGU _ _
     have hNl : N.length=mp:=by rw [← hN,wRow_length _ hprl];exact hrv.1
     have hNth : ∀ j,j<mp→nth N j=G.ops.add (nth (nthR R l) j) (G.ops.neg (G.ops.mul (G.mul (nth (nthR R l) i) (G.inv (nth (nthR R p) i))) (nth (nthR R p) j))):=fun j hj=>by
      rw [← hN,nth_wRow _ hprl (by rw [hrv.1];exact hj),if_neg hz];rfl
     have HNl:=Lib.hid hNl
     have HNth:=Lib.hid hNth
     have Hrl:=Lib.hid hrv
     have Hpv:=Lib.hid hpv
     have Hprow:=Lib.hid hprow
     have Hrow:=Lib.hid hrow
     clear hz hN hNl hNth hrv hpv hprl
     obtain ⟨s,hs⟩ : ∃ s,G.mul (nth (nthR R l) i) (G.inv (nth (nthR R p) i))=s:=⟨_,rfl⟩
     rw [hs] at elq HNth HDv HDv0
     go_upto_region 10 with fail
     go_cut [11,12] (fun v ev wx=>v = .int .i64 s∧ev = .int .i64 0∧Drawn U wx)
     case first =>
      go_region_law ((first
       | (go_simp;go_at_call 169;((with_reducible refine HDv0.out.mono ?_);rintro e w4 ⟨m4,rfl,rfl⟩))
       | (go_simp;go_at_call 169;((with_reducible refine (HDv.out _).mono ?_);rintro e w4 ⟨m4,rfl,rfl⟩))))
      all_goals (go_wp2_with fail;go_meet;exact ⟨rfl,rfl,⟨_,rfl⟩⟩)
     obtain ⟨rfl,rfl,hdU⟩:=hcut
     generalize wc=U1 at *
     have hbU1 : Below U.heap.size U U1:=hdU.below
     clear HDv HDv0 hdU
     all_goals (
      obtain ⟨ro,hro⟩ : ∃ ro,nthR R l=ro:=⟨_,rfl⟩
      rw [hro] at HNth Hrl Hrow
      obtain ⟨pv,hpv2⟩ : ∃ pv,nthR R p=pv:=⟨_,rfl⟩
      rw [hpv2] at HNth Hpv Hprow
      have HCl : Hid (Calls Tryz.prog 110 #[.slice br mp cr] U1 fun e w'=>∃ a4 c4,e = .returned (.slice a4 mp c4)∧w'.ownsRow U.heap.size 3 1 (.slice a4 mp c4) mp (ro.map (Value.int .i64))∧Below U1.heap.size U1 w'):=by
       refine (clone1_any br mp cr ro (Hrow.out.keep hbU1) hm).mono ?_
       rintro e w' ⟨a4,c4,he,ho,hb⟩
       rw [Hrl.out.1] at he ho
       exact ⟨a4,c4,he,own_mono ho hbU1.size,hb⟩
      have Hhi:=Lib.hid hiU
      have HcI:=Lib.hid cIU
      have Hcp:=Lib.hid cprow
      clear hs hro hpv2 hrow hprow cri cpi crow hiU cIU cprow hown hxo
      have cprow:=cell_keep hbU1 Hcp.out
      go_wp2_with (go_at_call 110;refine HCl.out.mono ?_;rintro e w4 ⟨a4,c4,rfl,ho4,hb4⟩;have cprow4:=cell_keep hb4 cprow)
      have hbw4:=Below.next hbU1 hb4
      clear cprow cprow4
      go_loopw [59] (fun jv wy=>∃ t : Nat,t≤mp∧jv = .int .i64 t∧wy.ownsRow U.heap.size 3 1 (.slice a4 mp c4) mp ((mixTo N ro t).map (Value.int .i64))∧Below U.heap.size U wy) (fun jv _=>mp - (intOf jv).toNat)
      case atStart=>exact ⟨0,Nat.zero_le _,rfl,by rw [mixTo_zero];exact ho4,hbw4⟩
      case round =>
       clear ho4
       obtain ⟨t,ht,rfl,hown,hby⟩:=hrel
       by_cases htt : t<mp
       ·have cpt:=(Hprow.out.keep hby).cell t htt
        have hkN : N.length=ro.length:=by rw [HNl.out,Hrl.out.1]
        have hkv : t<ro.length:=by rw [Hrl.out.1];exact htt
        have hmix:=nth_mixTo N ro t t hkN (by omega)
        rw [if_neg (by omega)] at hmix
        have hset:=mixTo_set N ro t hkN hkv
        rw [HNth.out t htt] at hset
        have Hset:=Lib.hid hset
        obtain ⟨hiv,hmv⟩:=Ints.own hown
        have hpv4:=hiv.pl
        have cv1:=hiv.cell t htt
        have fv1:=(hmv (by omega)).2 t htt
        have hBv:=(hmv (by omega)).1
        rw [hmix] at cv1
        have elv : G.El (nth ro t):=Vc.at Hrl.out htt
        have elu : G.El (nth pv t):=Vc.at Hpv.out htt
        have hGr : GFw wr b G:=hGU.keep hby
        have elm : ∀ x y,G.El (G.mul x y):=fun x y=>Tbl.mul_el hGU x y
        have HG : Hid (GFw wr.drew b G∧∀ n,GFw (wr.drewN n) b G):=⟨hGr.keep (Below.refl _ _).drew,fun n=>hGr.drewN n⟩
        clear hmix hset hkN hkv hiv hmv hGr
        go_wp2_with fail
        go_region_law ((first
         | (go_simp;go_at_call 112;((with_reducible refine (gMul s (nth pv t) HG.out.1 elq elu).mono ?_);rintro e w5 ⟨m5,rfl,rfl⟩))
         | (go_simp;go_at_call 112;((with_reducible refine (gMul s (nth pv t) (HG.out.2 _) elq elu).mono ?_);rintro e w5 ⟨m5,rfl,rfl⟩))
         | (go_simp;go_at_call 170;((with_reducible refine (gSub (nth ro t) (G.mul s (nth pv t)) (HG.out.2 _) elv (elm _ _)).mono ?_);rintro e w5 ⟨m6,rfl,rfl⟩))))
        all_goals (
         go_wp2_with fail
         go_roundw
         case rel =>
          have hdr : Drawn wr (wr.drewN (1+m5+m6)):=⟨_,rfl⟩
          have h1:=own_set (w:=wr.drewN (1+m5+m6)) hown t htt (.int .i64 (G.sub (nth ro t) (G.mul s (nth pv t))))
          rw [← List.map_set,show G.sub (nth ro t) (G.mul s (nth pv t))=G.ops.add (nth ro t) (G.ops.neg (G.ops.mul s (nth pv t))) from rfl,Hset.out] at h1
          exact ⟨t+1,by omega,by go_num,h1,(Below.next hby hdr.below).setCell (p:=⟨ablk a4,aoff a4+t,none⟩) hBv _⟩
         case measure=>simp [intOf] <;> omega)
       ·obtain rfl : t=mp:=by omega
        rw [mixTo_all N ro t HNl.out Hrl.out.1] at hown
        obtain ⟨hiv,hmv⟩:=Ints.own hown
        have hlo:=(hmv (by omega)).1
        go_wp2_with fail
        go_meet
        exact ⟨a4,c4,rfl,hiv,fun hA=>by have h1:=HA.out _ hA;have h2:=HbW.out.size;have h3:=hbr.size;omega,.inr hlo,hby⟩)
   obtain ⟨a4,c4,rfl,hI4,hA4,hlo4,hb4⟩:=hcut
   generalize wc=V at *
   have hownV:=own_keep hown hb4
   have hapA : Apt ao (ablk a4):=by
    by_cases h0 : ao=none
    ·exact .inl h0
    ·refine .inr ?_
     have h1:=own_ne hown h0
     omega
   have HxV : Hid (∀ x ∈ xs,Ints V x.a mr x.l∧¬ A (ablk x.a)∧Apt ao (ablk x.a)):=fun x hx=>by
    obtain ⟨q1,q2,q3⟩:=hxo.out x hx
    exact ⟨q1.keep hb4,q2,q3⟩
   have hbV:=Below.next hbr hb4
   have hcn:=cell_new V (.slice a4 mr c4) 22
   have hbn:=below1 V (.cells #[.slice a4 mr c4] 22)
   have hsz:=hbV.size
   clear hown hiU cIU crow hrow cri hrv hpv hN hprl
   go_wp2_with (at_builtin;refine wpList_push rfl _ _ 25 22 rfl (.slice none 0 0) 24 Tryz.underlying25 infoInts rfl W.heap.size ao xs.length co _ rfl (hownV.alloc _) ⟨V.heap.size,0,none⟩ 1 (.slice a4 mr c4) rfl hcn rfl (by omega) (by unfold maxLen;omega) (by simp;omega) ?_;intro a5 c5 w5 hown5 hgr5 hap5)
   go_roundw
   case rel =>
    refine ⟨l+1,a5,c5,xs ++ [⟨a4,c4,N⟩],by omega,by simp,by go_num,?_,by simp;omega,?_,?_,Below.app (Below.trans hbV (hbn.mono hsz)) (hownV.alloc _) hgr5 (Nat.le_refl _) (Nat.le_trans hsz hbn.size)⟩
    ·rw [List.map_append,List.length_append];exact hown5
    ·show _=_
     rw [List.map_append,hxs.out,Hwo.out,HN.out];rfl
    ·intro x hx
     have hx' : Ints V x.a mr x.l∧¬ A (ablk x.a)∧Apt ao (ablk x.a):=by
      rcases List.mem_append.1 hx with hx | hx
      ·exact HxV.out x hx
      ·rw [List.mem_singleton.1 hx];exact ⟨hI4,hA4,hapA⟩
     refine ⟨(hx'.1.keep hbn).grownApt hgr5 fun _=>hx'.2.2,hx'.2.1,hap5 _ ?_ hx'.2.2⟩
     have:=hx'.1.lt (by omega)
     have:=hbn.size
     omega
   case measure=>simp [intOf] <;> omega
  ·obtain rfl : l=n:=by omega
   have hMA:=MatA.own hown (A:=A) (fun x hx=>by have:=HA.out x hx;have:=HbW.out.size;omega) (by unfold maxLen;omega) (fun x hx=>⟨(hxo.out x hx).1,fun _=>(hxo.out x hx).2.1⟩)
   rw [hxs.out,← Hw.out] at hMA
   have hF:=Below.next HbW.out hbr
   go_wp2_with fail
   go_ret
   exact ⟨ao,xs.length,co,rfl,hMA,hF⟩
end

section
open Go.RowKit
end

section
open Go.RowKit
end

section
open Go.RowKit
end

section
open Go.RowKit
theorem Ints.drop {w : World} {b o : Nat} {n k : Nat} {l : List Int} (h : Ints w (some ⟨b,o,none⟩) n l) (hk : k≤n) : Ints w (some ⟨b,o+k,none⟩) (n - k) (l.drop k) :=
 ⟨by rw [List.length_drop,h.len],fun _=>rfl,by have:=h.max;omega,fun i hi=>by
  have h1:=h.cell (k+i) (by omega)
  have e : nth (l.drop k) i=nth l (k+i):=by unfold nth;simp only [List.getD_eq_getElem?_getD,List.getElem?_drop]
  rw [e]
  simp only [ablk_some,aoff_some] at h1 ⊢
  rw [Nat.add_assoc];exact h1⟩
end

section

end

section
open Go.RowKit
end

section
open Go.RowKit
end

section
open Go.RowKit
theorem Box.setC {w : World} {b : Nat} {cs : List Value} (h : Box w b cs) (i : Nat) (v : Value) : Box (w.setCell ⟨b,i,none⟩ v) b (cs.set i v):=by
 refine ⟨by simpa using h.1,fun j u hu=>?_,fun j=>by rw [World.frozen?_setCell];exact h.2.2 j⟩
 by_cases e : j=i
 ·subst e
  by_cases hl : j<cs.length
  ·rw [List.getElem?_set_self hl] at hu
   cases hu
   exact World.cell?_setCell_same _ _ _ (h.2.1 j cs[j] (List.getElem?_eq_getElem hl))
  ·rw [List.set_eq_of_length_le (by omega),List.getElem?_eq_none (by omega)] at hu
   cases hu
 ·rw [List.getElem?_set_ne (by omega)] at hu
  rw [World.cell?_setCell_other _ _ _ _ (by simp <;> omega)]
  exact h.2.1 j u hu
end

section
open Go.RowKit
structure U8s (w : World) (a : Option Addr) (n : Nat) (l : List Int) : Prop where
 len : l.length=n
 pl : Pl a n
 max : n≤maxLen
 cell : ∀ i,i<n→w.cell? ⟨ablk a,aoff a+i,none⟩=some (.int .u8 (nth l i))
 bd : ∀ i,i<n→0≤nth l i∧nth l i≤255
theorem U8s.keep {w w' : World} {a : Option Addr} {n : Nat} {l : List Int} (h : U8s w a n l) (hb : Below w.heap.size w w') : U8s w' a n l :=
 ⟨h.len,h.pl,h.max,fun i hi=>(hb.cell (World.block_lt_of_cell? w _ (h.cell i hi))).trans (h.cell i hi),h.bd⟩
end

section
open Go.RowKit
theorem dim_bits (O : FOps) (L : List (List Int)) {m : Nat} (hm : m≤64) (x : Nat) : dimS O L m (maskS (bitsTo x m))=dimS O L m x:=by
 have e : bitsTo (cplU (maskS (bitsTo x m))) m=bitsTo (cplU x) m:=bitsTo_congr m fun i hi=>by
  rw [cplU_test _ _ (by omega),cplU_test _ _ (by omega)]
  have:=maskS_bits x m hm i
  cases hx : x.testBit i <;> cases hy : (maskS (bitsTo x m)).testBit i <;> simp_all
 unfold dimS
 rw [bitsTo_mask _ _ hm,e]
end

section

end

section
open Go.RowKit
def eL (E : Nat→Bool) (K k : Nat) : List Bool:=(List.range K).map fun s=>decide (k≤s) && E s
end

end Go.Proofs.YtcflcogbpnmjeaaGreat
