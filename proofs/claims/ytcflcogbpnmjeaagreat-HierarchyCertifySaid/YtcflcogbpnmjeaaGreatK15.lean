/-  -/
import Derived.Test.YtcflcogbpnmjeaaGreatK11
import Derived.Test.YtcflcogbpnmjeaaGreatK13
import Derived.Test.YtcflcogbpnmjeaaGreatK14
import Derived.Test.YtcflcogbpnmjeaaGreatK8
import Derived.Test.YtcflcogbpnmjeaaGreatK6
import Derived.Test.YtcflcogbpnmjeaaGreatK9
import Derived.Test.YtcflcogbpnmjeaaGreatK12
import Derived.Test.YtcflcogbpnmjeaaGreatK7
namespace Go.Proofs.YtcflcogbpnmjeaaGreat
set_option linter.unusedVariables false
set_option linter.unusedSimpArgs false
set_option linter.unusedSectionVars false

section
section
variable {O : FOps} {El : Int→Prop} {m n : Nat}
structure Lead (L : List (List Int)) (P : List Int) : Prop where
 lead : ∀ i x,i<P.length→x<(nth P i).toNat→nth (nthR L i) x=0
 asc : ∀ i j,i<j→j<P.length→nth P i<nth P j
theorem elim_lead (F : Fld O El) {L : List (List Int)} (hL : Rws El m L) : ∀ k,k≤m→Lead (elimTo O L k).1 (elimTo O L k).2
 | 0,_=>⟨fun i x hi=>by simp [elimTo] at hi,fun i j _ hj=>by simp [elimTo] at hj⟩
 | k+1,hk=>by
  have ih:=elim_lead F hL k (by omega)
  obtain ⟨h1,_,_⟩:=elim_inv F hL k (by omega)
  have hR:=elim_rws F hL k (by omega)
  have hb:=findRow_bd (L:=(elimTo O L k).1) (c:=k) (k:=(elimTo O L k).2.length) h1.le
  by_cases hlt : (elimTo O L k).2.length<(elimTo O L k).1.length
  ·rw [elimTo_next (Lk:=(elimTo O L k).1) (P:=(elimTo O L k).2) rfl hlt]
   split
   ·exact ih
   ·rename_i hf
    have hfl : findRow (elimTo O L k).1 k (elimTo O L k).2.length<(elimTo O L k).1.length:=by omega
    have hne : nth (nthR (elimTo O L k).1 (findRow (elimTo O L k).1 k (elimTo O L k).2.length)) k ≠ 0:=findTo_stop _ k _ _ (by show findRow _ k _<_;omega)
    generalize findRow (elimTo O L k).1 k (elimTo O L k).2.length=r at *
    generalize (elimTo O L k).1=A at *
    generalize (elimTo O L k).2=P at *
    have hp : El (nth (nthR A r) k):=Vc.at (hR.row hfl) (by omega)
    have hpi:=F.cl.inv _ hp hne
    refine ⟨fun i x hi hx=>?_,fun i j hij hj=>?_⟩
    ·rw [List.length_append,List.length_singleton] at hi
     have hx' : x<m:=by
      rw [nth_push] at hx
      by_cases e : i<P.length
      ·rw [if_pos e] at hx;have:=h1.lt i e;omega
      ·rw [if_neg e,if_pos (by omega)] at hx;omega
     rw [nth_pivotS F hR hlt hfl (by omega) hne (i:=i) (by omega) hx']
     rw [nth_push] at hx
     by_cases e : i<P.length
     ·rw [if_pos e] at hx
      have h2:=h1.lt i e
      rw [if_neg (by omega),show sw P.length r i=i by unfold sw;rw [if_neg (by omega),if_neg (by omega)],h1.zero r x hb.1 hfl (by omega),F.mzero hpi,F.zmul (Vc.at (hR.row (by omega)) (by omega)),F.nzero,F.add_zero _ (Vc.at (hR.row (by omega)) hx')]
      exact ih.lead i x e hx
     ·rw [if_neg e,if_pos (by omega)] at hx
      rw [if_pos (by omega),h1.zero r x hb.1 hfl (by omega),F.mzero hpi]
    ·rw [List.length_append,List.length_singleton] at hj
     rw [nth_push,nth_push,if_pos (by omega)]
     by_cases e : j<P.length
     ·rw [if_pos e];exact ih.asc i j hij e
     ·rw [if_neg e,if_pos (by omega)]
      have:=h1.lt i (by omega)
      omega
  ·have hfull : (elimTo O L k).2.length=L.length:=by have:=elimTo_length O L k;have:=h1.le;omega
   rw [elimTo_full hfull 1]
   exact ih
theorem inv_one (F : Fld O El) : O.inv 1=1:=by
 have h:=F.mul_inv 1 F.one (by decide)
 rwa [F.one_mul _ (F.cl.inv 1 F.one (by decide))] at h
theorem clearTo_id (O : FOps) {R : List (List Int)} {t c : Nat} (h : ∀ i,i<R.length→i ≠ t→nth (nthR R i) c=0) : ∀ i,i≤R.length→clearTo O t c R i=R
 | 0,_=>rfl
 | i+1,hi=>by
  unfold clearTo
  rw [clearTo_id O h i (by omega)]
  split
  ·rfl
  ·rename_i e
   unfold clearRow
   rw [if_pos (h i (by omega) e),set_nthR]
theorem elim_fix (F : Fld O El) {R : List (List Int)} {P : List Int} (hP : Piv R P m) (hl : Lead R P) (hlen : R.length=P.length) : ∀ k,k≤m →
  ∃ t,t≤P.length∧elimTo O R k=(R,P.take t)∧(∀ j,j<t→nth P j<k)∧(∀ j,t≤j→j<P.length→(k : Int)≤nth P j)
 | 0,_=>⟨0,Nat.zero_le _,by simp [elimTo],fun j hj=>by omega,fun j _ hj=>(hP.lt j hj).1⟩
 | k+1,hk=>by
  obtain ⟨t,ht,he,h1,h2⟩:=elim_fix F hP hl hlen k (by omega)
  have htl : (P.take t).length=t:=by rw [List.length_take];omega
  by_cases htt : t=P.length
  ·refine ⟨t,ht,?_,fun j hj=>by have:=h1 j hj;omega,fun j h3 h4=>by omega⟩
   have hfull : (elimTo O R k).2.length=R.length:=by rw [he];show (P.take t).length=_;omega
   rw [elimTo_full hfull 1,he]
  ·have htR : t<R.length:=by omega
   rw [elimTo_next (Lk:=R) (P:=P.take t) he.symm (by rw [htl];exact htR),htl]
   by_cases hpk : nth P t=k
   ·have h11:=hP.one t t (by omega) htR
    rw [hpk,if_pos rfl,Int.toNat_natCast] at h11
    have hf : findRow R k t=t:=by rw [findRow_step htR,if_neg (by rw [h11];decide)]
    rw [hf,if_neg (by omega)]
    have hpv : pivotS O R t t k=R:=by
     rw [pivotS_eq,if_pos rfl]
     have hn : normRow O R t k=R:=by unfold normRow;rw [h11,if_pos (inv_one F)]
     rw [hn]
     refine clearTo_id O (fun i hi hit=>?_) _ (Nat.le_refl _)
     have:=hP.one t i (by omega) hi
     rw [hpk,if_neg hit,Int.toNat_natCast] at this
     exact this
    rw [hpv]
    refine ⟨t+1,by omega,?_,fun j hj=>?_,fun j h3 h4=>?_⟩
    ·rw [List.take_succ_eq_append_getElem (by omega),← nth_getElem,hpk]
    ·by_cases e : j=t
     ·subst e;omega
     ·have:=h1 j (by omega);omega
    ·have:=hl.asc t j (by omega) h4
     omega
   ·have hgt : (k : Int)<nth P t:=by have:=h2 t (Nat.le_refl _) (by omega);omega
    have hz : ∀ i,t≤i→i<R.length→nth (nthR R i) k=0:=fun i h3 h4=>by
     refine hl.lead i k (by omega) ?_
     by_cases e : i=t
     ·subst e;omega
     ·have:=hl.asc t i (by omega) (by omega);omega
    have hf : ∀ d i,d=R.length - i→t≤i→i≤R.length→findRow R k i=R.length:=by
     intro d
     induction d with
     | zero=>intro i h3 _ h5;rw [findRow_end (by omega)];omega
     | succ d ih =>
      intro i h3 h4 h5
      rw [findRow_step (by omega),if_pos (hz i h4 (by omega))]
      exact ih (i+1) (by omega) (by omega) (by omega)
    rw [hf _ t rfl (Nat.le_refl _) (by omega),if_pos rfl]
    refine ⟨t,ht,rfl,fun j hj=>by have:=h1 j hj;omega,fun j h3 h4=>?_⟩
    by_cases e : j=t
    ·subst e;omega
    ·have:=hl.asc t j (by omega) h4;omega
theorem elim_fixed (F : Fld O El) {R : List (List Int)} {P : List Int} (hP : Piv R P m) (hl : Lead R P) (hlen : R.length=P.length) : elimTo O R m=(R,P):=by
 obtain ⟨t,ht,he,h1,h2⟩:=elim_fix F hP hl hlen m (Nat.le_refl _)
 have : t=P.length:=by
  apply Classical.byContradiction
  intro h
  have h3:=h2 t (Nat.le_refl _) (by omega)
  have h4:=hP.lt t (by omega)
  omega
 rw [he,this,List.take_length]
def canO (O : FOps) (m : Nat) (L : List (List Int)) : List (List Int):=(elimTo O L m).1.take (elimTo O L m).2.length
theorem nthR_takeK {L : List (List Int)} {t i : Nat} (h : i<t) : nthR (L.take t) i=nthR L i:=by
 unfold nthR
 simp only [List.getD_eq_getElem?_getD,List.getElem?_take]
 rw [if_pos h]
theorem canO_len (F : Fld O El) {L : List (List Int)} (hL : Rws El m L) : (canO O m L).length=(elimTo O L m).2.length:=by
 have h1:=(elim_inv F hL m (Nat.le_refl _)).1.le
 unfold canO
 rw [List.length_take];omega
theorem canO_rws (F : Fld O El) {L : List (List Int)} (hL : Rws El m L) : Rws El m (canO O m L):=fun r hr=>elim_rws F hL m (Nat.le_refl _) r (List.mem_of_mem_take hr)
theorem canO_piv (F : Fld O El) {L : List (List Int)} (hL : Rws El m L) : Piv (canO O m L) (elimTo O L m).2 m∧Lead (canO O m L) (elimTo O L m).2:=by
 have h1:=(elim_inv F hL m (Nat.le_refl _)).1
 have h2:=elim_lead F hL m (Nat.le_refl _)
 have hl:=canO_len F hL
 refine ⟨⟨by omega,h1.lt,fun j i hj hi=>?_,fun i x hi1 hi2 _=>by omega⟩,⟨fun i x hi hx=>?_,h2.asc⟩⟩
 ·unfold canO
  rw [nthR_takeK (by omega)]
  exact h1.one j i hj (by have:=h1.le;omega)
 ·unfold canO
  rw [nthR_takeK hi]
  exact h2.lead i x hi hx
theorem canO_idem (F : Fld O El) {L : List (List Int)} (hL : Rws El m L) : canO O m (canO O m L)=canO O m L:=by
 obtain ⟨h1,h2⟩:=canO_piv F hL
 have hl:=canO_len F hL
 have h3:=elim_fixed F h1 h2 hl
 have e : canO O m (canO O m L)=(canO O m L).take (elimTo O L m).2.length:=by
  show (elimTo O (canO O m L) m).1.take (elimTo O (canO O m L) m).2.length=_
  rw [h3]
 rw [e,List.take_of_length_le (by omega)]
theorem RS.nul (F : Fld O El) {L : List (List Int)} {f : Nat→Int} (h : ∀ x,x<m→f x=0) : RS O El m L f:=by
 refine ⟨fun _=>0,⟨fun _ _=>F.zero,fun v r x hv hr hx=>?_,fun r x hr hx=>(F.mzero hx).symm⟩,fun x hx=>h x hx⟩
 show (0 : Int)=O.add 0 (O.neg (O.mul x 0))
 rw [F.mzero hx,F.nzero,F.add_zero 0 F.zero]
theorem canO_rsub (F : Fld O El) {L : List (List Int)} (hL : Rws El m L) : RSub O El m (canO O m L) L∧RSub O El m L (canO O m L):=by
 obtain ⟨h1,h2,h3⟩:=elim_inv F hL m (Nat.le_refl _)
 have hl:=canO_len F hL
 refine ⟨fun i hi=>?_,h3.trans fun i hi=>?_⟩
 ·have e : nthR (canO O m L) i=nthR (elimTo O L m).1 i:=by unfold canO;exact nthR_takeK (by omega)
  rw [e];exact h2 i (by have:=h1.le;omega)
 ·by_cases e : i<(elimTo O L m).2.length
  ·have e2 : nthR (elimTo O L m).1 i=nthR (canO O m L) i:=by unfold canO;exact (nthR_takeK e).symm
   rw [e2];exact RS.row F (by omega)
  ·exact RS.nul F fun x hx=>h1.zero i x (by omega) hi hx
def kerTo (O : FOps) (m : Nat) (R : List (List Int)) (P : List Int) (c : Nat) : Nat→List Int
 | 0=>(List.replicate m 0).set c 1
 | i+1=>(kerTo O m R P c i).set (nth P i).toNat (O.neg (nth (nthR R i) c))
def kerL (O : FOps) (m : Nat) (R : List (List Int)) (P : List Int) : Nat→List (List Int)
 | 0=>[]
 | k+1=>if (k : Int) ∈ P then kerL O m R P k else kerL O m R P k ++ [kerTo O m R P k P.length]
def npL (P : List Int) : Nat→List Nat
 | 0=>[]
 | k+1=>if (k : Int) ∈ P then npL P k else npL P k ++ [k]
theorem kerTo_len (O : FOps) (m : Nat) (R : List (List Int)) (P : List Int) (c : Nat) : ∀ i,(kerTo O m R P c i).length=m
 | 0=>by simp [kerTo]
 | i+1=>by rw [kerTo,List.length_set,kerTo_len O m R P c i]
theorem kerL_len (O : FOps) (m : Nat) (R : List (List Int)) (P : List Int) : ∀ k,(kerL O m R P k).length=(npL P k).length
 | 0=>rfl
 | k+1=>by
  rw [kerL,npL]
  split
  ·exact kerL_len O m R P k
  ·rw [List.length_append,List.length_append,kerL_len O m R P k];rfl
theorem mem_npL {P : List Int} {x : Nat} : ∀ k,x ∈ npL P k ↔ x<k∧¬ (x : Int) ∈ P
 | 0=>by simp [npL]
 | k+1=>by
  rw [npL]
  split
  ·rename_i h
   rw [mem_npL k]
   constructor
   ·rintro ⟨h1,h2⟩;exact ⟨by omega,h2⟩
   ·rintro ⟨h1,h2⟩
    by_cases e : x=k
    ·subst e;exact absurd h h2
    ·exact ⟨by omega,h2⟩
  ·rename_i h
   rw [List.mem_append,mem_npL k,List.mem_singleton]
   constructor
   ·rintro (⟨h1,h2⟩ | rfl)
    ·exact ⟨by omega,h2⟩
    ·exact ⟨by omega,h⟩
   ·rintro ⟨h1,h2⟩
    by_cases e : x=k
    ·exact .inr e
    ·exact .inl ⟨by omega,h2⟩
theorem kerL_at (O : FOps) (m : Nat) (R : List (List Int)) (P : List Int) {j : Nat} : ∀ k,j<(npL P k).length→nthR (kerL O m R P k) j=kerTo O m R P ((npL P k).getD j 0) P.length
 | 0,h=>by simp [npL] at h
 | k+1,h=>by
  rw [kerL,npL] at *
  split
  ·rename_i hc
   rw [if_pos hc] at h
   exact kerL_at O m R P k h
  ·rename_i hc
   rw [if_neg hc,List.length_append,List.length_singleton] at h
   have hl:=kerL_len O m R P k
   by_cases e : j<(npL P k).length
   ·have e1 : nthR (kerL O m R P k ++ [kerTo O m R P k P.length]) j=nthR (kerL O m R P k) j:=by
     unfold nthR;simp only [List.getD_eq_getElem?_getD];rw [List.getElem?_append_left (by omega)]
    have e2 : (npL P k ++ [k]).getD j 0=(npL P k).getD j 0:=by simp only [List.getD_eq_getElem?_getD];rw [List.getElem?_append_left e]
    rw [e1,e2];exact kerL_at O m R P k e
   ·have ej : j=(npL P k).length:=by omega
    have e1 : nthR (kerL O m R P k ++ [kerTo O m R P k P.length]) j=kerTo O m R P k P.length:=by
     unfold nthR;simp only [List.getD_eq_getElem?_getD];rw [List.getElem?_append_right (by omega)];simp [ej,hl]
    have e2 : (npL P k ++ [k]).getD j 0=k:=by simp only [List.getD_eq_getElem?_getD];rw [List.getElem?_append_right (by omega)];simp [ej]
    rw [e1,e2]
variable {R : List (List Int)} {P : List Int}
theorem kerTo_other (hP : Piv R P m) {c x : Nat} (hx : x<m) (hxc : x ≠ c) : ∀ i,i≤P.length→(∀ j,j<i→(nth P j).toNat ≠ x)→nth (kerTo O m R P c i) x=0
 | 0,_,_=>by
  by_cases hc : c<m
  ·rw [kerTo,nth_set _ _ _ _ (by simpa using hc),if_neg hxc];simp [nth,List.getD_eq_getElem?_getD,List.getElem?_replicate];split <;> rfl
  ·rw [kerTo,List.set_eq_of_length_le (by simp;omega)];simp [nth,List.getD_eq_getElem?_getD,List.getElem?_replicate];split <;> rfl
 | i+1,hi,h=>by
  have hb:=hP.lt i (by omega)
  rw [kerTo,nth_set _ _ _ _ (by rw [kerTo_len];omega),if_neg (fun e=>h i (by omega) e.symm)]
  exact kerTo_other hP hx hxc i (by omega) fun j hj=>h j (by omega)
theorem kerTo_self (hP : Piv R P m) {c : Nat} (hc : c<m) (hn : ¬ (c : Int) ∈ P) : ∀ i,i≤P.length→nth (kerTo O m R P c i) c=1
 | 0,_=>by rw [kerTo,nth_set _ _ _ _ (by simpa using hc),if_pos rfl]
 | i+1,hi=>by
  have hb:=hP.lt i (by omega)
  have hne : c ≠ (nth P i).toNat:=fun e=>hn (by
   have : nth P i ∈ P:=nth_mem (by omega)
   rwa [show nth P i=(c : Int) by omega] at this)
  rw [kerTo,nth_set _ _ _ _ (by rw [kerTo_len];omega),if_neg hne]
  exact kerTo_self hP hc hn i (by omega)
theorem kerTo_piv (hP : Piv R P m) (hl : Lead R P) {c j : Nat} : ∀ i,i≤P.length→j<i→nth (kerTo O m R P c i) (nth P j).toNat=O.neg (nth (nthR R j) c)
 | 0,_,h=>by omega
 | i+1,hi,h=>by
  have hb:=hP.lt i (by omega)
  have hbj:=hP.lt j (by omega)
  rw [kerTo,nth_set _ _ _ _ (by rw [kerTo_len];omega)]
  by_cases e : j=i
  ·subst e;rw [if_pos rfl]
  ·have:=hl.asc j i (by omega) (by omega)
   rw [if_neg (by omega)]
   exact kerTo_piv hP hl i (by omega) (by omega)
theorem kerTo_vc (F : Fld O El) (hR : Rws El m R) (hP : Piv R P m) (hlen : R.length=P.length) {c : Nat} (hc : c<m) : ∀ i,i≤P.length→Vc El m (kerTo O m R P c i)
 | 0,_=>⟨kerTo_len O m R P c 0,fun y hy=>by
  rw [kerTo] at hy
  rcases List.mem_or_eq_of_mem_set hy with h | rfl
  ·rw [List.eq_of_mem_replicate h];exact F.zero
  ·exact F.one⟩
 | i+1,hi=>⟨kerTo_len O m R P c (i+1),fun y hy=>by
  rw [kerTo] at hy
  rcases List.mem_or_eq_of_mem_set hy with h | rfl
  ·exact (kerTo_vc F hR hP hlen hc i (by omega)).2 y h
  ·exact F.cl.neg _ (Vc.at (hR.row (by omega)) hc)⟩
theorem npL_at {P : List Int} {k j : Nat} (h : j<(npL P k).length) : (npL P k).getD j 0<k∧¬ (((npL P k).getD j 0 : Nat) : Int) ∈ P:=by
 have e : (npL P k).getD j 0=(npL P k)[j]:=by simp [List.getD_eq_getElem?_getD,h]
 rw [e]
 exact (mem_npL k).1 (List.getElem_mem h)
theorem kerL_rws (F : Fld O El) (hR : Rws El m R) (hP : Piv R P m) (hlen : R.length=P.length) : Rws El m (kerL O m R P m):=fun r hr=>by
 obtain ⟨j,hj,rfl⟩:=List.mem_iff_getElem.1 hr
 have hj' : j<(npL P m).length:=by rw [← kerL_len O m R P m];exact hj
 rw [← nthR_getElem hj,kerL_at O m R P m hj']
 exact kerTo_vc F hR hP hlen (npL_at hj').1 P.length (Nat.le_refl _)
theorem ker_orth (F : Fld O El) (hR : Rws El m R) (hP : Piv R P m) (hl : Lead R P) (hlen : R.length=P.length) : Orth O m R (kerL O m R P m):=fun i j hi hj=>by
 rw [kerL_len] at hj
 rw [kerL_at O m R P m hj]
 obtain ⟨hc,hn⟩:=npL_at hj
 generalize (npL P m).getD j 0=c at *
 have hb:=hP.lt i (by omega)
 have hne : c ≠ (nth P i).toNat:=fun e=>hn (by
  have : nth P i ∈ P:=nth_mem (by omega)
  rwa [show nth P i=(c : Int) by omega] at this)
 have hx : El (nth (nthR R i) c):=Vc.at (hR.row hi) hc
 have e1 : nth (kerTo O m R P c P.length) c=1:=kerTo_self hP hc hn _ (Nat.le_refl _)
 have e2 : nth (kerTo O m R P c P.length) (nth P i).toNat=O.neg (nth (nthR R i) c):=kerTo_piv hP hl _ (Nat.le_refl _) (by omega)
 have e3 : nth (nthR R i) (nth P i).toNat=1:=by rw [hP.one i i (by omega) hi,if_pos rfl]
 rw [dotN_two F hne (by rw [e1,F.mone hx];exact hx) (by rw [e2,e3,F.one_mul _ (F.cl.neg _ hx)];exact F.cl.neg _ hx) m fun p hp hpc hpi=>?_,if_pos hc,if_pos (by omega),e1,e2,e3,F.mone hx,F.one_mul _ (F.cl.neg _ hx),F.add_neg _ hx]
 show O.mul (nth (nthR R i) p) (nth (kerTo O m R P c P.length) p)=0
 have hxp : El (nth (nthR R i) p):=Vc.at (hR.row hi) hp
 by_cases hpp : ∃ q,q<P.length∧(nth P q).toNat=p
 ·obtain ⟨q,hq,rfl⟩:=hpp
  have hqi : i ≠ q:=fun e=>hpi (by rw [e])
  rw [hP.one q i hq hi,if_neg hqi,F.zmul ((kerTo_vc F hR hP hlen hc _ (Nat.le_refl _)).at hp)]
 ·rw [kerTo_other hP hp hpc _ (Nat.le_refl _) fun q hq e=>hpp ⟨q,hq,e⟩,F.mzero hxp]
end
end

section

end

section
section
variable {P : Int} {M : Nat} {mod : List Int} {q : Nat} {x : Int}
theorem pw_one (h : Res P M) (hx : ElP P M x) : pw P M mod x 1=x:=by show mulS P M mod (pw P M mod x 0) x=x;rw [pw,mulS_one h hx]
theorem pw_two (h : Res P M) (hx : ElP P M x) : pw P M mod x 2=mulS P M mod x x:=by show mulS P M mod (pw P M mod x 1) x=_;rw [pw_one h hx]
theorem pw_sq (h : Res P M) (hx : ElP P M x) : ∀ k,pw P M mod (mulS P M mod x x) k=pw P M mod x (2 * k)
 | 0=>rfl
 | k+1=>by rw [pw,pw_sq h hx k,← pw_two h hx,pw_add h];rfl
theorem fpw_eq (h : Res P M) : ∀ (f n : Nat) (x : Int),ElP P M x→n<2 ^ f→fpw (mulS P M mod) f x n=pw P M mod x n
 | 0,n,x,hx,hn=>by
  have : n=0:=by simpa using hn
  subst this;rfl
 | f+1,n,x,hx,hn=>by
  have ih:=fpw_eq h f (n / 2) (mulS P M mod x x) (mulS_el h x x) (by rw [Nat.pow_succ] at hn;omega)
  unfold fpw
  split
  ·rename_i h0;subst h0;rfl
  ·rw [ih,pw_sq h hx]
   split
   ·rename_i h1
    have e : n=2 * (n / 2)+1:=by omega
    have e2 : pw P M mod x n=pw P M mod x (2 * (n / 2)+1):=congrArg _ e
    rw [e2];rfl
   ·rename_i h1
    have e : n=2 * (n / 2):=by omega
    exact (congrArg _ e).symm
structure Ord (P : Int) (M : Nat) (mod : List Int) (q : Nat) (x : Int) : Prop where
 one : pw P M mod x (q - 1)=1
 ne : ∀ k,0<k→k<q - 1→pw P M mod x k ≠ 1
theorem pw_mul1 (h : Res P M) {a : Nat} (h1 : pw P M mod x a=1) : ∀ n,pw P M mod x (a * n)=1
 | 0=>rfl
 | n+1=>by rw [Nat.mul_succ,← pw_add h,pw_mul1 h h1 n,h1,mulS_one h (one_el h)]
theorem pw_mod1 (h : Res P M) {a b : Nat} (ha : pw P M mod x a=1) (hb : pw P M mod x b=1) : pw P M mod x (a % b)=1:=by
 have e : a=b * (a / b)+a % b:=(Nat.div_add_mod a b).symm
 rw [e,← pw_add h,pw_mul1 h hb,mulS_one h (pw_el h x _)] at ha
 exact ha
theorem pw_gcd (h : Res P M) : ∀ (b a : Nat),pw P M mod x a=1→pw P M mod x b=1→pw P M mod x (Nat.gcd b a)=1:=by
 intro b
 induction b using Nat.strongRecOn with
 | ind b ih =>
  intro a ha hb
  by_cases h0 : b=0
  ·subst h0;rw [Nat.gcd_zero_left];exact ha
  ·rw [Nat.gcd_rec]
   exact ih (a % b) (Nat.mod_lt _ (by omega)) b hb (pw_mod1 h ha hb)
theorem Ord.of (h : Res P M) (hx : ElP P M x) (hq : q≤256) (ho : ordOk (mulS P M mod) q x=true) : Ord P M mod q x:=by
 unfold ordOk at ho
 rw [Bool.and_eq_true] at ho
 obtain ⟨h1,h2⟩:=ho
 have h1':=eq_of_beq h1
 rw [fpw_eq h 8 _ x hx (by omega)] at h1'
 refine ⟨h1',fun k hk0 hk1 hk=>?_⟩
 have hg:=pw_gcd h k (q - 1) h1' hk
 have hgd : Nat.gcd k (q - 1) ∣ q - 1:=Nat.gcd_dvd_right _ _
 have hgl : Nat.gcd k (q - 1)≤k:=Nat.gcd_le_left _ hk0
 have hg0 : 0<Nat.gcd k (q - 1):=Nat.gcd_pos_of_pos_left _ hk0
 have h3:=List.all_eq_true.1 h2 (Nat.gcd k (q - 1)) (List.mem_range.2 (by omega))
 have h4 : (q - 1) % Nat.gcd k (q - 1)=0:=Nat.mod_eq_zero_of_dvd hgd
 simp only [Bool.or_eq_true,beq_iff_eq,bne_iff_ne,ne_eq] at h3
 rcases h3 with (h3 | h3) | h3
 ·omega
 ·exact h3 h4
 ·rw [fpw_eq h 8 _ x hx (by omega)] at h3
  exact h3 hg
theorem Ord.nz (h : Res P M) (o : Ord P M mod q x) {k : Nat} (hk : k<q - 1) : pw P M mod x k ≠ 0:=by
 intro h0
 have h1:=pw_add (mod:=mod) h x k (q - 1 - k)
 rw [h0,mulS_comm h,mulS_zero h,show k+(q - 1 - k)=q - 1 by omega,o.one] at h1
 omega
theorem Ord.inj (h : Res P M) (o : Ord P M mod q x) {i j : Nat} (hij : i<j) (hj : j<q - 1) : pw P M mod x i ≠ pw P M mod x j:=by
 intro e
 have h1:=pw_add (mod:=mod) h x i (q - 1 - i)
 have h2:=pw_add (mod:=mod) h x j (q - 1 - i)
 rw [show i+(q - 1 - i)=q - 1 by omega,o.one,e,h2] at h1
 have h3 : pw P M mod x (j - i)=1:=by
  have h4:=pw_add (mod:=mod) h x (j - i) (q - 1)
  rw [o.one,mulS_comm h,mulS_one h (pw_el h x _),show j - i+(q - 1)=j+(q - 1 - i) by omega,h1] at h4
  exact h4
 exact o.ne (j - i) (by omega) (by omega) h3
theorem powTo_full (h : Res P M) (hx : ElP P M x) (o : Ord P M mod q x) : ∀ (n k : Nat),k≤q - 1→q - 1 - k<n→0<k →
  powTo (fun z=>mulS P M mod z x) n ((List.range k).map fun i=>pw P M mod x i) (pw P M mod x k)=(List.range (q - 1)).map fun i=>pw P M mod x i
 | 0,k,_,hn,_=>by omega
 | n+1,k,hk,hn,h0=>by
  by_cases hke : k=q - 1
  ·subst hke
   refine powTo_stop _ _ _ _ (.inr ?_)
   rw [o.one,List.mem_map]
   exact ⟨0,List.mem_range.2 h0,rfl⟩
  ·rw [powTo_go]
   ·have e : (List.range k).map (fun i=>pw P M mod x i) ++ [pw P M mod x k]=(List.range (k+1)).map fun i=>pw P M mod x i:=by rw [List.range_succ,List.map_append];rfl
    rw [e]
    exact powTo_full h hx o n (k+1) (by omega) (by omega) (by omega)
   ·rintro (h1 | h1)
    ·exact o.nz h (by omega) h1
    ·obtain ⟨i,hi,e⟩:=List.mem_map.1 h1
     exact o.inj h (List.mem_range.1 hi) (by omega) e
theorem Ord.isGen (h : Res P M) (hx : ElP P M x) (hq : 2≤q) (o : Ord P M mod q x) : isGen P M mod q x=true:=by
 have hl : powS P M mod q x=(List.range (q - 1)).map fun i=>pw P M mod x i:=by
  by_cases h2 : q=2
  ·subst h2
   have : x=1:=by have:=o.one;rwa [show 2 - 1=1 from rfl,pw_one h hx] at this
   subst this
   rw [powS,powTo_stop _ _ _ _ (.inr (by simp))]
   rfl
  ·have:=powTo_full h hx o q 1 (by omega) (by omega) (by omega)
   rw [pw_one h hx] at this
   exact this
 unfold Proofs.YtcflcogbpnmjeaaGreat.isGen
 rw [hl,Bool.and_eq_true]
 refine ⟨by simp,?_⟩
 have e : nth ((List.range (q - 1)).map fun i=>pw P M mod x i) (q - 2)=pw P M mod x (q - 2):=by
  rw [nth_getElem (by simp;omega)];simp
 rw [e]
 have : mulS P M mod (pw P M mod x (q - 2)) x=pw P M mod x (q - 1):=by rw [show q - 1=(q - 2)+1 by omega];rfl
 rw [this,o.one];rfl
end
end

section
theorem codeE_fld {P M : Int} {mod : List Int} {N : Int} {L : List (List Int)} (h : codeE P M mod N L=0) : ∃ n : Nat,N=n∧1≤n∧n≤64∧Fld (tblOf P M.toNat mod).ops (tblOf P M.toNat mod).El∧Rws (tblOf P M.toNat mod).El n L:=by
 obtain ⟨m,rfl,h1,h2,_,hR⟩:=codeE_rws h
 exact ⟨m,rfl,h1,h2,fieldB_fld (codeE_zero h).1,hR⟩
theorem mem_bitsTo (x : Nat) (i : Int) : ∀ k,i ∈ bitsTo x k ↔ ∃ j : Nat,j<k∧i=j∧x.testBit j=true
 | 0=>by simp [bitsTo]
 | k+1=>by
  have ih:=mem_bitsTo x i k
  unfold bitsTo
  split
  ·rename_i ht
   rw [List.mem_append,ih,List.mem_singleton]
   constructor
   ·rintro (⟨j,h1,h2,h3⟩ | rfl)
    ·exact ⟨j,by omega,h2,h3⟩
    ·exact ⟨k,by omega,rfl,ht⟩
   ·rintro ⟨j,h1,h2,h3⟩
    by_cases e : j=k
    ·subst e;exact .inr h2
    ·exact .inl ⟨j,by omega,h2,h3⟩
  ·rename_i ht
   rw [ih]
   constructor
   ·rintro ⟨j,h1,h2,h3⟩;exact ⟨j,by omega,h2,h3⟩
   ·rintro ⟨j,h1,h2,h3⟩
    by_cases e : j=k
    ·subst e;exact absurd h3 ht
    ·exact ⟨j,by omega,h2,h3⟩
theorem maskTo_test {Q : List Int} : ∀ k,(∀ j,j<k→0≤nth Q j∧nth Q j<64)→∀ i,(maskTo Q k).testBit i=true ↔ ∃ j,j<k∧nth Q j=(i : Int)
 | 0,_,i=>by simp [maskTo]
 | k+1,h,i=>by
  have ih:=maskTo_test k (fun j hj=>h j (by omega)) i
  have hk:=h k (by omega)
  rw [maskTo,Nat.testBit_or,Bool.or_eq_true,ih,Nat.testBit_two_pow,decide_eq_true_eq]
  constructor
  ·rintro (⟨j,h1,h2⟩ | h1)
   ·exact ⟨j,by omega,h2⟩
   ·exact ⟨k,by omega,by omega⟩
  ·rintro ⟨j,h1,h2⟩
   by_cases e : j=k
   ·subst e;exact .inr (by omega)
   ·exact .inl ⟨j,by omega,h2⟩
end

section
theorem maskS_test {n : Nat} {Q : List Int} (h : okSet n Q=true) (hn : n≤64) (i : Nat) : (maskS Q).testBit i=true ↔ ∃ j,j<Q.length∧nth Q j=(i : Int) :=
 maskTo_test Q.length (fun j hj=>⟨(okSet_at h hj).1,by have:=(okSet_at h hj).2.1;omega⟩) i
theorem maskS_bits (x n : Nat) (hn : n≤64) (i : Nat) : (maskS (bitsTo x n)).testBit i=true ↔ i<n∧x.testBit i=true:=by
 rw [maskS_test (okSet_bits x n) hn]
 constructor
 ·rintro ⟨j,hj,e⟩
  have hm : nth (bitsTo x n) j ∈ bitsTo x n:=nth_mem hj
  obtain ⟨t,h1,h2,h3⟩:=(mem_bitsTo x _ n).1 hm
  have : t=i:=by omega
  subst this;exact ⟨h1,h3⟩
 ·rintro ⟨h1,h2⟩
  have hm : (i : Int) ∈ bitsTo x n:=(mem_bitsTo x _ n).2 ⟨i,h1,rfl,h2⟩
  obtain ⟨j,hj,e⟩:=List.mem_iff_getElem.1 hm
  exact ⟨j,hj,by rw [nth_getElem hj,e]⟩
variable {P M : Int} {mod : List Int} {n : Nat} {L : List (List Int)}
end

section
open Go.RowKit
def InN (n : Nat) (Q : List Int) : Prop:=∀ j,j<Q.length→0≤nth Q j∧nth Q j<n
theorem OMat.lit (w : World) {B : Nat} (hB : B≤w.heap.size) : OMat (w.alloc (.cells #[] 22)) B (some ⟨w.heap.size,0,none⟩) 0 0 [] [] :=
 ⟨rfl,rfl,own_mono (own_emp w 22) hB,fun i hi=>by omega,fun i hi=>by omega,fun i j hi=>by omega⟩
theorem nthR_map (f : List Int→List Int) (L : List (List Int)) {k : Nat} (hk : k<L.length) : nthR (L.map f) k=f (nthR L k):=by
 rw [nthR_getElem (by simpa using hk),nthR_getElem hk];simp
end

section
open Go.RowKit
theorem InN.bd {n : Nat} {Q : List Int} (h : InN n Q) (hn : n≤64) {k : Nat} (hk : k≤Q.length) : ∀ j,j<k→0≤nth Q j∧nth Q j<64:=fun j hj=>by
 have:=h j (by omega)
 omega
theorem InN.of_set {n : Nat} {Q : List Int} (h : okSet n Q=true) : InN n Q:=fun j hj=>by
 have:=okSet_at h hj
 omega
theorem InN.bits (x n : Nat) : InN n (bitsTo x n):=fun j hj=>nth_bits_lt x n j hj
theorem InN.mask {n : Nat} {Q : List Int} (h : InN n Q) (hn : n≤64) : maskS Q<18446744073709551616:=maskTo_lt _ (h.bd hn (Nat.le_refl _))
theorem bitsTo_congr {x y : Nat} : ∀ k,(∀ i,i<k→x.testBit i=y.testBit i)→bitsTo x k=bitsTo y k
 | 0,_=>rfl
 | k+1,h=>by
  rw [bitsTo,bitsTo,bitsTo_congr k fun i hi=>h i (by omega),h k (by omega)]
theorem bitsTo_mask (x n : Nat) (hn : n≤64) : bitsTo (maskS (bitsTo x n)) n=bitsTo x n :=
 bitsTo_congr n fun i hi=>by
  rw [Bool.eq_iff_iff,maskS_bits x n hn]
  exact ⟨fun h=>h.2,fun h=>⟨hi,h⟩⟩
end

section
open Go.RowKit
def dimV (P M : Int) (mod : List Int) (N : Int) (L : List (List Int)) (Q : List Int) : Int × Int :=
 if codeE P M mod N L=0 then (if okSet N Q=true then (dimS (tblOf P M.toNat mod).ops L N.toNat (maskS Q),0) else (0,5)) else (0,codeE P M mod N L)
theorem DimPost.val {P M : Int} {mod : List Int} {N : Int} {L : List (List Int)} {Q : List Int} {w : World} {e : Ending} {w' : World} (h : DimPost P M mod N L Q w e w') :
  e = .returned (.tuple #[.int .i64 (dimV P M mod N L Q).1,.int .i64 (dimV P M mod N L Q).2])∧Below w.heap.size w w':=by
 obtain ⟨hb,h⟩:=h
 refine ⟨?_,hb⟩
 unfold dimV
 rcases h with ⟨h1,rfl⟩ | ⟨h1,h2,rfl⟩ | ⟨h1,h2,rfl⟩
 ·rw [if_neg h1]
 ·rw [if_pos h1,if_neg (by rw [h2];decide)]
 ·rw [if_pos h1,if_pos h2]
end

section
open Go.RowKit
set_option maxRecDepth 100000 in
set_option maxHeartbeats 1600000 in
theorem index_any (a : Option Addr) (n c : Nat) (l : List Int) (v : Int) (w : World) (h : Ints w a n l) :
  Calls Tryz.prog 135 #[.slice a n c,.int .i64 v] w fun e w'=>∃ z : Int,e = .returned (.int .i64 z)∧(0≤z ↔ v ∈ l)∧w'=w:=by
 have Hl:=Lib.hid h.len
 have hpl:=h.pl
 have hmax:=h.max
 unfold maxLen at hmax
 go_enter Tryz.func135,Tryz.ntmps135
 go_wp2_with fail
 go_loopw [8] (fun iv wr=>∃ k : Nat,k≤n∧iv = .int .i64 k∧Hid (∀ j,j<k→nth l j ≠ v)∧wr=w) (fun i _=>n - (intOf i).toNat)
 case atStart=>exact ⟨0,Nat.zero_le _,rfl,fun j hj=>by omega,rfl⟩
 case round =>
  obtain ⟨k,hk,rfl,hno,rfl⟩:=hrel
  by_cases hlt : k<n
  ·have c1:=h.cell k hlt
   by_cases he : nth l k=v
   ·have he' : (v == nth l k)=true:=by rw [he];simp
    have Hm : Hid (v ∈ l):=by show v ∈ l;rw [← he];exact nth_mem (by rw [Hl.out];exact hlt)
    clear he
    go_wp2_with fail
    go_ret
    exact ⟨k,rfl,⟨fun _=>Hm.out,fun _=>Int.natCast_nonneg _⟩,rfl⟩
   ·have he' : (v == nth l k)=false:=by simpa using fun e=>he e.symm
    have Hn2 : Hid (∀ j,j<k+1→nth l j ≠ v):=fun j hj=>by
     by_cases e : j=k
     ·subst e;exact he
     ·exact hno.out j (by omega)
    clear he
    go_wp2_with fail
    go_roundw
    case rel=>exact ⟨k+1,by omega,by go_num,Hn2.out,by simp⟩
    case measure=>simp [intOf] <;> omega
  ·obtain rfl : k=n:=by omega
   have Hm : Hid (¬ v ∈ l):=fun hm=>by
    obtain ⟨j,hj,e⟩:=List.mem_iff_getElem.1 hm
    rw [← nth_getElem hj] at e
    exact hno.out j (by have:=Hl.out;omega) e
   go_wp2_with fail
   go_ret
   exact ⟨-1,rfl,⟨fun h=>absurd h (by omega),fun h=>absurd h Hm.out⟩,rfl⟩
theorem contains_any (a : Option Addr) (n c : Nat) (l : List Int) (v : Int) (w : World) (h : Ints w a n l) :
  Calls Tryz.prog 83 #[.slice a n c,.int .i64 v] w fun e w'=>e = .returned (.bool (decide (v ∈ l)))∧w'=w:=by
 go_enter Tryz.func83,Tryz.ntmps83
 go_wp2_with fail
 refine (index_any a n c l v w h).mono ?_
 rintro e w1 ⟨z,rfl,hz,rfl⟩
 by_cases h0 : 0≤z
 ·have Hz : Hid (decide (v ∈ l)=true):=by show _=_;simpa using hz.1 h0
  have h0' : decide (0≤z)=true:=by simpa using h0
  clear hz h0
  go_wp2_with fail
  go_ret
  exact ⟨ret_bool Hz.out.symm,rfl⟩
 ·have Hz : Hid (decide (v ∈ l)=false):=by show _=_;simpa using fun h=>h0 (hz.2 h)
  have h0' : decide (0≤z)=false:=by simpa using h0
  clear hz h0
  go_wp2_with fail
  go_ret
  exact ⟨ret_bool Hz.out.symm,rfl⟩
def dualL (G : Tbl) (L : List (List Int)) (m : Nat) : List (List Int):=canS G (kerL G.ops m (canS G L m) (pivS G L m) m) m
def KerPost (G : Tbl) (L : List (List Int)) (m : Nat) (w : World) (e : Ending) (w' : World) : Prop :=
 ∃ a c,e = .returned (.tuple #[.agg #[.int .i64 m,.slice a (dualL G L m).length c],.int .i64 0])∧MatN w.heap.size w' a (dualL G L m).length (dualL G L m)∧Below w.heap.size w w'
theorem npL_le (P : List Int) : ∀ k,(npL P k).length≤k
 | 0=>Nat.le_refl _
 | k+1=>by have:=npL_le P k;rw [npL];split <;> simp <;> omega
end

section
theorem mod_len {P M : Int} {mod : List Int} (h : fieldB P M mod=true) : mod.length≤8:=by
 unfold fieldB shapeB at h
 simp only [Bool.and_eq_true,bne_iff_ne,ne_eq] at h
 obtain ⟨⟨⟨h1,_⟩,h3⟩,_⟩:=h
 have h2:=orderS_ne h1
 by_cases hM : M=1
 ·rw [if_pos hM] at h3
  have : mod.length=0:=by simpa using h3
  omega
 ·rw [if_neg hM] at h3
  simp only [Bool.and_eq_true,decide_eq_true_eq] at h3
  omega
end

section
theorem nth_snoc_lt {l : List Int} {x : Int} {i : Nat} (h : i<l.length) : nth (l ++ [x]) i=nth l i:=by
 simp only [nth,List.getD_eq_getElem?_getD];rw [List.getElem?_append_left h]
theorem nth_snoc (l : List Int) (x : Int) : nth (l ++ [x]) l.length=x:=by simp [nth]
theorem grL_snoc (l : List Int) (x : Int) : ∀ k,k≤l.length→grL (l ++ [x]) k=grL l k
 | 0,_=>rfl
 | k+1,h=>by rw [grL,grL,nth_snoc_lt (by omega),grL_snoc l x k (by omega)]
theorem grL_snoc_all (l : List Int) (x : Int) : grL (l ++ [x]) (l ++ [x]).length=x.toNat :: grL l l.length:=by
 rw [List.length_append,List.length_singleton,grL,nth_snoc,grL_snoc l x l.length (Nat.le_refl _)]
def gA (Q : List Int) : List Nat:=grL Q Q.length
theorem gA_snoc (l : List Int) (x : Int) : gA (l ++ [x])=x.toNat :: gA l:=grL_snoc_all l x
theorem mem_gA {Q : List Int} {x : Nat} : x ∈ gA Q ↔ ∃ y ∈ Q,y.toNat=x:=by
 unfold gA
 rw [mem_grL]
 constructor
 ·rintro ⟨j,hj,e⟩;exact ⟨nth Q j,nth_mem hj,e⟩
 ·rintro ⟨y,hy,e⟩
  obtain ⟨j,hj,rfl⟩:=List.mem_iff_getElem.1 hy
  exact ⟨j,hj,by rw [nth_getElem hj];exact e⟩
section
variable {O : FOps} {El : Int→Prop} {m : Nat} {L : List (List Int)}
def rkQ (O : FOps) (L : List (List Int)) (Q : List Int) : Nat:=(grS O L Q).length
theorem rkQ_rk (F : Fld O El) (hL : Rws El m L) (Q : List Int) : Rk (clV O El L.length (colS L)) (gA Q) (rkQ O L Q):=grS_rk F hL Q
end
end

section
def frTo (b : Bool) (U : List Int) : Nat→List Int
 | 0=>[]
 | k+1=>if decide ((k : Int) ∈ U)=b then frTo b U k ++ [(k : Int)] else frTo b U k
theorem mem_frTo {b : Bool} {U : List Int} {x : Int} : ∀ k,x ∈ frTo b U k ↔ ∃ j : Nat,j<k∧x=j∧decide ((j : Int) ∈ U)=b
 | 0=>by simp [frTo]
 | k+1=>by
  rw [frTo]
  by_cases h : decide ((k : Int) ∈ U)=b
  ·rw [if_pos h,List.mem_append,mem_frTo k,List.mem_singleton]
   constructor
   ·rintro (⟨j,hj,e,hb⟩ | e)
    ·exact ⟨j,by omega,e,hb⟩
    ·exact ⟨k,by omega,e,h⟩
   ·rintro ⟨j,hj,e,hb⟩
    by_cases ejk : j=k
    ·subst ejk;exact .inr e
    ·exact .inl ⟨j,by omega,e,hb⟩
  ·rw [if_neg h,mem_frTo k]
   constructor
   ·rintro ⟨j,hj,e,hb⟩;exact ⟨j,by omega,e,hb⟩
   ·rintro ⟨j,hj,e,hb⟩
    by_cases ejk : j=k
    ·subst ejk;exact absurd hb h
    ·exact ⟨j,by omega,e,hb⟩
theorem frTo_len (b : Bool) (U : List Int) : ∀ k,(frTo b U k).length≤k
 | 0=>Nat.le_refl _
 | k+1=>by
  have:=frTo_len b U k
  rw [frTo];split <;> simp <;> omega
theorem grTo_sub (O : FOps) (L : List (List Int)) (Q : List Int) : ∀ k,k≤Q.length→∀ x ∈ (grTo O L Q k).2,x ∈ Q
 | 0,_,x,hx=>by simp [grTo] at hx
 | k+1,hk,x,hx=>by
  rw [grTo] at hx
  split at hx
  ·rcases List.mem_append.1 hx with hx | hx
   ·exact grTo_sub O L Q k (by omega) x hx
   ·rw [List.mem_singleton] at hx;rw [hx];exact nth_mem (by omega)
  ·exact grTo_sub O L Q k (by omega) x hx
end

section
def grM (O : FOps) (L : List (List Int)) (Q : List Int) (most : Nat) : List Int:=(grS O L Q).take most
def outS (m : Nat) (s z : List Int) : List Int:=sortL z ++ frTo false (s ++ z) m
structure Clm where
 M : Nat
 W : Nat
 cos : Bool
 y : List Int
def setOk (m : Nat) (s t : List Int) : Bool:=okSet m t && t.all fun x=>decide (¬ x ∈ s)
structure LS where
 rows : List (List Int)
 sum : List Int
 top : Nat
def clrS (O : FOps) (v : List Int) (i : Nat) (r : List Int) : List Int :=
 if nth v i=0 then v else List.zipWith (fun a y=>if y=0 then a else O.add a (O.neg (O.mul (nth v i) y))) v r
def clrTo (O : FOps) (t i : Nat) (L : List (List Int)) : Nat→List (List Int)
 | 0=>L
 | l+1=>if t<l then (clrTo O t i L l).set l (clrS O (nthR (clrTo O t i L l) l) i (nthR (clrTo O t i L l) t)) else clrTo O t i L l
def lgtPiv (O : FOps) (L : List (List Int)) (t k i : Nat) : List (List Int) :=
 clrTo O t i ((swapRow L t k).set t ((nthR (swapRow L t k) t).map (O.mul (O.inv (nth (nthR (swapRow L t k) t) i))))) L.length
def lgtStep (O : FOps) (st : LS) (i : Nat) : LS :=
 if findRow st.rows i st.top=st.rows.length then st
 else ⟨lgtPiv O st.rows st.top (findRow st.rows i st.top) i,clrS O st.sum i (nthR (lgtPiv O st.rows st.top (findRow st.rows i st.top) i) st.top),st.top+1⟩
def lgtTo (O : FOps) (L : List (List Int)) (y t : List Int) : Nat→LS
 | 0=>⟨L,y,0⟩
 | k+1=>lgtStep O (lgtTo O L y t k) (nth t k).toNat
def cntTo (s v : List Int) : Nat→Nat
 | 0=>0
 | k+1=>if nth v k ≠ 0∧¬ (k : Int) ∈ s then cntTo s v k+1 else cntTo s v k
def lightS (O : FOps) (L : List (List Int)) (y s t : List Int) : Nat:=cntTo s (lgtTo O L y t t.length).sum (lgtTo O L y t t.length).sum.length
def rightS (O : FOps) (L : List (List Int)) (m : Nat) (C : Clm) (s t : List Int) : Bool :=
 setOk m s t && (decide ((grS O L t).length=t.length) &&
  if C.cos=true then decide ((grS O L (frTo false s m)).length=t.length) && decide (C.W<s.length+lightS O L C.y s t) else decide (t.length=C.M))
def kidsS (C : Clm) (s z t : List Int) : List Int:=if s.length<C.W then t.filter fun x=>decide (¬ x ∈ z) else []
def kfol (F : List Int→List Int→List (List Int)→Option (List (List Int))) (s : List Int) : List Int→List Int→List (List Int)→Option (List (List Int))
 | _,[],ts=>some ts
 | z,k :: ks,ts=>match F (s ++ [k]) z ts with
  | none=>none
  | some ts'=>kfol F s (z ++ [k]) ks ts'
def folS (O : FOps) (L : List (List Int)) (m : Nat) (C : Clm) : Nat→List Int→List Int→List (List Int)→Option (List (List Int))
 | 0,s,_,ts=>match ts with
  | []=>none
  | t :: ts=>if rightS O L m C s t=true then some ts else none
 | d+1,s,z,ts=>match ts with
  | []=>none
  | t :: ts=>if rightS O L m C s t=true then kfol (folS O L m C d) s z (kidsS C s z t) ts else none
def provS (O : FOps) (L : List (List Int)) (m : Nat) (C : Clm) (T : List (List Int)) : Int :=
 match folS O L m C C.W [] [] T with
 | some []=>0
 | _=>13
def csetS (O : FOps) (L : List (List Int)) (m : Nat) (C : Clm) (s z : List Int) : List Int:=sortL (grM O L (outS m s z) (if C.cos=true then m else C.M))
def kbld (F : List Int→List Int→List (List Int)→Int × List (List Int)) (s : List Int) : List Int→List Int→List (List Int)→Int × List (List Int)
 | _,[],T=>(0,T)
 | z,k :: ks,T=>if (F (s ++ [k]) z T).1=0 then kbld F s (z ++ [k]) ks (F (s ++ [k]) z T).2 else ((F (s ++ [k]) z T).1,[])
def bldS (O : FOps) (L : List (List Int)) (m : Nat) (C : Clm) : Nat→List Int→List Int→List (List Int)→Int × List (List Int)
 | 0,s,z,T=>if rightS O L m C s (csetS O L m C s z)=true then if T.length=65536 then (8,[]) else (0,T ++ [csetS O L m C s z]) else (11,[])
 | d+1,s,z,T=>if rightS O L m C s (csetS O L m C s z)=true then if T.length=65536 then (8,[]) else kbld (bldS O L m C d) s z (kidsS C s z (csetS O L m C s z)) (T ++ [csetS O L m C s z]) else (11,[])
def treeS (O : FOps) (L : List (List Int)) (m : Nat) (C : Clm) : Int × List (List Int):=bldS O L m C C.W [] [] []
theorem grTo_pfx (O : FOps) (L : List (List Int)) (Q : List Int) {k : Nat} : ∀ j,k≤j→(grTo O L Q k).2 <+: (grTo O L Q j).2
 | 0, h => by obtain rfl : k = 0 := by omega
              exact List.prefix_rfl
 | j+1,h=>by
  by_cases e : k=j+1
  ·subst e;exact List.prefix_rfl
  ·refine (grTo_pfx O L Q j (by omega)).trans ?_
   rw [grTo]
   split
   ·exact List.prefix_append _ _
   ·exact List.prefix_rfl
theorem grM_stop {O : FOps} {L : List (List Int)} {Q : List Int} {k most : Nat} (hk : k≤Q.length) (h : (grTo O L Q k).2.length=most) : grM O L Q most=(grTo O L Q k).2:=by
 obtain ⟨l,hl⟩:=grTo_pfx O L Q Q.length hk
 rw [grM,grS,← hl,← h,List.take_left]
theorem grM_all {O : FOps} {L : List (List Int)} {Q : List Int} {most : Nat} (h : (grTo O L Q Q.length).2.length≤most) : grM O L Q most=(grTo O L Q Q.length).2:=by
 rw [grM,grS,List.take_of_length_le h]
theorem grTo_le (O : FOps) (L : List (List Int)) (Q : List Int) : ∀ k,(grTo O L Q k).2.length≤k
 | 0=>Nat.le_refl _
 | k+1=>by
  have ih:=grTo_le O L Q k
  rw [grTo]
  split
  ·simp;omega
  ·dsimp only;omega
theorem grS_le (O : FOps) (L : List (List Int)) (Q : List Int) : (grS O L Q).length≤Q.length:=grTo_le O L Q _
theorem grM_full {O : FOps} {L : List (List Int)} {Q : List Int} {most : Nat} (h : Q.length≤most) : grM O L Q most=grS O L Q :=
 List.take_of_length_le (Nat.le_trans (grS_le O L Q) h)
theorem grM_sub {O : FOps} {L : List (List Int)} {Q : List Int} {most : Nat} : ∀ x ∈ grM O L Q most,x ∈ Q:=fun x hx =>
 grTo_sub O L Q Q.length (Nat.le_refl _) x (List.mem_of_mem_take hx)
theorem outS_len (m : Nat) (s z : List Int) : (outS m s z).length≤z.length+m:=by
 unfold outS
 have:=frTo_len false (s ++ z) m
 rw [List.length_append,sortL_len];omega
theorem mem_outS {m : Nat} {s z : List Int} {x : Int} (h : x ∈ outS m s z) : x ∈ z∨(0≤x∧x<m∧¬ x ∈ s∧¬ x ∈ z):=by
 unfold outS at h
 rcases List.mem_append.1 h with h | h
 ·exact .inl ((sortL_perm z).mem_iff.1 h)
 ·obtain ⟨j,hj,rfl,hd⟩:=(mem_frTo m).1 h
  have : ¬ (j : Int) ∈ s ++ z:=by simpa using hd
  rw [List.mem_append] at this
  exact .inr ⟨by omega,by omega,fun h=>this (.inl h),fun h=>this (.inr h)⟩
theorem setOk_ok {m : Nat} {s t : List Int} (h : setOk m s t=true) : okSet m t=true∧∀ x ∈ t,¬ x ∈ s:=by
 unfold setOk at h
 rw [Bool.and_eq_true,List.all_eq_true] at h
 exact ⟨h.1,fun x hx=>by simpa using h.2 x hx⟩
theorem right_ok {O : FOps} {L : List (List Int)} {m : Nat} {C : Clm} {s t : List Int} (h : rightS O L m C s t=true) : okSet m t=true∧∀ x ∈ t,¬ x ∈ s:=by
 unfold rightS at h
 rw [Bool.and_eq_true] at h
 exact setOk_ok h.1
end

section
open Go.RowKit
theorem clrS_length (O : FOps) (v : List Int) (i : Nat) (r : List Int) (h : r.length=v.length) : (clrS O v i r).length=v.length:=by
 unfold clrS;split <;> simp [h]
theorem nth_clrS (O : FOps) (v : List Int) (i : Nat) (r : List Int) (j : Nat) (h : r.length=v.length) (hj : j<v.length) (h0 : nth v i ≠ 0) :
  nth (clrS O v i r) j=if nth r j=0 then nth v j else O.add (nth v j) (O.neg (O.mul (nth v i) (nth r j))):=by
 unfold clrS
 rw [if_neg h0,nth_getElem (show j<_ by simp [h];omega),nth_getElem hj,nth_getElem (show j<r.length by omega)]
 simp
theorem clrS_el {O : FOps} {El : Int→Prop} (hO : FCl O El) {v r : List Int} {i : Nat} (hv : ∀ x ∈ v,El x) (hr : ∀ x ∈ r,El x) (hl : r.length=v.length) (hi : i<v.length) : ∀ x ∈ clrS O v i r,El x:=by
 intro x hx
 by_cases h0 : nth v i=0
 ·unfold clrS at hx;rw [if_pos h0] at hx;exact hv x hx
 ·obtain ⟨j,hj,rfl⟩:=List.mem_iff_getElem.1 hx
  rw [clrS_length O v i r hl] at hj
  have h1:=nth_clrS O v i r j hl hj h0
  rw [nth_getElem (show j<(clrS O v i r).length by rw [clrS_length O v i r hl];exact hj)] at h1
  rw [h1]
  have e1 : El (nth v j):=hv _ (nth_mem hj)
  have e2 : El (nth r j):=hr _ (nth_mem (by omega))
  have e3 : El (nth v i):=hv _ (nth_mem hi)
  split
  ·exact e1
  ·exact hO.add _ _ e1 (hO.neg _ (hO.mul _ _ e3 e2))
variable {w : World} {b : Nat} {G : Tbl}
set_option maxRecDepth 100000 in
set_option maxHeartbeats 4000000 in
theorem exClear_any (w0 : World) (pb : Nat) (av : Option Addr) (cv n : Nat) (v : List Int) (i : Nat) (au : Option Addr) (cu : Nat) (u : List Int) (h : GFw w0 b G) (hb : Below w0.heap.size w0 w)
  (p0 : w0.cell? ⟨pb,0,none⟩=some (.pointer (some ⟨b,0,none⟩)))
  (hv : w.ownsRow w0.heap.size 3 1 (.slice av n cv) n (v.map (Value.int .i64))) (hu : Ints w au n u) (hap : av=none∨au=none∨ablk au ≠ ablk av)
  (hve : ∀ x ∈ v,G.El x) (hue : ∀ x ∈ u,G.El x) (hin : i<n) :
  Calls Tryz.prog 238 #[.pointer (some ⟨pb,0,none⟩),.slice av n cv,.int .i64 i,.slice au n cu] w
   fun e w'=>e = .returned (.tuple #[])∧w'.ownsRow w0.heap.size 3 1 (.slice av n cv) n ((clrS G.ops v i u).map (Value.int .i64))∧Only av w w':=by
 have hul:=hu.len
 have hvl : v.length=n:=by simpa using own_len hv
 have hmax:=hu.max
 unfold maxLen at hmax
 have hpu:=hu.pl
 obtain ⟨iv0,mv0⟩:=Ints.own hv
 have hpv:=iv0.pl
 have ci:=iv0.cell i hin
 have hav : 0<n→av ≠ none:=fun hn e=>by have:=hpv hn;rw [e] at this;cases this
 have hxe : G.El (nth v i):=hve _ (nth_mem (by omega))
 have Hul:=Lib.hid hul
 have Hvl:=Lib.hid hvl
 have Hav:=Lib.hid hav
 have Hve:=Lib.hid hve
 have Hue:=Lib.hid hue
 have HP:=Lib.hid (fun (V : World) (hV : Below w0.heap.size w0 V)=>cell_keep hV p0)
 clear hav hve hue
 by_cases hx : nth v i=0
 ·have Hn : Hid (clrS G.ops v i u=v):=by show _=_;rw [clrS,if_pos hx]
  have hx' : (nth v i != 0)=false:=by simpa using hx
  clear hx hul hvl
  go_enter Tryz.func238,Tryz.ntmps238
  go_wp2_with fail
  go_end0
  exact ⟨rfl,by rw [Hn.out];exact hv,Only.refl _ _⟩
 have hx' : (nth v i != 0)=true:=by simpa using hx
 have Hnl:=Lib.hid (clrS_length G.ops v i u (by omega))
 have Hnth:=Lib.hid (fun j hj=>nth_clrS G.ops v i u j (by omega) hj hx)
 clear hx hul hvl
 generalize clrS G.ops v i u=N at *
 go_enter Tryz.func238,Tryz.ntmps238
 go_wp2_with fail
 generalize nth v i=x at *
 go_loopw [19] (fun iv wr=>∃ k : Nat,k≤n∧iv = .int .i64 k∧wr.ownsRow w0.heap.size 3 1 (.slice av n cv) n ((mixTo N v k).map (Value.int .i64))∧Only av w wr) (fun iv _=>n - (intOf iv).toNat)
 case atStart=>exact ⟨0,Nat.zero_le _,rfl,by rw [mixTo_zero];exact hv,Only.refl _ _⟩
 case round =>
  obtain ⟨k,hk,rfl,hown,honly⟩:=hrel
  by_cases hlt : k<n
  ·have hiu:=honly.ints hu hap
   have cu1:=hiu.cell k hlt
   have hkN : N.length=v.length:=Hnl.out
   have hkv : k<v.length:=by rw [Hvl.out];exact hlt
   have hval:=Hnth.out k hkv
   have hmix:=nth_mixTo N v k k hkN (by omega)
   rw [if_neg (by omega)] at hmix
   by_cases hz : nth u k=0
   ·rw [if_pos hz] at hval
    have hsame:=mixTo_same N v k hkN hkv hval
    have Hsame:=Lib.hid hsame
    have hz' : (nth u k != 0)=false:=by simpa using hz
    clear hval hmix hsame hkN hkv hz
    go_wp2_with fail
    go_roundw
    case rel=>exact ⟨k+1,by omega,by go_num,by rw [Hsame.out];exact hown,honly⟩
    case measure=>simp [intOf] <;> omega
   ·rw [if_neg hz] at hval
    have hset:=mixTo_set N v k hkN hkv
    obtain ⟨hiv,hmv⟩:=Ints.own hown
    have cv1:=hiv.cell k hlt
    have fv1:=(hmv (by omega)).2 k hlt
    rw [hmix] at cv1
    have elv : G.El (nth v k):=Hve.out _ (nth_mem hkv)
    have elu : G.El (nth u k):=Hue.out _ (nth_mem (by rw [Hul.out];exact hlt))
    have hbr : Below w0.heap.size w0 wr:=Below.trans hb (honly.below (fun ha=>(own_ne hv ha).1) hb.size)
    have p0r:=HP.out wr hbr
    have hGr : GFw wr b G:=h.keep hbr
    have elm : ∀ x y,G.El (G.mul x y):=fun x y=>Tbl.mul_el h x y
    have HG : Hid (GFw wr.drew b G∧∀ n,GFw (wr.drewN n) b G):=⟨hGr.keep (Below.refl _ _).drew,fun n=>hGr.drewN n⟩
    rw [hval] at hset
    have Hset:=Lib.hid hset
    have hz' : (nth u k != 0)=true:=by simpa using hz
    clear hval hmix hset hkN hkv hz
    go_wp2_with fail
    go_region_law ((first
     | (go_simp;go_at_call 112;((with_reducible refine (gMul x (nth u k) HG.out.1 hxe elu).mono ?_);rintro e w4 ⟨m4,rfl,rfl⟩))
     | (go_simp;go_at_call 112;((with_reducible refine (gMul x (nth u k) (HG.out.2 _) hxe elu).mono ?_);rintro e w4 ⟨m4,rfl,rfl⟩))
     | (go_simp;go_at_call 170;((with_reducible refine (gSub (nth v k) (G.mul x (nth u k)) (HG.out.2 _) elv (elm _ _)).mono ?_);rintro e w4 ⟨m5,rfl,rfl⟩))))
    all_goals (
     go_wp2_with fail
     go_roundw
     case rel =>
      have hdr : Drawn wr (wr.drewN (1+m4+m5)):=⟨_,rfl⟩
      refine ⟨k+1,by omega,by go_num,?_,honly.trans ((Only.drawn hdr).trans (Only.set _ k _ (Hav.out (by omega))))⟩
      have h1:=own_set (w:=wr.drewN (1+m4+m5)) hown k hlt (.int .i64 (G.sub (nth v k) (G.mul x (nth u k))))
      rw [← List.map_set,show G.sub (nth v k) (G.mul x (nth u k))=G.ops.add (nth v k) (G.ops.neg (G.ops.mul x (nth u k))) from rfl,Hset.out] at h1
      exact h1
     case measure=>simp [intOf] <;> omega)
  ·obtain rfl : k=n:=by omega
   rw [mixTo_all N v k (by rw [Hnl.out,Hvl.out]) Hvl.out] at hown
   go_wp2_with fail
   go_end0
   exact ⟨rfl,hown,honly⟩
end

section
open Go.RowKit
theorem clrTo_length (O : FOps) (t i : Nat) (L : List (List Int)) : ∀ l,(clrTo O t i L l).length=L.length
 | 0=>rfl
 | l+1=>by
  rw [clrTo]
  split
  ·rw [List.length_set];exact clrTo_length O t i L l
  ·exact clrTo_length O t i L l
theorem lgtPiv_length (O : FOps) (L : List (List Int)) (t k i : Nat) : (lgtPiv O L t k i).length=L.length:=by
 unfold lgtPiv;rw [clrTo_length,List.length_set,swapRow_length]
theorem Rws.clr {O : FOps} {El : Int→Prop} {m : Nat} (hO : FCl O El) {L : List (List Int)} {t i : Nat} (hL : Rws El m L) (ht : t<L.length) (hi : i<m) : ∀ l,l≤L.length→Rws El m (clrTo O t i L l)
 | 0,_=>hL
 | l+1,hl=>by
  have ih:=Rws.clr hO hL ht hi l (by omega)
  rw [clrTo]
  split
  ·have h1:=ih.row (i:=l) (by rw [clrTo_length];omega)
   have h2:=ih.row (i:=t) (by rw [clrTo_length];omega)
   exact ih.set l ⟨by rw [clrS_length _ _ _ _ (by rw [h1.1,h2.1])];exact h1.1,clrS_el hO h1.2 h2.2 (by rw [h1.1,h2.1]) (by rw [h1.1];exact hi)⟩
  ·exact ih
theorem cntTo_le (s v : List Int) : ∀ k,cntTo s v k≤k
 | 0=>Nat.le_refl _
 | k+1=>by
  have:=cntTo_le s v k
  rw [cntTo];split <;> omega
variable {w : World} {b : Nat} {G : Tbl}
theorem exClearRow (w0 : World) (pb : Nat) (a : Option Addr) (n c : Nat) (R : List (Option Addr × Nat)) (L : List (List Int)) (m i l t : Nat) (hO : OMat w w0.heap.size a n c R L)
  (h : GFw w0 b G) (hb : Below w0.heap.size w0 w) (p0 : w0.cell? ⟨pb,0,none⟩=some (.pointer (some ⟨b,0,none⟩))) (hl : l<n) (ht : t<n) (hlt : l ≠ t) (hi : i<m) (hR : Rws G.El m L) (V : World) (hd : Drawn w V) :
  Calls Tryz.prog 238 #[.pointer (some ⟨pb,0,none⟩),.slice (nthA R l).1 m (nthA R l).2,.int .i64 i,.slice (nthA R t).1 m (nthA R t).2] V
   fun e w'=>e = .returned (.tuple #[])∧(w'.cell? ⟨ablk a,aoff a+l,none⟩=some (.slice (nthA R l).1 m (nthA R l).2)∧w'.cell? ⟨ablk a,aoff a+t,none⟩=some (.slice (nthA R t).1 m (nthA R t).2)) ∧
    OMat w' w0.heap.size a n c R (L.set l (clrS G.ops (nthR L l) i (nthR L t)))∧Moves w w' (OIn a R) (OIn a R):=by
 have rl:=hR.row (i:=l) (by rw [hO.ll];exact hl)
 have rt:=hR.row (i:=t) (by rw [hO.ll];exact ht)
 have cl:=hO.cell hl
 have ct:=hO.cell ht
 have ol:=hO.row l hl
 have it:=hO.ints ht
 rw [rl.1] at cl ol
 rw [rt.1] at ct it
 have hap : (nthA R l).1=none∨(nthA R t).1=none∨ablk (nthA R t).1 ≠ ablk (nthA R l).1:=hO.sep l t hl ht hlt
 refine (exClear_any w0 pb _ _ m (nthR L l) i _ _ (nthR L t) h (hd.below' hb) p0 (own_keep ol hd.below) (it.keep hd.below) hap rl.2 rt.2 hi).mono ?_
 rintro e w' ⟨rfl,hown,honly⟩
 have hmv : Moves w w' (OIn a R) (OIn a R):=(Moves.of_below hd.below _).trans (honly.moves (fun hn=>OMat.inRow (by rw [hO.rl];exact hl) hn))
 have hne2 : ¬ ((nthA R l).1 ≠ none∧ablk a=ablk (nthA R l).1):=by
  rintro ⟨h1,h2⟩
  rcases hO.apt l hl with h3 | h3
  ·exact h1 h3
  ·exact h3 h2.symm
 refine ⟨rfl,⟨Moves.cell (Moves.trans (Moves.of_below hd.below _) honly) cl hne2,Moves.cell (Moves.trans (Moves.of_below hd.below _) honly) ct hne2⟩,?_,hmv⟩
 have hOr:=hO.keep hd.below
 have hll : (clrS G.ops (nthR L l) i (nthR L t)).length=(nthR L l).length:=clrS_length _ _ _ _ (by rw [rl.1,rt.1])
 refine hOr.rowTo hl hll (by rw [rl.1];exact hown) fun b hb hne=>honly.block b hb fun ⟨h1,h2⟩=>?_
 rcases hne with h3 | h3
 ·exact h1 h3
 ·exact h3 h2
theorem exScaleRow (w0 V : World) (a : Option Addr) (n c : Nat) (R : List (Option Addr × Nat)) (L : List (List Int)) (t m : Nat) (r : List Int) (hO : OMat w w0.heap.size a n c R L) (hb : Below w0.heap.size w0 w) (ht : t<n) (hr : r.length=m)
  (hV : Below w.heap.size w V) {a4 : Option Addr} {c4 : Nat} (hown : V.ownsRow w.heap.size 3 1 (.slice a4 m c4) m (r.map (Value.int .i64))) :
  ∃ R',OMat (V.setCell ⟨ablk a,aoff a+t,none⟩ (.slice a4 m c4)) w0.heap.size a n c R' (L.set t r)∧Moves w (V.setCell ⟨ablk a,aoff a+t,none⟩ (.slice a4 m c4)) (OIn a R) (OIn a R'):=by
 subst hr
 have hO4:=hO.keep hV
 have hnew : ∀ b,b<w.heap.size→Apt a4 b:=fun b hb=>own_apt hown hb
 have h1:=hO4.setRow ht (own_mono hown hb.size) (hnew _ (hO.lt _ (.inl ⟨hO.ne (by omega),rfl⟩)).2) (fun j hj _=>by
  by_cases hn : (nthA R j).1=none
  ·exact .inl hn
  ·exact .inr (hnew _ (hO.lt _ (OMat.inRow (by rw [hO.rl];exact hj) hn)).2))
 have h2:=hO.setRow_moves' hV ht (r:=a4) (rc:=c4) (.slice a4 r.length c4) (fun ha=>.inr (own_ne hown ha).1)
 exact ⟨_,h1,h2⟩
end

section
open Go.RowKit
theorem frTo_step (U : List Int) (k : Nat) : frTo false U (k+1)=if decide ((k : Int) ∈ U)=false then frTo false U k ++ [(k : Int)] else frTo false U k:=rfl
set_option maxRecDepth 100000 in
set_option maxHeartbeats 4000000 in
theorem exOutside_any (pb m : Nat) (sa : Option Addr) (ns cs : Nat) (s : List Int) (az : Option Addr) (nz cz : Nat) (z : List Int) (w : World) (p4 : w.cell? ⟨pb,4,none⟩=some (.int .i64 m)) (hs : Ints w sa ns s) (hz : Ints w az nz z)
  (hnz : nz≤1000000) (hm : m≤1000) :
  Calls Tryz.prog 163 #[.pointer (some ⟨pb,0,none⟩),.slice sa ns cs,.slice az nz cz] w (NewInts w (outS m s z)):=by
 have Hzl:=Lib.hid hz.len
 have HP:=Lib.hid (fun (V : World) (hV : Below w.heap.size w V)=>cell_keep hV p4)
 go_enter Tryz.func163,Tryz.ntmps163
 go_wp2_with fail
 refine (values_any az nz cz w).mono ?_
 rintro e w1 ⟨rfl,rfl⟩
 have hb1 : Below w.heap.size w (w.alloc (.cells #[.slice az nz cz] 22)):=below1 _ _
 have HSo:=Lib.hid (sorted_any w.heap.size az nz cz z hnz (w.alloc (.cells #[.slice az nz cz] 22)) (by simp) (cell_alloc_at _ _ _ rfl 0) (hz.keep hb1))
 have hsz1 : w.heap.size≤(w.alloc (.cells #[.slice az nz cz] 22)).heap.size:=hb1.size
 generalize w.alloc (.cells #[.slice az nz cz] 22)=w1 at *
 go_wp2_with fail
 refine HSo.out.mono ?_
 rintro e w2 ⟨a2,c2,rfl,hown2,hb2⟩
 have hbw2:=Below.next hb1 hb2
 have p4':=HP.out w2 hbw2
 have hO2 : w2.ownsRow w.heap.size 3 1 (.slice a2 nz c2) nz ((sortL z).map (Value.int .i64)):=own_mono hown2 hsz1
 clear hown2 p4
 go_wp2_with fail
 go_loopw [7,17] (fun qv iv wr=>∃ (k : Nat) (aq : Option Addr) (cq : Nat) (out : List Int),k≤m∧iv = .int .i64 k∧qv = .slice aq out.length cq∧Hid (out=sortL z ++ frTo false (s ++ z) k)∧Hid (out.length≤nz+k) ∧
   wr.ownsRow w.heap.size 3 1 (.slice aq out.length cq) out.length (out.map (Value.int .i64))∧Below w.heap.size w wr)
  (fun _ iv _=>m - (intOf iv).toNat)
 case atStart =>
  refine ⟨0,a2,c2,sortL z,Nat.zero_le _,rfl,?_,?_,?_,?_,hbw2⟩
  ·rw [sortL_len,Hzl.out]
  ·show _=_;simp [frTo]
  ·show _≤_;rw [sortL_len,Hzl.out];omega
  ·rw [sortL_len,Hzl.out];exact hO2
 case round =>
  obtain ⟨k,aq,cq,out,hk,rfl,rfl,hst,hln,hop,hbr⟩:=hrel
  generalize wr=U at *
  by_cases hlt : k<m
  ·have hsU:=hs.keep hbr
   have hzU:=hz.keep hbr
   have hlen:=hln.out
   have Hskip : Hid (((k : Int) ∈ s ++ z)→out=sortL z ++ frTo false (s ++ z) (k+1)):=fun hmem=>by
    rw [frTo_step,if_neg (by rw [decide_eq_true hmem];decide)];exact hst.out
   have Htake : Hid (¬ ((k : Int) ∈ s ++ z)→out ++ [(k : Int)]=sortL z ++ frTo false (s ++ z) (k+1)):=fun hmem=>by
    rw [frTo_step,if_pos (by rw [decide_eq_false hmem]),← List.append_assoc,← hst.out]
   by_cases h1 : (k : Int) ∈ s
   ·have hmd : decide ((k : Int) ∈ s)=true:=by simpa using h1
    have HcA:=Lib.hid (contains_any sa ns cs s k U hsU)
    rw [hmd] at HcA
    have Hst : Hid (out=sortL z ++ frTo false (s ++ z) (k+1)):=Hskip.out (List.mem_append.2 (.inl h1))
    clear h1 hmd
    go_wp2_with fail
    refine HcA.out.mono ?_
    rintro e w6 ⟨rfl,rfl⟩
    go_wp2_with fail
    go_roundw
    case rel=>exact ⟨k+1,aq,cq,out,by omega,by go_num,rfl,Hst.out,(show _≤_ by omega),hop,hbr⟩
    case measure=>simp [intOf] <;> omega
   ·have hmd : decide ((k : Int) ∈ s)=false:=by simpa using h1
    have HcA:=Lib.hid (contains_any sa ns cs s k U hsU)
    rw [hmd] at HcA
    by_cases h2 : (k : Int) ∈ z
    ·have hmd2 : decide ((k : Int) ∈ z)=true:=by simpa using h2
     have HcB:=Lib.hid (contains_any az nz cz z k U hzU)
     rw [hmd2] at HcB
     have Hst : Hid (out=sortL z ++ frTo false (s ++ z) (k+1)):=Hskip.out (List.mem_append.2 (.inr h2))
     clear h1 hmd h2 hmd2
     go_wp2_with fail
     refine HcA.out.mono ?_
     rintro e w6 ⟨rfl,rfl⟩
     go_wp2_with fail
     refine HcB.out.mono ?_
     rintro e w7 ⟨rfl,rfl⟩
     go_wp2_with fail
     go_roundw
     case rel=>exact ⟨k+1,aq,cq,out,by omega,by go_num,rfl,Hst.out,(show _≤_ by omega),hop,hbr⟩
     case measure=>simp [intOf] <;> omega
    ·have hmd2 : decide ((k : Int) ∈ z)=false:=by simpa using h2
     have HcB:=Lib.hid (contains_any az nz cz z k U hzU)
     rw [hmd2] at HcB
     have Hst : Hid (out ++ [(k : Int)]=sortL z ++ frTo false (s ++ z) (k+1)):=Htake.out fun h=>by
      rcases List.mem_append.1 h with h | h
      ·exact h1 h
      ·exact h2 h
     have hcn:=cell_new U (.int .i64 k) 3
     have hbn:=below1 U (.cells #[.int .i64 k] 3)
     have hszU:=hbr.size
     clear h1 hmd h2 hmd2
     go_wp2_with fail
     refine HcA.out.mono ?_
     rintro e w6 ⟨rfl,rfl⟩
     go_wp2_with fail
     refine HcB.out.mono ?_
     rintro e w7 ⟨rfl,rfl⟩
     go_wp2_with (at_builtin;refine wpList_push rfl _ _ 22 3 rfl (.int .i64 0) 8 Tryz.underlying22 infoInt rfl w.heap.size aq out.length cq _ rfl (hop.alloc _) ⟨w7.heap.size,0,none⟩ 1 (.int .i64 k) rfl hcn rfl (by omega) (by unfold maxLen;omega) (by simp;omega) ?_;intro a5 c5 w5 hown5 hgr5 hap5)
     go_roundw
     case rel =>
      have hb5 : Below w.heap.size w w5:=Below.app (Below.trans hbr (hbn.mono hszU)) (hop.alloc _) hgr5 (Nat.le_refl _) (Nat.le_trans hszU hbn.size)
      refine ⟨k+1,a5,c5,out ++ [(k : Int)],by omega,by go_num,by simp,Hst.out,(show _≤_ by rw [List.length_append,List.length_singleton];omega),?_,hb5⟩
      simpa using hown5
     case measure=>simp [intOf] <;> omega
  ·obtain rfl : k=m:=by omega
   have Ho : Hid (outS k s z=out):=by show _=_;rw [outS,hst.out]
   go_wp2_with fail
   go_ret
   exact ⟨aq,cq,by rw [Ho.out];rfl,by rw [Ho.out];exact hop,hbr⟩
end

section
open Go.RowKit
end

end Go.Proofs.YtcflcogbpnmjeaaGreat
