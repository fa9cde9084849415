/-  -/
import Derived.Test.YtcflcogbpnmjeaaGreatK21
import Derived.Test.YtcflcogbpnmjeaaGreatHDU9
import Derived.Test.YtcflcogbpnmjeaaGreatK15
import Derived.Test.YtcflcogbpnmjeaaGreatHDU8
import Derived.Test.YtcflcogbpnmjeaaGreatK20
import Derived.Test.YtcflcogbpnmjeaaGreatK31
import Derived.Test.YtcflcogbpnmjeaaGreatK17
import Derived.Test.YtcflcogbpnmjeaaGreatK32
import Derived.Test.YtcflcogbpnmjeaaGreatHDU1
import Derived.Test.YtcflcogbpnmjeaaGreatHDU2
import Derived.Test.YtcflcogbpnmjeaaGreatHDU3
import Derived.Test.YtcflcogbpnmjeaaGreatK35
namespace Go.Proofs.YtcflcogbpnmjeaaGreat
set_option linter.unusedVariables false
set_option linter.unusedSimpArgs false
set_option linter.unusedSectionVars false

section
theorem dual_parts {P M : Int} {mod : List Int} {m : Nat} {L : List (List Int)} (hE : codeE P M mod m L=0) :
  Rws (tblOf P M.toNat mod).El m (dualL (tblOf P M.toNat mod) L m)∧Orth (tblOf P M.toNat mod).ops m L (dualL (tblOf P M.toNat mod) L m)∧L.length+(dualL (tblOf P M.toNat mod) L m).length=m ∧
  Rk (clV (tblOf P M.toNat mod).ops (tblOf P M.toNat mod).El (dualL (tblOf P M.toNat mod) L m).length (colS (dualL (tblOf P M.toNat mod) L m))) (List.range m) (dualL (tblOf P M.toNat mod) L m).length:=by
 obtain ⟨N',e,hm1,hm64,F,hR⟩:=codeE_fld hE
 obtain rfl : m=N':=by omega
 have h6:=(spaceE_zero (codeE_zero hE).2.2.2).2
 rw [Int.toNat_natCast] at h6
 have hcan : canO (tblOf P M.toNat mod).ops m L=L:=h6
 obtain ⟨hPv,hLd⟩:=canO_piv F hR
 have hcl:=canO_len F hR
 rw [hcan] at hPv hLd hcl
 have hK:=kerL_rws F hR hPv hcl
 have hdl : dualL (tblOf P M.toNat mod) L m=canO (tblOf P M.toNat mod).ops m (kerL (tblOf P M.toNat mod).ops m L (elimTo (tblOf P M.toNat mod).ops L m).2 m):=by
  unfold dualL pivS
  rw [h6]
  rfl
 obtain ⟨k1,k2⟩:=ker_canon F hR hPv hLd hcl
 have hKR:=canO_rws F hK
 have hrk:=canO_rk F hK
 rw [← hdl] at k1 k2 hKR hrk
 exact ⟨hKR,k2,k1,hrk⟩
theorem gA_len (Q : List Int) : (gA Q).length=Q.length:=by
 have hgl : ∀ k,(grL Q k).length=k:=fun k=>by
  induction k with
  | zero=>rfl
  | succ k ih=>rw [grL,List.length_cons,ih]
 exact hgl _
end

section
open Go.RowKit
section
variable {O : FOps} {El : Int→Prop} {m : Nat} {L : List (List Int)}
theorem comp_asc (t : List Int) : Asc 0 m (frTo false t m):=⟨frTo_pair false t m,fun x hx=>by obtain ⟨j,hj,rfl,_⟩:=(mem_frTo m).1 hx;omega⟩
theorem comp_comp {t : List Int} (ht : Asc 0 m t) : frTo false (frTo false t m) m=t:=by
 refine asc_ext (frTo_pair false _ m) ht.1 fun v=>?_
 rw [mem_frTo]
 constructor
 ·rintro ⟨j,hj,rfl,h⟩
  rw [decide_eq_false_iff_not] at h
  refine Classical.byContradiction fun hn=>h ((mem_frTo m).2 ⟨j,hj,rfl,by simpa using hn⟩)
 ·intro hv
  have h1:=ht.2 v hv
  refine ⟨v.toNat,by omega,by omega,?_⟩
  rw [decide_eq_false_iff_not]
  intro h2
  obtain ⟨j,hj,e,h3⟩:=(mem_frTo m).1 h2
  rw [decide_eq_false_iff_not] at h3
  refine h3 ?_
  have : (j : Int)=v:=by omega
  rw [this];exact hv
theorem used_asc {t : List Int} (ht : Asc 0 m t) : frTo true t m=t:=by
 refine asc_ext (frTo_pair true _ m) ht.1 fun v=>?_
 rw [mem_frTo]
 constructor
 ·rintro ⟨j,hj,rfl,h⟩
  exact of_decide_eq_true h
 ·intro hv
  have h1:=ht.2 v hv
  refine ⟨v.toNat,by omega,by omega,?_⟩
  rw [decide_eq_true_eq]
  have : (v.toNat : Int)=v:=by omega
  rw [this];exact hv
theorem comp_len {t : List Int} (ht : Asc 0 m t) : (frTo false t m).length+t.length=m:=by
 have h:=frTo_two t m
 rw [used_asc ht] at h
 exact h
theorem prf_spec (F : Fld O El) (hL : Rws El m L) (hm : m≤64) {i : Nat} (hi : i≤m) : (∀ t,Asc 0 m t→t.length=i→dimZ O L m t≤prfR O L m i)∧∃ t,Asc 0 m t∧t.length=i∧prfR O L m i=dimZ O L m t:=by
 obtain ⟨g1,g2,g3⟩:=mx_iff (dimZ O L m) (setsS m i 0) (setsS m i 0).length
 have hA : ∀ t,Asc 0 m t→t.length=i→dimZ O L m t≤prfR O L m i:=fun t ht hl=>by
  obtain ⟨q,hq,e⟩:=mem_nthR (mem_setsS.2 ⟨hl,ht⟩)
  have:=g2 q hq
  rw [e] at this
  exact this
 refine ⟨hA,?_⟩
 rcases g3 with g3 | ⟨j,a1,a2⟩
 ·obtain ⟨t,ht,hl⟩ : ∃ t,Asc 0 m t∧t.length=i:=by
   have h0 : Asc 0 m (frTo true ((List.range i).map fun (x : Nat)=>(x : Int)) m):=⟨frTo_pair true _ m,fun x hx=>by obtain ⟨j,hj,rfl,_⟩:=(mem_frTo m).1 hx;omega⟩
   have h1 : frTo true ((List.range i).map fun (x : Nat)=>(x : Int)) m=(List.range i).map fun (x : Nat)=>(x : Int):=by
    refine asc_ext (frTo_pair true _ m) ?_ fun v=>?_
    ·rw [List.pairwise_map]
     exact List.pairwise_lt_range.imp fun h=>by omega
    ·rw [mem_frTo]
     constructor
     ·rintro ⟨j,hj,rfl,h⟩
      exact of_decide_eq_true h
     ·intro hv
      obtain ⟨j,hj,rfl⟩:=List.mem_map.1 hv
      rw [List.mem_range] at hj
      exact ⟨j,by omega,rfl,by rw [decide_eq_true_eq];exact hv⟩
   rw [h1] at h0
   exact ⟨_,h0,by simp⟩
  refine ⟨t,ht,hl,?_⟩
  have h1:=hA t ht hl
  obtain ⟨x,hx,e⟩:=asc_bits hm ht
  have h2:=(dims_nn F hL hx).1
  rw [← dimZ_bits F hL hx,e] at h2
  have : prfR O L m i=0:=g3
  omega
 ·obtain ⟨b1,b2⟩:=mem_setsS.1 (nthR_mem a1)
  exact ⟨_,b2,b1,a2⟩
theorem prf_step (F : Fld O El) (hL : Rws El m L) (hm : m≤64) {i : Nat} (hi : i<m) : prfR O L m (i+1)≤prfR O L m i+1:=by
 obtain ⟨t,ht,hl,e⟩:=(prf_spec F hL hm (show i+1≤m by omega)).2
 obtain ⟨s,x,rfl⟩ : ∃ s x,t=s ++ [x]:=by
  rcases List.eq_nil_or_concat t with h | ⟨s,x,h⟩
  ·rw [h] at hl;simp at hl
  ·exact ⟨s,x,by simpa using h⟩
 have hs : Asc 0 m s:=⟨(List.pairwise_append.1 ht.1).1,fun y hy=>ht.2 y (by simp [hy])⟩
 have h1:=(prf_spec F hL hm (show i≤m by omega)).1 s hs (by simp at hl;omega)
 have h2 : rkQ O L (frTo false s m)≤rkQ O L (frTo false (s ++ [x]) m ++ [x]):=rkQ_mono F hL fun y hy=>by
  obtain ⟨j,hj,rfl,h⟩:=(mem_frTo m).1 hy
  rw [decide_eq_false_iff_not] at h
  by_cases hx : (j : Int)=x
  ·rw [hx];simp
  ·exact List.mem_append.2 (.inl ((mem_frTo m).2 ⟨j,hj,rfl,by simp [h,hx]⟩))
 have h3:=rkQ_snoc_le F hL (frTo false (s ++ [x]) m) x
 unfold dimZ at h1 e
 omega
end
section
variable {P M : Int} {mod : List Int} {m : Nat} {L : List (List Int)}
theorem dual_dim (hE : codeE P M mod m L=0) {t : List Int} (ht : Asc 0 m t) :
  dimZ (tblOf P M.toNat mod).ops (dualL (tblOf P M.toNat mod) L m) m t=t.length - L.length+dimZ (tblOf P M.toNat mod).ops L m (frTo false t m):=by
 obtain ⟨N',e,hm1,hm64,F,hR⟩:=codeE_fld hE
 obtain rfl : m=N':=by omega
 obtain ⟨hKR,hO,hlm,hrk⟩:=dual_parts hE
 have hfull:=code_full hE
 have hc:=comp_asc (m:=m) t
 have hcl:=comp_len ht
 have h1:=dual_rk F hR hKR hO hlm hfull hrk (S:=gA (frTo false t m)) (C:=gA t) (fun x hx=>by
  obtain ⟨y,hy,rfl⟩:=mem_gA.1 hx
  have:=hc.2 y hy
  omega) (fun x hx=>by
  obtain ⟨y,hy,rfl⟩:=mem_gA.1 hx
  have:=ht.2 y hy
  omega) (fun p hpm=>by
  by_cases hpA : (p : Int) ∈ t
  ·exact .inr (mem_gA.2 ⟨_,hpA,by simp⟩)
  ·exact .inl (mem_gA.2 ⟨(p : Int),(mem_frTo m).2 ⟨p,hpm,rfl,by simpa using hpA⟩,by simp⟩)) (by rw [gA_len,gA_len];exact hcl) (rkQ_rk F hR t) (rkQ_rk F hKR (frTo false t m))
 rw [gA_len] at h1
 unfold dimZ
 rw [comp_comp ht]
 omega
theorem prf_dual (hE : codeE P M mod m L=0) {i : Nat} (hi : i≤m) :
  prfR (tblOf P M.toNat mod).ops (dualL (tblOf P M.toNat mod) L m) m i=i - L.length+prfR (tblOf P M.toNat mod).ops L m (m - i):=by
 obtain ⟨N',e,hm1,hm64,F,hR⟩:=codeE_fld hE
 obtain rfl : m=N':=by omega
 obtain ⟨hKR,_,_,_⟩:=dual_parts hE
 obtain ⟨a1,t,a2,a3,a4⟩:=prf_spec F hKR hm64 hi
 obtain ⟨b1,s,b2,b3,b4⟩:=prf_spec F hR hm64 (show m - i≤m by omega)
 have h1:=b1 (frTo false t m) (comp_asc t) (by have:=comp_len a2;omega)
 have h2:=dual_dim hE a2
 have h3:=a1 (frTo false s m) (comp_asc s) (by have:=comp_len b2;omega)
 have h4:=dual_dim hE (comp_asc (m:=m) s)
 rw [comp_comp b2] at h4
 have h5:=comp_len b2
 rw [a3] at h2
 omega
theorem prf_mono (hE : codeE P M mod m L=0) : ∀ (d i : Nat),i+d≤m→prfR (tblOf P M.toNat mod).ops L m i≤prfR (tblOf P M.toNat mod).ops L m (i+d)
 | 0,i,_=>Int.le_refl _
 | d+1,i,hi=>by
  obtain ⟨N',e,hm1,hm64,F,hR⟩:=codeE_fld hE
  obtain rfl : m=N':=by omega
  have ih:=prf_mono hE d i (by omega)
  have h1:=prf_step F (dual_parts hE).1 hm64 (show m - (i+d) - 1<m by omega)
  rw [show m - (i+d) - 1+1=m - (i+d) by omega,prf_dual hE (by omega),prf_dual hE (by omega)] at h1
  rw [show m - (m - (i+d))=i+d by omega,show m - (m - (i+d) - 1)=i+(d+1) by omega] at h1
  omega
theorem prf_nul (hE : codeE P M mod m L=0) : prfR (tblOf P M.toNat mod).ops L m 0=0:=by
 obtain ⟨N',e,hm1,hm64,F,hR⟩:=codeE_fld hE
 obtain rfl : m=N':=by omega
 obtain ⟨_,t,a2,a3,a4⟩:=prf_spec F hR hm64 (Nat.zero_le m)
 obtain rfl : t=[]:=List.length_eq_zero_iff.1 a3
 have h1:=Rk.same (col_clo F hR) (code_full hE) (rkQ_rk F hR (frTo false [] m)) fun x=>by
  rw [List.mem_range,mem_gA]
  constructor
  ·intro hx
   exact ⟨(x : Int),(mem_frTo m).2 ⟨x,hx,rfl,by simp⟩,by simp⟩
  ·rintro ⟨y,hy,rfl⟩
   obtain ⟨j,hj,rfl,_⟩:=(mem_frTo m).1 hy
   simpa using hj
 rw [a4]
 unfold dimZ
 omega
theorem prf_zero (hE : codeE P M mod m L=0) : prfR (tblOf P M.toNat mod).ops L m 0=0∧prfR (tblOf P M.toNat mod).ops L m m=L.length:=by
 refine ⟨prf_nul hE,?_⟩
 have h1:=prf_nul (dual_code hE).1
 rw [prf_dual hE (Nat.zero_le m)] at h1
 rw [Nat.sub_zero] at h1
 omega
theorem wt_iff (hE : codeE P M mod m L=0) {v : Int} : v ∈ wtsR (tblOf P M.toNat mod).ops L m L.length ↔ ∃ i : Nat,i<m∧v=(i : Int)+1∧prfR (tblOf P M.toNat mod).ops L m (i+1)=prfR (tblOf P M.toNat mod).ops L m i+1:=by
 obtain ⟨N',e,hm1,hm64,F,hR⟩:=codeE_fld hE
 obtain rfl : m=N':=by omega
 obtain ⟨p0,pm⟩:=prf_zero hE
 have hfir : ∀ r : Int,1≤r→r≤L.length→∃ d : Nat,(firS (tblOf P M.toNat mod).ops L m r).length=d+1∧d<m∧prfR (tblOf P M.toNat mod).ops L m (d+1)=r∧prfR (tblOf P M.toNat mod).ops L m d=r - 1:=fun r h1 h2=>by
  obtain ⟨a1,a2,a3⟩:=fir_some F hR hm64 h2
  have hl:=asc_len a1 (Nat.zero_le m)
  obtain ⟨b1,_⟩:=prf_spec F hR hm64 (show (firS (tblOf P M.toNat mod).ops L m r).length≤m by omega)
  have h3:=b1 _ a1 rfl
  have hne : (firS (tblOf P M.toNat mod).ops L m r).length ≠ 0:=fun h=>by rw [h] at h3;omega
  obtain ⟨d,hd⟩ : ∃ d,(firS (tblOf P M.toNat mod).ops L m r).length=d+1:=⟨(firS (tblOf P M.toNat mod).ops L m r).length - 1,by omega⟩
  rw [hd] at h3 hl
  have h4:=prf_step F hR hm64 (show d<m by omega)
  obtain ⟨_,t,c1,c2,c3⟩:=prf_spec F hR hm64 (show d≤m by omega)
  have h5 : prfR (tblOf P M.toNat mod).ops L m d<r:=by
   rcases Int.lt_or_le (prfR (tblOf P M.toNat mod).ops L m d) r with h | h
   ·exact h
   ·have:=a3 t c1 (by rw [← c3];exact h)
    omega
  exact ⟨d,hd,by omega,by omega,by omega⟩
 unfold wtsR
 rw [List.mem_map]
 constructor
 ·rintro ⟨r,hr,rfl⟩
  rw [List.mem_range] at hr
  obtain ⟨d,h1,h2,h3,h4⟩:=hfir ((r : Int)+1) (by omega) (by omega)
  exact ⟨d,h2,by rw [h1];omega,by omega⟩
 ·rintro ⟨i,hi,rfl,h⟩
  have q0:=prf_mono hE i 0 (by omega)
  have qm:=prf_mono hE (m - (i+1)) (i+1) (by omega)
  rw [Nat.zero_add,p0] at q0
  rw [show i+1+(m - (i+1))=m by omega,pm] at qm
  refine ⟨(prfR (tblOf P M.toNat mod).ops L m i).toNat,by rw [List.mem_range];omega,?_⟩
  have e1 : (((prfR (tblOf P M.toNat mod).ops L m i).toNat : Nat) : Int)+1=prfR (tblOf P M.toNat mod).ops L m (i+1):=by omega
  rw [e1]
  obtain ⟨d,h1,h2,h3,h4⟩:=hfir (prfR (tblOf P M.toNat mod).ops L m (i+1)) (by omega) (by omega)
  rw [h1]
  have : d=i:=by
   rcases Nat.lt_trichotomy d i with h5 | h5 | h5
   ·have:=prf_mono hE (i - (d+1)) (d+1) (by omega)
    rw [show d+1+(i - (d+1))=i by omega] at this
    omega
   ·exact h5
   ·have:=prf_mono hE (d - (i+1)) (i+1) (by omega)
    rw [show i+1+(d - (i+1))=d by omega] at this
    omega
  omega
theorem wts_asc (hE : codeE P M mod m L=0) : (wtsR (tblOf P M.toNat mod).ops L m L.length).Pairwise (· < ·):=by
 obtain ⟨N',e,hm1,hm64,F,hR⟩:=codeE_fld hE
 obtain rfl : m=N':=by omega
 unfold wtsR
 rw [List.pairwise_map]
 refine List.pairwise_lt_range.imp_of_mem fun {r s} hr hs h=>?_
 rw [List.mem_range] at hr hs
 obtain ⟨a1,a2,a3⟩:=fir_some F hR hm64 (show (r : Int)+1≤L.length by omega)
 obtain ⟨b1,b2,b3⟩:=fir_some F hR hm64 (show (s : Int)+1≤L.length by omega)
 have h1:=a3 _ b1 (by omega)
 have hl:=asc_len a1 (Nat.zero_le m)
 have hl2:=asc_len b1 (Nat.zero_le m)
 obtain ⟨p0,_⟩:=prf_zero hE
 have c1:=(prf_spec F hR hm64 (show (firS (tblOf P M.toNat mod).ops L m ((s : Int)+1)).length≤m by omega)).1 _ b1 rfl
 have hne : (firS (tblOf P M.toNat mod).ops L m ((s : Int)+1)).length ≠ 0:=fun h=>by rw [h] at c1;omega
 obtain ⟨d,hd⟩ : ∃ d,(firS (tblOf P M.toNat mod).ops L m ((s : Int)+1)).length=d+1:=⟨(firS (tblOf P M.toNat mod).ops L m ((s : Int)+1)).length - 1,by omega⟩
 rw [hd] at c1 h1 hl2
 have h4:=prf_step F hR hm64 (show d<m by omega)
 obtain ⟨_,t,t1,t2,t3⟩:=prf_spec F hR hm64 (show d≤m by omega)
 have:=a3 t t1 (by omega)
 rw [hd]
 omega
theorem wts_good (hE : codeE P M mod m L=0) : ∀ i,i<(wtsR (tblOf P M.toNat mod).ops L m L.length).length→DGood m (wtsR (tblOf P M.toNat mod).ops L m L.length) i:=fun i hi=>by
 obtain ⟨j,hj,e,_⟩:=(wt_iff hE).1 (nth_mem hi)
 refine ⟨by omega,by omega,?_⟩
 rcases Nat.eq_zero_or_pos i with h0 | h0
 ·exact .inl h0
 ·refine .inr ?_
  have h3:=List.pairwise_iff_getElem.1 (wts_asc hE) (i - 1) i (by omega) hi (by omega)
  rw [nth_getElem hi,nth_getElem (show i - 1<(wtsR (tblOf P M.toNat mod).ops L m L.length).length by omega)]
  exact h3
theorem wei (hE : codeE P M mod m L=0) : duaS (wtsR (tblOf P M.toNat mod).ops L m L.length) m=wtsR (tblOf P M.toNat mod).ops (dualL (tblOf P M.toNat mod) L m) m (dualL (tblOf P M.toNat mod) L m).length:=by
 obtain ⟨N',e,hm1,hm64,F,hR⟩:=codeE_fld hE
 obtain rfl : m=N':=by omega
 refine asc_ext (duaTo_pair _ _ _) (wts_asc (dual_code hE).1) fun v=>?_
 unfold duaS
 rw [mem_duaTo,wt_iff (dual_code hE).1]
 have key : ∀ j : Nat,j<m→((((m - j : Nat) : Int) ∈ wtsR (tblOf P M.toNat mod).ops L m L.length) ↔ ¬ prfR (tblOf P M.toNat mod).ops (dualL (tblOf P M.toNat mod) L m) m (j+1)=prfR (tblOf P M.toNat mod).ops (dualL (tblOf P M.toNat mod) L m) m j+1):=fun j hj=>by
  rw [wt_iff hE,prf_dual hE (show j+1≤m by omega),prf_dual hE (show j≤m by omega)]
  have s1:=prf_step F hR hm64 (show m - (j+1)<m by omega)
  have s2:=prf_mono hE 1 (m - (j+1)) (by omega)
  have e1 : m - (j+1)+1=m - j:=by omega
  rw [e1] at s1 s2
  constructor
  ·rintro ⟨i,hi,e2,h⟩
   obtain rfl : i=m - (j+1):=by omega
   rw [e1] at h
   omega
  ·intro h
   refine ⟨m - (j+1),by omega,by omega,?_⟩
   rw [e1]
   omega
 constructor
 ·rintro ⟨j,hj,rfl,h⟩
  refine ⟨j,hj,rfl,Classical.byContradiction fun hn=>h ((key j hj).2 hn)⟩
 ·rintro ⟨j,hj,rfl,h⟩
  exact ⟨j,hj,rfl,fun hn=>(key j hj).1 hn h⟩
end
end

section
open Go.RowKit
set_option maxRecDepth 100000 in
set_option maxHeartbeats 3200000 in
theorem rSmall29_any (P M : Int) (am : Option Addr) (mn cm : Nat) (mod : List Int) (N : Int) (a : Option Addr) (n c : Nat) (L : List (List Int)) (w : World) (hmod : Ints w am mn mod) (hi : Mat w a n L) :
  Calls Tryz.prog 27 #[.agg #[.int .i64 P,.int .i64 M,.slice am mn cm,.int .i64 N,.slice a n c]] w (SomeBool w):=by
 have H : Hid (∀ V,Below w.heap.size w V→Calls Tryz.prog 44 #[.agg #[.int .i64 P,.int .i64 M,.slice am mn cm,.int .i64 N,.slice a n c],.int .i64 120] V (SomeBool V)):=fun V hV=>rFew12_any P M am mn cm N a n c 120 L V (hi.keep hV) (by omega)
 have H2 : Hid (∀ V,Below w.heap.size w V→Calls Tryz.prog 47 #[.agg #[.int .i64 P,.int .i64 M,.slice am mn cm,.int .i64 N,.slice a n c]] V fun e w'=>e = .returned (.int .i64 (codeE P M mod N L))∧Below V.heap.size V w'):=fun V hV=>rCheck_any P M am mn cm mod N a n c L V (hmod.keep hV) (hi.keep hV)
 clear hi hmod
 go_enter Tryz.func27,Tryz.ntmps27
 go_upto_region 1 with fail
 obtain ⟨W,hW⟩ : ∃ W : World,W=w.alloc (.cells #[.int .i64 P,.int .i64 M,.slice am mn cm,.int .i64 N,.slice a n c] 27):=⟨_,rfl⟩
 rw [← hW]
 have hbW : Below w.heap.size w W:=by rw [hW];exact below1 _ _
 have x0 : Box W w.heap.size [.int .i64 P,.int .i64 M,.slice am mn cm,.int .i64 N,.slice a n c]:=by rw [hW];exact Box.new _ _ _ rfl
 have HX:=Lib.hid x0
 have c0:=x0.cell 0 rfl
 have c1:=x0.cell 1 rfl
 have c2:=x0.cell 2 rfl
 have c3:=x0.cell 3 rfl
 have c4:=x0.cell 4 rfl
 clear hW x0
 have Hf:=Lib.hid (H.out W hbW)
 generalize codeE P M mod N L=er at *
 clear H
 go_wp2_with fail
 refine Hf.out.mono ?_
 rintro e w1 ⟨z,rfl,hb1⟩
 have hF:=Below.next hbW hb1
 clear c0 c1 c2 c3 c4
 cases z
 ·go_wp2_with fail
  go_ret
  exact ⟨_,rfl,hF⟩
 have x1:=HX.out.keep hb1
 have c0:=x1.cell 0 rfl
 have c1:=x1.cell 1 rfl
 have c2:=x1.cell 2 rfl
 have c3:=x1.cell 3 rfl
 have c4:=x1.cell 4 rfl
 clear x1
 go_wp2_with fail
 refine (H2.out w1 hF).mono ?_
 rintro e w2 ⟨rfl,hb2⟩
 have hF2:=Below.next hF hb2
 have q3:=(HX.out.keep (Below.next hb1 hb2)).cell 3 rfl
 clear c0 c1 c2 c3 c4
 by_cases hE : er=0
 ·have d0 : (er != 0)=false:=by simpa using hE
  clear hE
  by_cases h1 : 16<N
  ·have d1 : decide (16<N)=true:=by simpa using h1
   clear h1
   go_wp2_with fail
   go_ret
   exact ⟨_,rfl,hF2⟩
  ·have d1 : decide (16<N)=false:=by simpa using h1
   clear h1
   go_wp2_with fail
   go_ret
   exact ⟨_,rfl,hF2⟩
 ·have d0 : (er != 0)=true:=by simpa using hE
  clear hE
  go_wp2_with fail
  go_ret
  exact ⟨_,rfl,hF2⟩
def wtsX (P M : Int) (mod : List Int) (N : Int) (L : List (List Int)) : List Int:=if dimE P M mod N L=0 then wtsR (tblOf P M.toNat mod).ops L N.toNat L.length else []
def duaX (l : List Int) (N : Int) : List Int:=if duaE l N=0 then duaS l N.toNat else []
theorem dimE_rws {P M : Int} {mod : List Int} {N : Int} {L : List (List Int)} (h : dimE P M mod N L=0) : ∃ (m : Nat),N=m∧1≤m∧m≤16∧Fld (tblOf P M.toNat mod).ops (tblOf P M.toNat mod).El∧Rws (tblOf P M.toNat mod).El m L:=by
 obtain ⟨hE,h1,h16⟩:=dimE_zero h
 obtain ⟨m,hm,hm1,hm64,F,hR⟩:=codeE_fld hE
 exact ⟨m,hm,hm1,by omega,F,hR⟩
section
variable (P M : Int) (am : Option Addr) (mn cm : Nat) (mod : List Int) (N : Int) (a : Option Addr) (n c : Nat) (L : List (List Int)) (w : World)
theorem weights_u (hmod : Ints w am mn mod) (hi : Mat w a n L) :
  Calls Tryz.prog 28 #[.agg #[.int .i64 P,.int .i64 M,.slice am mn cm,.int .i64 N,.slice a n c]] w (PairU (dimE P M mod N L) (wtsX P M mod N L) w):=by
 refine (weights_any P M am mn cm mod N a n c L w hmod hi).mono ?_
 rintro e w' ⟨hb,⟨h0,rfl⟩ | ⟨h0,a',c',rfl,h⟩⟩
 ·exact pair_no hb h0
 ·refine pair_ok hb h0 ?_
  obtain ⟨m,rfl,hm1,hm16,F,hR⟩:=dimE_rws h0
  rw [Int.toNat_natCast] at h ⊢
  rw [← wts_eq F hR (by omega)]
  exact (Ints.own h).1
theorem duality_u (l : List Int) (hi : Ints w a n l) :
  Calls Tryz.prog 38 #[.slice a n c,.int .i64 N] w (PairU (duaE l N) (duaX l N) w):=by
 refine (duality_any a n c l N w hi).mono ?_
 rintro e w' ⟨hb,⟨h0,rfl⟩ | ⟨h0,a',c',rfl,h⟩⟩
 ·exact pair_no hb h0
 ·exact pair_ok hb h0 (Ints.own h).1
end
end

section
open Go.RowKit
theorem dimE_small {P M : Int} {mod : List Int} {m : Nat} {L : List (List Int)} (hE : codeE P M mod m L=0) (hm : m≤16) : dimE P M mod m L=0:=by
 unfold dimE
 rw [if_pos hE,if_neg (by omega)]
theorem wtsX_small {P M : Int} {mod : List Int} {m : Nat} {L : List (List Int)} (hE : codeE P M mod m L=0) (hm : m≤16) : wtsX P M mod m L=wtsR (tblOf P M.toNat mod).ops L m L.length:=by
 unfold wtsX
 rw [if_pos (dimE_small hE hm),Int.toNat_natCast]
theorem wtsR_len (O : FOps) (L : List (List Int)) (m k : Nat) : (wtsR O L m k).length=k:=by simp [wtsR]
set_option maxRecDepth 100000 in
set_option maxHeartbeats 4000000 in
theorem hLawDuality_any (P M : Int) (am : Option Addr) (mn cm : Nat) (mod : List Int) (N : Int) (a : Option Addr) (n c : Nat) (L : List (List Int)) (w : World) (hmod : Ints w am mn mod) (hi : Mat w a n L) :
  Calls Tryz.prog 11 #[.agg #[.int .i64 P,.int .i64 M,.slice am mn cm,.int .i64 N,.slice a n c]] w fun e w'=>e = .returned (.bool true)∧Below w.heap.size w w':=by
 have HSm : Hid (∀ V,Below w.heap.size w V→Calls Tryz.prog 27 #[.agg #[.int .i64 P,.int .i64 M,.slice am mn cm,.int .i64 N,.slice a n c]] V (SomeBool V)):=fun V hV=>rSmall29_any P M am mn cm mod N a n c L V (hmod.keep hV) (hi.keep hV)
 have HCk:=Lib.hid (fun V (hV : Below w.heap.size w V)=>rCheck_any P M am mn cm mod N a n c L V (hmod.keep hV) (hi.keep hV))
 have Hmi:=Lib.hid (And.intro hmod hi)
 clear hmod hi
 go_enter Tryz.func11,Tryz.ntmps11
 go_wp2_with fail
 obtain ⟨W,hW⟩ : ∃ W : World,W=w.alloc (.cells #[.int .i64 P,.int .i64 M,.slice am mn cm,.int .i64 N,.slice a n c] 27):=⟨_,rfl⟩
 rw [← hW]
 have hbW : Below w.heap.size w W:=by rw [hW];exact below1 _ _
 have x0 : Box W w.heap.size [.int .i64 P,.int .i64 M,.slice am mn cm,.int .i64 N,.slice a n c]:=by rw [hW];exact Box.new _ _ _ rfl
 have HS : Hid (∀ V,Below W.heap.size W V→V.cell? ⟨w.heap.size,0,none⟩=some (.int .i64 P)∧V.cell? ⟨w.heap.size,1,none⟩=some (.int .i64 M)∧V.cell? ⟨w.heap.size,2,none⟩=some (.slice am mn cm)∧V.cell? ⟨w.heap.size,3,none⟩=some (.int .i64 N)∧V.cell? ⟨w.heap.size,4,none⟩=some (.slice a n c)):=fun V hV=>by
  have x1:=x0.keep hV
  exact ⟨x1.cell 0 rfl,x1.cell 1 rfl,x1.cell 2 rfl,x1.cell 3 rfl,x1.cell 4 rfl⟩
 have HbW:=Lib.hid hbW
 clear hW x0 hbW
 refine (awake29_any W).mono ?_
 rintro e w1 ⟨rfl,hb1⟩
 obtain ⟨c0,c1,c2,c3,c4⟩:=HS.out w1 hb1
 go_wp2_with fail
 refine (HSm.out w1 (Below.next HbW.out hb1)).mono ?_
 rintro e w2 ⟨z,rfl,hb2⟩
 have hB2:=Below.next hb1 hb2
 clear c0 c1 c2 c3 c4
 cases z
 ·go_wp2_with fail
  refine (awake29_any w2).mono ?_
  rintro e w3 ⟨rfl,hb3⟩
  have hF:=Below.next HbW.out (Below.next hB2 hb3)
  go_wp2_with fail
  go_ret
  exact ⟨rfl,hF⟩
 obtain ⟨c0,c1,c2,c3,c4⟩:=HS.out w2 hB2
 have Hck:=Lib.hid (HCk.out w2 (Below.next HbW.out hB2))
 go_wp2_with fail
 refine Hck.out.mono ?_
 rintro e w3 ⟨rfl,hb3⟩
 have hB3:=Below.next hB2 hb3
 clear c0 c1 c2 c3 c4 Hck HCk hb1 hb2 hb3
 by_cases hE : codeE P M mod N L=0
 rotate_left
 ·have hE2 : (codeE P M mod N L != 0)=true:=by simpa using hE
  clear hE
  generalize codeE P M mod N L=er at *
  go_wp2_with fail
  refine (awake29_any w3).mono ?_
  rintro e w4 ⟨rfl,hb4⟩
  have hF:=Below.next HbW.out (Below.next hB3 hb4)
  go_wp2_with fail
  go_ret
  exact ⟨rfl,hF⟩
 rw [hE]
 obtain ⟨m,rfl,hm1,hm64,F,hR⟩:=codeE_fld hE
 obtain ⟨c0,c1,c2,c3,c4⟩:=HS.out w3 hB3
 by_cases h9 : 9<m
 ·have h9' : (9 : Int)<(m : Int):=by omega
  have d1 : decide ((9 : Int)<(m : Int))=true:=by simpa using h9'
  clear h9 h9' hE
  go_wp2_with fail
  refine (awake29_any w3).mono ?_
  rintro e w4 ⟨rfl,hb4⟩
  have hF:=Below.next HbW.out (Below.next hB3 hb4)
  go_wp2_with fail
  go_ret
  exact ⟨rfl,hF⟩
 have h9' : ¬ (9 : Int)<(m : Int):=by omega
 have d1 : decide ((9 : Int)<(m : Int))=false:=by simpa using h9'
 have hm9 : m≤9:=by omega
 have hmn : mn≤1000000:=by have h:=mod_len (codeE_zero hE).1;rw [Hmi.out.1.len] at h;omega
 have hlen:=(dual_parts hE).2.2.1
 have hDE:=(dual_code hE).1
 have HD:=Lib.hid (fun V (hV : Below w.heap.size w V)=>dual_any P M am mn cm mod m a n c L V (Hmi.out.1.keep hV) (Hmi.out.2.keep hV) hE hmn)
 have H1 : Hid (∀ V,Below w.heap.size w V→Calls Tryz.prog 28 #[.agg #[.int .i64 P,.int .i64 M,.slice am mn cm,.int .i64 m,.slice a n c]] V (PairU 0 (wtsR (tblOf P M.toNat mod).ops L m L.length) V)):=fun V hV=>by
  have h:=weights_u P M am mn cm mod m a n c L V (Hmi.out.1.keep hV) (Hmi.out.2.keep hV)
  rw [dimE_small hE (by omega),wtsX_small hE (by omega)] at h
  exact h
 obtain ⟨D,hD⟩ : ∃ D,dualL (tblOf P M.toNat mod) L m=D:=⟨_,rfl⟩
 have hwei:=wei hE
 unfold DualPost at HD
 rw [hD] at HD hwei hDE hlen
 have H2 : Hid (∀ V a1 n1 k1 a2 n2 k2,Ints V a1 n1 mod→Mat V a2 n2 D→Calls Tryz.prog 28 #[.agg #[.int .i64 P,.int .i64 M,.slice a1 n1 k1,.int .i64 m,.slice a2 n2 k2]] V (PairU 0 (wtsR (tblOf P M.toNat mod).ops D m D.length) V)):=fun V a1 n1 k1 a2 n2 k2 h1 h2=>by
  have h:=weights_u P M a1 n1 k1 mod m a2 n2 k2 D V h1 h2
  rw [dimE_small hDE (by omega),wtsX_small hDE (by omega)] at h
  exact h
 have H3 : Hid (∀ V a1 n1 k1,Ints V a1 n1 (wtsR (tblOf P M.toNat mod).ops L m L.length)→Calls Tryz.prog 38 #[.slice a1 n1 k1,.int .i64 m] V (PairU 0 (wtsR (tblOf P M.toNat mod).ops D m D.length) V)):=fun V a1 n1 k1 h1=>by
  have h:=duality_u m a1 n1 k1 V _ h1
  have h0 : duaE (wtsR (tblOf P M.toNat mod).ops L m L.length) m=0:=by
   unfold duaE
   rw [if_pos ⟨by omega,by omega,wts_good hE⟩]
  have hX : duaX (wtsR (tblOf P M.toNat mod).ops L m L.length) m=wtsR (tblOf P M.toNat mod).ops D m D.length:=by
   unfold duaX
   rw [if_pos h0,Int.toNat_natCast]
   exact hwei
  rw [h0,hX] at h
  exact h
 have HX:=Lib.hid (wtsR_len (tblOf P M.toNat mod).ops L m L.length)
 have HY:=Lib.hid (wtsR_len (tblOf P M.toNat mod).ops D m D.length)
 have Hlen:=Lib.hid hlen
 clear hE hwei hDE hD h9 h9' hlen F hR hmn
 generalize wtsR (tblOf P M.toNat mod).ops L m L.length=X at *
 generalize wtsR (tblOf P M.toNat mod).ops D m D.length=Y at *
 obtain ⟨nd,hnd⟩ : ∃ nd,D.length=nd:=⟨_,rfl⟩
 rw [hnd] at HD HY Hlen
 have Hnd:=Lib.hid hnd
 clear hnd
 go_wp2_with fail
 refine (HD.out w3 (Below.next HbW.out hB3)).mono ?_
 rintro e w4 ⟨a1,k1,a2,k2,rfl,h1,h2,hb4⟩
 obtain ⟨nm,hnm⟩ : ∃ nm,mod.length=nm:=⟨_,rfl⟩
 rw [hnm] at h1 ⊢
 have t4:=below1 w4 (.cells #[.int .i64 P,.int .i64 M,.slice a1 nm k1,.int .i64 m,.slice a2 nd k2] 27)
 have y4 : Box (w4.alloc (.cells #[.int .i64 P,.int .i64 M,.slice a1 nm k1,.int .i64 m,.slice a2 nd k2] 27)) w4.heap.size [.int .i64 P,.int .i64 M,.slice a1 nm k1,.int .i64 m,.slice a2 nd k2]:=Box.new _ _ _ rfl
 have hB4:=Below.next hB3 (Below.next hb4 t4)
 have HP : Hid (∀ V,Below (w4.alloc (.cells #[.int .i64 P,.int .i64 M,.slice a1 nm k1,.int .i64 m,.slice a2 nd k2] 27)).heap.size (w4.alloc (.cells #[.int .i64 P,.int .i64 M,.slice a1 nm k1,.int .i64 m,.slice a2 nd k2] 27)) V→Box V w4.heap.size [.int .i64 P,.int .i64 M,.slice a1 nm k1,.int .i64 m,.slice a2 nd k2]∧Ints V a1 nm mod∧Mat V a2 nd D):=fun V hV=>⟨y4.keep hV,(h1.ints.keep t4).keep hV,(h2.mat.keep t4).keep hV⟩
 clear c0 c1 c2 c3 c4 h1 h2 y4 hnm hb4 t4
 obtain ⟨c0,c1,c2,c3,c4⟩:=HS.out _ hB4
 go_wp2_with fail
 refine (H1.out _ (Below.next HbW.out hB4)).mono ?_
 rintro e w5 ⟨hb5,a3,n3,k3,rfl,h3⟩
 have hB5:=Below.next hB4 hb5
 obtain ⟨z5,i5,m5⟩:=HP.out w5 hb5
 clear c0 c1 c2 c3 c4
 have c0:=z5.cell 0 rfl
 have c1:=z5.cell 1 rfl
 have c2:=z5.cell 2 rfl
 have c3:=z5.cell 3 rfl
 have c4:=z5.cell 4 rfl
 have Hq:=Lib.hid (H2.out w5 a1 nm k1 a2 nd k2 i5 m5)
 clear z5 i5 m5 H2
 go_wp2_with fail
 refine Hq.out.mono ?_
 rintro e w6 ⟨hb6,a4,n4,k4,rfl,h4⟩
 have hB6:=Below.next hB5 hb6
 have e3:=h3.len
 have e4:=h4.len
 have hn3 : n3≤9:=by have:=HX.out;have:=Hlen.out;have:=Hnd.out;omega
 have hn4 : n4≤9:=by have:=HY.out;have:=Hlen.out;have:=Hnd.out;omega
 have hsum : ((((n3 : Int)+(n4 : Int))) == (m : Int))=true:=by have:=HX.out;have:=HY.out;have:=Hlen.out;have:=Hnd.out;simp;omega
 clear c0 c1 c2 c3 c4 e3 e4 Hq
 obtain ⟨c0,c1,c2,c3,c4⟩:=HS.out _ hB6
 go_wp2_with fail
 refine (H3.out w6 a3 n3 k3 (h3.keep hb6)).mono ?_
 rintro e w7 ⟨hb7,a5,n5,k5,rfl,h5⟩
 have hB7:=Below.next hB6 hb7
 clear c0 c1 c2 c3 c4
 obtain ⟨c0,c1,c2,c3,c4⟩:=HS.out _ hB7
 have Hc:=Lib.hid (sameInts_t a5 n5 k5 Y a4 n4 k4 h5 (h4.keep hb7))
 have hF:=Below.next HbW.out hB7
 clear h3 h4 h5
 go_wp2_with fail
 refine Hc.out.mono ?_
 rintro e w8 ⟨rfl,r8⟩
 have hF8:=Below.next hF r8.below
 go_wp2_with fail
 go_ret
 exact ⟨rfl,hF8⟩
end

end Go.Proofs.YtcflcogbpnmjeaaGreat
