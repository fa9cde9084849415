/-  -/
import Derived.Test.YtcflcogbpnmjeaaGreatK21
import Derived.Test.YtcflcogbpnmjeaaGreatK15
import Derived.Test.YtcflcogbpnmjeaaGreatK20
import Derived.Test.YtcflcogbpnmjeaaGreatK18
import Derived.Laws.Bits64
import Derived.Laws.Bits64b
import Derived.Test.YtcflcogbpnmjeaaGreatK22
import Derived.Test.YtcflcogbpnmjeaaGreatK19
namespace Go.Proofs.YtcflcogbpnmjeaaGreat
set_option linter.unusedVariables false
set_option linter.unusedSimpArgs false
set_option linter.unusedSectionVars false

section
open Go.RowKit
def cmpL : List Int→List Int→Int
 | [],[]=>0
 | [],_ :: _=>-1
 | _ :: _,[]=>1
 | x :: a,y :: b=>if x<y then -1 else if y<x then 1 else cmpL a b
def lessS (a b : List Int) : Bool:=decide (a.length<b.length) || (decide (a.length=b.length) && decide (cmpL a b<0))
def witTo (l : List Int) (n : Nat) (r : Int) : Nat→Bool × List Int
 | 0=>(false,[])
 | k+1=>if nth l k<r then witTo l n r k else if (witTo l n r k).1=false∨lessS (bitsTo k n) (witTo l n r k).2=true then (true,bitsTo k n) else witTo l n r k
theorem cmpL_trans : ∀ {a b c : List Int},cmpL a b<0→cmpL b c<0→cmpL a c<0
 | [],[],_,h,_=>by simp [cmpL] at h
 | [],y :: b,[],_,h=>by simp [cmpL] at h
 | [],y :: b,z :: c,_,_=>by simp [cmpL]
 | x :: a,[],_,h,_=>by simp [cmpL] at h
 | x :: a,y :: b,[],_,h=>by simp [cmpL] at h
 | x :: a,y :: b,z :: c,h1,h2=>by
  rw [cmpL] at h1 h2 ⊢
  by_cases xy : x<y
  ·by_cases yz : y<z
   ·rw [if_pos (by omega)];decide
   ·rw [if_neg yz] at h2
    by_cases zy : z<y
    ·rw [if_pos zy] at h2;omega
    ·rw [if_pos (by omega)];decide
  ·rw [if_neg xy] at h1
   by_cases yx : y<x
   ·rw [if_pos yx] at h1;omega
   ·rw [if_neg yx] at h1
    by_cases yz : y<z
    ·rw [if_pos (by omega)];decide
    ·rw [if_neg yz] at h2
     by_cases zy : z<y
     ·rw [if_pos zy] at h2;omega
     ·rw [if_neg zy] at h2
      rw [if_neg (by omega),if_neg (by omega)]
      exact cmpL_trans h1 h2
theorem lessS_iff {a b : List Int} : lessS a b=true ↔ a.length<b.length∨a.length=b.length∧cmpL a b<0:=by
 unfold lessS
 rw [Bool.or_eq_true,Bool.and_eq_true,decide_eq_true_eq,decide_eq_true_eq,decide_eq_true_eq]
theorem lessS_trans {a b c : List Int} (h1 : lessS a b=true) (h2 : lessS b c=true) : lessS a c=true:=by
 rw [lessS_iff] at h1 h2 ⊢
 rcases h1 with h1 | ⟨h1,k1⟩
 ·rcases h2 with h2 | ⟨h2,_⟩
  ·exact .inl (by omega)
  ·exact .inl (by omega)
 ·rcases h2 with h2 | ⟨h2,k2⟩
  ·exact .inl (by omega)
  ·exact .inr ⟨by omega,cmpL_trans k1 k2⟩
theorem cmpL_self : ∀ a : List Int,cmpL a a=0
 | []=>rfl
 | x :: a=>by rw [cmpL,if_neg (by omega),if_neg (by omega)];exact cmpL_self a
theorem lessS_self (a : List Int) : lessS a a=false:=by
 rw [Bool.eq_false_iff];intro h
 rw [lessS_iff,cmpL_self] at h
 omega
theorem wit_best (l : List Int) (n : Nat) (r : Int) : ∀ k,((witTo l n r k).1=false→∀ j,j<k→nth l j<r) ∧
  ((witTo l n r k).1=true→(∃ j,j<k∧¬ nth l j<r∧(witTo l n r k).2=bitsTo j n)∧∀ j,j<k→¬ nth l j<r→lessS (bitsTo j n) (witTo l n r k).2=false)
 | 0=>⟨fun _ j hj=>by omega,fun h=>by simp [witTo] at h⟩
 | k+1=>by
  obtain ⟨h1,h2⟩:=wit_best l n r k
  rw [witTo]
  by_cases hr : nth l k<r
  ·rw [if_pos hr]
   refine ⟨fun h j hj=>?_,fun h=>?_⟩
   ·by_cases e : j=k
    ·subst e;exact hr
    ·exact h1 h j (by omega)
   ·obtain ⟨⟨j,g1,g2⟩,g3⟩:=h2 h
    refine ⟨⟨j,by omega,g2⟩,fun j hj hn=>?_⟩
    by_cases e : j=k
    ·subst e;exact absurd hr hn
    ·exact g3 j (by omega) hn
  ·rw [if_neg hr]
   by_cases hc : (witTo l n r k).1=false∨lessS (bitsTo k n) (witTo l n r k).2=true
   ·rw [if_pos hc]
    refine ⟨fun h=>(by cases h),fun _=>⟨⟨k,by omega,hr,rfl⟩,fun j hj hn=>?_⟩⟩
    show lessS (bitsTo j n) (bitsTo k n)=false
    by_cases e : j=k
    ·subst e;exact lessS_self _
    ·rw [Bool.eq_false_iff];intro hl
     rcases hc with hc | hc
     ·exact hn (h1 hc j (by omega))
     ·cases hw : (witTo l n r k).1 with
      | false=>exact hn (h1 hw j (by omega))
      | true =>
       have:=(h2 hw).2 j (by omega) hn
       rw [lessS_trans hl hc] at this
       cases this
   ·rw [if_neg hc]
    have hw : (witTo l n r k).1=true:=by
     cases hw : (witTo l n r k).1 with
     | false=>exact absurd (.inl hw) hc
     | true=>rfl
    have hlk : lessS (bitsTo k n) (witTo l n r k).2=false:=by
     cases hw2 : lessS (bitsTo k n) (witTo l n r k).2 with
     | false=>rfl
     | true=>exact absurd (.inr hw2) hc
    refine ⟨fun h=>(by rw [hw] at h;cases h),fun _=>?_⟩
    obtain ⟨⟨j,g1,g2⟩,g3⟩:=h2 hw
    refine ⟨⟨j,by omega,g2⟩,fun j hj hn=>?_⟩
    by_cases e : j=k
    ·subst e;exact hlk
    ·exact g3 j (by omega) hn
def setsS (n : Nat) : Nat→Nat→List (List Int)
 | 0,_=>[[]]
 | s+1,lo=>(List.range' lo (n - lo)).flatMap fun i=>(setsS n s (i+1)).map fun t=>(i : Int) :: t
def Asc (lo n : Nat) (t : List Int) : Prop:=t.Pairwise (· < ·)∧∀ x ∈ t,(lo : Int)≤x∧x<n
theorem mem_setsS {n : Nat} : ∀ {s lo : Nat} {t : List Int},t ∈ setsS n s lo ↔ t.length=s∧Asc lo n t
 | 0,lo,t=>by
  rw [setsS,List.mem_singleton]
  constructor
  ·rintro rfl;exact ⟨rfl,List.Pairwise.nil,fun x hx=>by simp at hx⟩
  ·rintro ⟨h,_⟩;exact List.eq_nil_of_length_eq_zero h
 | s+1,lo,t=>by
  rw [setsS,List.mem_flatMap]
  constructor
  ·rintro ⟨i,hi,h⟩
   rw [List.mem_range'_1] at hi
   obtain ⟨u,hu,rfl⟩:=List.mem_map.1 h
   obtain ⟨h1,h2,h3⟩:=mem_setsS.1 hu
   refine ⟨by simp [h1],List.pairwise_cons.2 ⟨fun y hy=>by have:=h3 y hy;omega,h2⟩,fun x hx=>?_⟩
   rcases List.mem_cons.1 hx with rfl | hx
   ·omega
   ·have:=h3 x hx;omega
  ·rintro ⟨h1,h2,h3⟩
   match t,h1,h2,h3 with
   | x :: u,h1,h2,h3 =>
    have hx:=h3 x (by simp)
    obtain ⟨h4,h5⟩:=List.pairwise_cons.1 h2
    refine ⟨x.toNat,List.mem_range'_1.2 (by omega),List.mem_map.2 ⟨u,mem_setsS.2 ⟨by simpa using h1,h5,fun y hy=>?_⟩,?_⟩⟩
    ·have:=h4 y hy
     have:=h3 y (by simp [hy])
     omega
    ·rw [Int.toNat_of_nonneg (by omega)]
theorem setsS_pair (n : Nat) : ∀ (s lo : Nat),(setsS n s lo).Pairwise (fun a b=>cmpL a b<0)
 | 0,lo=>by rw [setsS];exact List.pairwise_singleton _ _
 | s+1,lo=>by
  rw [setsS,List.pairwise_flatMap]
  refine ⟨fun i _=>?_,?_⟩
  ·rw [List.pairwise_map]
   refine (setsS_pair n s (i+1)).imp fun h=>?_
   rw [cmpL,if_neg (by omega),if_neg (by omega)];exact h
  ·refine List.Pairwise.imp (fun {i j} hij x hx y hy=>?_) (List.pairwise_lt_range' (s:=lo) (n:=n - lo))
   obtain ⟨a,_,rfl⟩:=List.mem_map.1 hx
   obtain ⟨b,_,rfl⟩:=List.mem_map.1 hy
   rw [cmpL,if_pos (by omega)];decide
def allS (n : Nat) : List (List Int):=(List.range (n+1)).flatMap fun s=>setsS n s 0
theorem allS_pair (n : Nat) : (allS n).Pairwise (fun a b=>lessS a b=true):=by
 unfold allS
 rw [List.pairwise_flatMap]
 refine ⟨fun s _=>?_,?_⟩
 ·refine List.Pairwise.imp_of_mem (fun {a b} ha hb h=>?_) (setsS_pair n s 0)
  rw [lessS_iff]
  exact .inr ⟨by rw [(mem_setsS.1 ha).1,(mem_setsS.1 hb).1],h⟩
 ·refine List.Pairwise.imp (fun {s s'} hs a ha b hb=>?_) (List.pairwise_lt_range (n:=n+1))
  rw [lessS_iff]
  exact .inl (by rw [(mem_setsS.1 ha).1,(mem_setsS.1 hb).1];exact hs)
theorem asc_len {lo n : Nat} {t : List Int} (h : Asc lo n t) (hn : lo≤n) : t.length+lo≤n:=by
 induction t generalizing lo with
 | nil=>simpa using hn
 | cons x u ih =>
  obtain ⟨h4,h5⟩:=List.pairwise_cons.1 h.1
  have hx:=h.2 x (by simp)
  have:=ih (lo:=x.toNat+1) ⟨h5,fun y hy=>by have:=h4 y hy;have:=h.2 y (by simp [hy]);omega⟩ (by omega)
  simp only [List.length_cons];omega
theorem mem_allS {n : Nat} {t : List Int} : t ∈ allS n ↔ Asc 0 n t:=by
 unfold allS
 rw [List.mem_flatMap]
 constructor
 ·rintro ⟨s,_,h⟩;exact (mem_setsS.1 h).2
 ·intro h
  exact ⟨t.length,List.mem_range.2 (by have:=asc_len h (Nat.zero_le _);omega),mem_setsS.2 ⟨rfl,h⟩⟩
theorem asc_ext : ∀ {a b : List Int},a.Pairwise (· < ·)→b.Pairwise (· < ·)→(∀ x,x ∈ a ↔ x ∈ b)→a=b
 | [],[],_,_,_=>rfl
 | [],y :: b,_,_,h=>by have:=(h y).2 (by simp);simp at this
 | x :: a,[],_,_,h=>by have:=(h x).1 (by simp);simp at this
 | x :: a,y :: b,ha,hb,h=>by
  obtain ⟨a1,a2⟩:=List.pairwise_cons.1 ha
  obtain ⟨b1,b2⟩:=List.pairwise_cons.1 hb
  have e : x=y:=by
   rcases List.mem_cons.1 ((h x).1 (by simp)) with e | e
   ·exact e
   ·rcases List.mem_cons.1 ((h y).2 (by simp)) with e2 | e2
    ·exact e2.symm
    ·have:=a1 _ e2;have:=b1 _ e;omega
  subst e
  rw [asc_ext a2 b2 fun z=>?_]
  constructor
  ·intro hz
   rcases List.mem_cons.1 ((h z).1 (by simp [hz])) with e | e
   ·have:=a1 z hz;omega
   ·exact e
  ·intro hz
   rcases List.mem_cons.1 ((h z).2 (by simp [hz])) with e | e
   ·have:=b1 z hz;omega
   ·exact e
theorem bits_asc (x : Nat) : ∀ n,Asc 0 n (bitsTo x n)
 | 0=>⟨List.Pairwise.nil,fun y hy=>by simp [bitsTo] at hy⟩
 | n+1=>by
  obtain ⟨h1,h2⟩:=bits_asc x n
  unfold bitsTo
  split
  ·refine ⟨?_,fun y hy=>?_⟩
   ·rw [List.pairwise_append]
    refine ⟨h1,List.pairwise_singleton _ _,fun a ha b hb=>?_⟩
    rw [List.mem_singleton] at hb
    have:=h2 a ha;omega
   ·rcases List.mem_append.1 hy with hy | hy
    ·have:=h2 y hy;omega
    ·rw [List.mem_singleton] at hy;omega
  ·exact ⟨h1,fun y hy=>by have:=h2 y hy;omega⟩
theorem asc_bits {n : Nat} (hn : n≤64) {t : List Int} (h : Asc 0 n t) : ∃ x,x<2 ^ n∧bitsTo x n=t:=by
 have hT : ∀ j,j<t.length→0≤nth t j∧nth t j<64:=fun j hj=>by
  have:=h.2 _ (nth_mem hj);omega
 have hm : ∀ i,(maskS t).testBit i=true ↔ (i : Int) ∈ t:=fun i=>by
  rw [maskS,maskTo_test t.length hT i]
  constructor
  ·rintro ⟨j,hj,e⟩;rw [← e];exact nth_mem hj
  ·intro hi
   obtain ⟨j,hj,e⟩:=List.mem_iff_getElem.1 hi
   exact ⟨j,hj,by rw [nth_getElem hj];exact e⟩
 refine ⟨maskS t,?_,asc_ext (bits_asc _ _).1 h.1 fun x=>?_⟩
 ·refine Nat.lt_pow_two_of_testBit _ fun i hi=>?_
  rw [Bool.eq_false_iff];intro hb
  have:=h.2 _ ((hm i).1 hb);omega
 ·rw [mem_bitsTo]
  constructor
  ·rintro ⟨j,_,rfl,hb⟩;exact (hm j).1 hb
  ·intro hx
   have:=h.2 x hx
   exact ⟨x.toNat,by omega,by omega,(hm _).2 (by rw [Int.toNat_of_nonneg (by omega)];exact hx)⟩
theorem find_first {α : Type} {R : α→α→Prop} {p : α→Bool} : ∀ {l : List α} {t : α},l.Pairwise R→l.find? p=some t→p t=true∧t ∈ l∧∀ u ∈ l,p u=true→u=t∨R t u
 | x :: l,t,hl,h=>by
  obtain ⟨h1,h2⟩:=List.pairwise_cons.1 hl
  rw [List.find?_cons] at h
  split at h
  ·rename_i hp
   cases h
   exact ⟨hp,by simp,fun u hu _=>by
    rcases List.mem_cons.1 hu with e | e
    ·exact .inl e
    ·exact .inr (h1 u e)⟩
  ·rename_i hp
   obtain ⟨k1,k2,k3⟩:=find_first h2 h
   refine ⟨k1,by simp [k2],fun u hu hpu=>?_⟩
   rcases List.mem_cons.1 hu with e | e
   ·subst e;rw [hpu] at hp;cases hp
   ·exact k3 u e hpu
theorem wit_first {l : List Int} {n : Nat} (hn : n≤64) {r : Int} {p : List Int→Bool} (hp : ∀ x,x<2 ^ n→(p (bitsTo x n)=true ↔ ¬ nth l x<r)) :
  (witTo l n r (2 ^ n)).2=((allS n).find? p).getD []∧((witTo l n r (2 ^ n)).1=true→(allS n).find? p=some (witTo l n r (2 ^ n)).2):=by
 obtain ⟨h1,h2⟩:=wit_best l n r (2 ^ n)
 have h0 : ∀ k,(witTo l n r k).1=false→(witTo l n r k).2=[]:=fun k=>by
  induction k with
  | zero=>intro _;rfl
  | succ k ih =>
   rw [witTo]
   split
   ·exact ih
   ·split
    ·intro h;cases h
    ·exact ih
 cases hw : (witTo l n r (2 ^ n)).1 with
 | false =>
  have hnone : (allS n).find? p=none:=by
   rw [List.find?_eq_none]
   intro t ht hpt
   obtain ⟨x,hx,rfl⟩:=asc_bits hn (mem_allS.1 ht)
   exact (hp x hx).1 hpt (h1 hw x hx)
  rw [hnone]
  exact ⟨h0 _ hw,fun h=>by cases h⟩
 | true =>
  obtain ⟨⟨j,g1,g2,g3⟩,g4⟩:=h2 hw
  have hb : bitsTo j n ∈ allS n:=mem_allS.2 (bits_asc j n)
  cases hf : (allS n).find? p with
  | none =>
   have:=List.find?_eq_none.1 hf _ hb
   exact absurd ((hp j g1).2 g2) this
  | some t =>
   obtain ⟨k1,k2,k3⟩:=find_first (allS_pair n) hf
   have ht : t=(witTo l n r (2 ^ n)).2:=by
    rcases k3 _ hb ((hp j g1).2 g2) with e | e
    ·rw [g3];exact e.symm
    ·obtain ⟨x,hx,rfl⟩:=asc_bits hn (mem_allS.1 k2)
     have:=g4 x hx ((hp x hx).1 k1)
     rw [g3,e] at this
     cases this
   exact ⟨ht.symm,fun _=>by rw [ht]⟩
end

section
open Go.RowKit
section
variable {O : FOps} {El : Int→Prop} {m : Nat} {A B L : List (List Int)}
theorem Lin.nul (F : Fld O El) (n : Nat) : Lin O El n (fun _=>0) :=
 ⟨fun _ _=>F.zero,fun _ _ x _ _ hx=>by rw [F.mzero hx,F.nzero,F.add_zero _ F.zero],fun _ x _ hx=>by rw [F.mzero hx]⟩
theorem Lin.dot (F : Fld O El) {n : Nat} {u : Nat→Int} : ∀ {k},k≤n→(∀ j,j<k→El (u j))→Lin O El n (fun w=>dotN O u (fun j=>nth w j) k)
 | 0,_,_=>Lin.nul F n
 | k+1,hk,hu=>by
  have h1:=Lin.dot F (n:=n) (u:=u) (k:=k) (by omega) fun j hj=>hu j (by omega)
  refine (h1.comb F (Lin.coord F (i:=k) (by omega)) (F.cl.neg _ (hu k (by omega)))).congr F fun v hv=>?_
  show O.add _ (O.mul (u k) (nth v k))=O.add _ (O.neg (O.mul (nth v k) (O.neg (u k))))
  have hvk:=hv.at (show k<n by omega)
  rw [F.mul_neg hvk (hu k (by omega)),F.neg_neg (F.cl.mul _ _ hvk (hu k (by omega))),F.mul_comm _ _ hvk (hu k (by omega))]
theorem rs_fit (F : Fld O El) (hA : Rws El m A) {ι : Nat→Nat} (hι : ∀ j,j<A.length→ι j<m) (h1 : ∀ i j,i<A.length→j<A.length→nth (nthR A i) (ι j)=if i=j then 1 else 0) {f : Nat→Int} (hf : ∀ x,x<m→El (f x)) :
  ∀ k,k≤A.length→∃ g,RS O El m A g∧∀ j,j<k→g (ι j)=f (ι j)
 | 0,_=>⟨fun _=>0,RS.nul F fun _ _=>rfl,fun j hj=>by omega⟩
 | k+1,hk=>by
  obtain ⟨g,hg,h2⟩:=rs_fit F hA hι h1 hf k (by omega)
  have hge:=fun x (hx : x<m)=>RS.el F hA hg hx
  have hk1:=hge _ (hι k (by omega))
  have hk2:=hf _ (hι k (by omega))
  have hs : El (O.add (g (ι k)) (O.neg (f (ι k)))):=F.cl.add _ _ hk1 (F.cl.neg _ hk2)
  refine ⟨_,hg.comb F (RS.row F (show k<A.length by omega)) hs,fun j hj=>?_⟩
  show O.add (g (ι j)) (O.neg (O.mul (nth (nthR A k) (ι j)) (O.add (g (ι k)) (O.neg (f (ι k))))))=_
  rw [h1 k j (by omega) (by omega)]
  by_cases e : k=j
  ·subst e
   rw [if_pos rfl,F.one_mul _ hs,F.neg_add hk1 (F.cl.neg _ hk2),F.neg_neg hk2,← F.add_assoc _ _ _ hk1 (F.cl.neg _ hk1) hk2,F.add_neg _ hk1,F.zadd hk2]
  ·rw [if_neg e,F.zmul hs,F.nzero,F.add_zero _ (hge _ (hι j (by omega)))]
   exact h2 j (by omega)
theorem dotN_subl (F : Fld O El) {a b c : Nat→Int} : ∀ t,(∀ p,p<t→El (a p))→(∀ p,p<t→El (b p))→(∀ p,p<t→El (c p))→dotN O (fun p=>O.add (a p) (O.neg (b p))) c t=O.add (dotN O a c t) (O.neg (dotN O b c t))
 | 0,_,_,_=>by show (0 : Int)=O.add 0 (O.neg 0);rw [F.nzero,F.add_zero _ F.zero]
 | t+1,ha,hb,hc=>by
  have ih:=dotN_subl F t (fun p hp=>ha p (by omega)) (fun p hp=>hb p (by omega)) (fun p hp=>hc p (by omega))
  have h1:=ha t (by omega)
  have h2:=hb t (by omega)
  have h3:=hc t (by omega)
  have d1:=dotN_el F t (fun p hp=>ha p (by omega)) (fun p hp=>hc p (by omega))
  have d2:=dotN_el F t (fun p hp=>hb p (by omega)) (fun p hp=>hc p (by omega))
  have m1:=F.cl.mul _ _ h1 h3
  have m2:=F.cl.mul _ _ h2 h3
  show O.add (dotN O (fun p=>O.add (a p) (O.neg (b p))) c t) (O.mul (O.add (a t) (O.neg (b t))) (c t))=O.add (O.add (dotN O a c t) (O.mul (a t) (c t))) (O.neg (O.add (dotN O b c t) (O.mul (b t) (c t))))
  rw [ih,F.mul_comm _ _ (F.cl.add _ _ h1 (F.cl.neg _ h2)) h3,F.mul_add _ _ _ h3 h1 (F.cl.neg _ h2),F.mul_neg h3 h2,F.mul_comm _ _ h3 h1,F.mul_comm _ _ h3 h2,F.neg_add d2 m2,F.add4 d1 (F.cl.neg _ d2) m1 (F.cl.neg _ m2)]
theorem RS.dot (F : Fld O El) (hA : Rws El m A) (hB : Rws El m B) (ho : Orth O m A B) {f : Nat→Int} (hf : RS O El m A f) {i : Nat} (hi : i<B.length) : dotN O f (fun p=>nth (nthR B i) p) m=0:=by
 obtain ⟨e,he,h2⟩:=hf
 have hb : ∀ p,p<m→El (nth (nthR B i) p):=fun p hp=>Vc.at (hB.row hi) hp
 rw [dotN_congr (a':=fun p=>e (colS A p)) (b':=fun p=>nth (nthR B i) p) m fun p hp=>⟨h2 p hp,rfl⟩]
 rw [dotN_comm F m (fun p _=>he.el _ (colS_vc hA F.zero p)) hb]
 refine form_dot F hA he hb fun j hj=>?_
 rw [dotN_comm F m hb fun p hp=>Vc.at (hA.row hj) hp]
 exact ho j i hj hi
theorem rs_of_orth (F : Fld O El) (hA : Rws El m A) (hB : Rws El m B) {ι κ : Nat→Nat} (hι : ∀ j,j<A.length→ι j<m) (h1 : ∀ i j,i<A.length→j<A.length→nth (nthR A i) (ι j)=if i=j then 1 else 0)
  (hκ : ∀ i,i<B.length→κ i<m) (h2 : ∀ i j,i<B.length→j<B.length→nth (nthR B i) (κ j)=if i=j then 1 else 0)
  (hall : ∀ x,x<m→(∃ j,j<A.length∧ι j=x)∨∃ i,i<B.length∧κ i=x) (ho : Orth O m A B) {f : Nat→Int} (hf : ∀ x,x<m→El (f x)) (hfo : ∀ i,i<B.length→dotN O f (fun p=>nth (nthR B i) p) m=0) : RS O El m A f:=by
 obtain ⟨g,hg,hgf⟩:=rs_fit F hA hι h1 hf A.length (Nat.le_refl _)
 have hge:=fun x (hx : x<m)=>RS.el F hA hg hx
 refine hg.congr fun x hx=>?_
 rcases hall x hx with ⟨j,hj,rfl⟩ | ⟨i,hi,rfl⟩
 ·exact (hgf j hj).symm
 ·have hb : ∀ p,p<m→El (nth (nthR B i) p):=fun p hp=>Vc.at (hB.row hi) hp
  have hd:=dotN_subl F m hf hge hb
  rw [hfo i hi,RS.dot F hA hB ho hg hi,F.nzero,F.add_zero _ F.zero] at hd
  have hk:=hκ i hi
  have hde : El (O.add (f (κ i)) (O.neg (g (κ i)))):=F.cl.add _ _ (hf _ hk) (F.cl.neg _ (hge _ hk))
  have h3:=dotN_one F (a:=fun p=>O.add (f p) (O.neg (g p))) (b:=fun p=>nth (nthR B i) p) (x:=κ i) (F.cl.mul _ _ hde (hb _ hk)) m fun p hp hne=>?_
  ·rw [hd,if_pos hk] at h3
   have h4 : O.mul (O.add (f (κ i)) (O.neg (g (κ i)))) (nth (nthR B i) (κ i))=0:=h3.symm
   rw [h2 i i hi hi,if_pos rfl,F.mone hde] at h4
   have h5:=F.neg_of (hf _ hk) (F.cl.neg _ (hge _ hk)) h4
   rw [← F.neg_neg (hf _ hk),← h5,F.neg_neg (hge _ hk)]
  ·show O.mul (O.add (f p) (O.neg (g p))) (nth (nthR B i) p)=0
   rcases hall p hp with ⟨j,hj,rfl⟩ | ⟨j,hj,rfl⟩
   ·rw [hgf j hj,F.add_neg _ (hf _ hp),F.zmul (hb _ hp)]
   ·rw [h2 i j hi hj,if_neg (fun e=>hne (by rw [e])),F.mzero (F.cl.add _ _ (hf _ hp) (F.cl.neg _ (hge _ hp)))]
theorem npL_inj (P : List Int) : ∀ k i j,i<j→j<(npL P k).length→(npL P k).getD i 0<(npL P k).getD j 0
 | 0,i,j,_,h=>by simp [npL] at h
 | k+1,i,j,hij,h=>by
  have ih:=npL_inj P k i j hij
  rw [npL] at h ⊢
  split at h
  ·rename_i hc
   rw [if_pos hc];exact ih h
  ·rename_i hc
   rw [if_neg hc]
   rw [List.length_append,List.length_singleton] at h
   have e1 : (npL P k ++ [k]).getD i 0=(npL P k).getD i 0:=by simp only [List.getD_eq_getElem?_getD];rw [List.getElem?_append_left (by omega)]
   rw [e1]
   by_cases e : j<(npL P k).length
   ·have e2 : (npL P k ++ [k]).getD j 0=(npL P k).getD j 0:=by simp only [List.getD_eq_getElem?_getD];rw [List.getElem?_append_left e]
    rw [e2];exact ih e
   ·have e2 : (npL P k ++ [k]).getD j 0=k:=by
     have ej : j=(npL P k).length:=by omega
     simp only [List.getD_eq_getElem?_getD];rw [List.getElem?_append_right (by omega)];simp [ej]
    rw [e2]
    exact (npL_at (k:=k) (j:=i) (by omega)).1
theorem null_two (F : Fld O El) {R : List (List Int)} {P : List Int} (hR : Rws El m R) (hP : Piv R P m) (hl : Lead R P) (hlen : R.length=P.length) {f : Nat→Int} (hf : ∀ x,x<m→El (f x)) :
  ((∀ i,i<R.length→dotN O f (fun p=>nth (nthR R i) p) m=0)→RS O El m (kerL O m R P m) f)∧((∀ i,i<(kerL O m R P m).length→dotN O f (fun p=>nth (nthR (kerL O m R P m) i) p) m=0)→RS O El m R f):=by
 have hK:=kerL_rws F hR hP hlen
 have hO:=ker_orth F hR hP hl hlen
 have hkl:=kerL_len O m R P m
 have hι : ∀ j,j<R.length→(nth P j).toNat<m:=fun j hj=>by have:=hP.lt j (by omega);omega
 have h1 : ∀ i j,i<R.length→j<R.length→nth (nthR R i) (nth P j).toNat=if i=j then 1 else 0:=fun i j hi hj=>hP.one j i (by omega) hi
 have hκ : ∀ i,i<(kerL O m R P m).length→(npL P m).getD i 0<m:=fun i hi=>(npL_at (by omega)).1
 have h2 : ∀ i j,i<(kerL O m R P m).length→j<(kerL O m R P m).length→nth (nthR (kerL O m R P m) i) ((npL P m).getD j 0)=if i=j then 1 else 0:=fun i j hi hj=>by
  rw [hkl] at hi hj
  obtain ⟨a1,a2⟩:=npL_at (P:=P) hi
  obtain ⟨b1,b2⟩:=npL_at (P:=P) hj
  rw [kerL_at O m R P m hi]
  by_cases e : i=j
  ·subst e;rw [if_pos rfl];exact kerTo_self hP a1 a2 _ (Nat.le_refl _)
  ·rw [if_neg e]
   refine kerTo_other hP b1 (fun e2=>?_) _ (Nat.le_refl _) fun q hq e2=>?_
   ·rcases Nat.lt_or_gt_of_ne e with h | h
    ·have:=npL_inj P m i j h hj;omega
    ·have:=npL_inj P m j i h hi;omega
   ·apply b2
    have hq2:=hP.lt q hq
    rw [← e2,Int.toNat_of_nonneg hq2.1]
    exact nth_mem hq
 have hall : ∀ x,x<m→(∃ j,j<R.length∧(nth P j).toNat=x)∨∃ i,i<(kerL O m R P m).length∧(npL P m).getD i 0=x:=fun x hx=>by
  by_cases hc : (x : Int) ∈ P
  ·obtain ⟨j,hj,e⟩:=List.mem_iff_getElem.1 hc
   exact .inl ⟨j,by omega,by rw [nth_getElem hj,e];simp⟩
  ·obtain ⟨j,hj,e⟩:=List.mem_iff_getElem.1 ((mem_npL (P:=P) m).2 ⟨hx,hc⟩)
   exact .inr ⟨j,by rw [hkl];exact hj,by rw [List.getD_eq_getElem?_getD,List.getElem?_eq_getElem hj];exact e⟩
 exact ⟨rs_of_orth F hK hR hκ h2 hι h1 (fun x hx=>(hall x hx).symm) (Orth.symm F hR hK hO) hf,rs_of_orth F hR hK hι h1 hκ h2 hall hO hf⟩
def nulO (O : FOps) (m : Nat) (L : List (List Int)) : List (List Int):=canO O m (kerL O m (canO O m L) (elimTo O L m).2 m)
theorem nul_rws (F : Fld O El) (hL : Rws El m L) : Rws El m (nulO O m L):=canO_rws F (kerL_rws F (canO_rws F hL) (canO_piv F hL).1 (canO_len F hL))
theorem dot_rs (F : Fld O El) (hA : Rws El m A) {f : Nat→Int} (hf : ∀ x,x<m→El (f x)) (h : ∀ i,i<A.length→dotN O f (fun p=>nth (nthR A i) p) m=0) {g : Nat→Int} (hg : RS O El m A g) : dotN O f g m=0:=by
 obtain ⟨e,he,h2⟩:=hg
 rw [dotN_congr (a':=f) (b':=fun p=>e (colS A p)) m fun p hp=>⟨rfl,h2 p hp⟩]
 exact form_dot F hA he hf h
theorem nul_iff (F : Fld O El) (hL : Rws El m L) {f : Nat→Int} (hf : ∀ x,x<m→El (f x)) : RS O El m (nulO O m L) f ↔ ∀ i,i<L.length→dotN O f (fun p=>nth (nthR L i) p) m=0:=by
 obtain ⟨hP,hl⟩:=canO_piv F hL
 have hlen:=canO_len F hL
 have hR:=canO_rws F hL
 have hK:=kerL_rws F hR hP hlen
 obtain ⟨s1,s2⟩:=canO_rsub F hK
 obtain ⟨t1,t2⟩:=canO_rsub F hL
 have hO:=Orth.symm F hR hK (ker_orth F hR hP hl hlen)
 constructor
 ·intro h i hi
  exact dot_rs F hR hf (fun j hj=>RS.dot F hK hR hO (s1.rs h) hj) (t2 i hi)
 ·intro h
  refine s2.rs ((null_two F hR hP hl hlen hf).1 fun i hi=>?_)
  exact dot_rs F hL hf h (t1 i hi)
theorem nul_nul (F : Fld O El) (hL : Rws El m L) {f : Nat→Int} (hf : ∀ x,x<m→El (f x)) : (∀ i,i<(nulO O m L).length→dotN O f (fun p=>nth (nthR (nulO O m L) i) p) m=0) ↔ RS O El m L f:=by
 obtain ⟨hP,hl⟩:=canO_piv F hL
 have hlen:=canO_len F hL
 have hR:=canO_rws F hL
 have hK:=kerL_rws F hR hP hlen
 obtain ⟨s1,s2⟩:=canO_rsub F hK
 obtain ⟨t1,t2⟩:=canO_rsub F hL
 have hN:=nul_rws F hL
 constructor
 ·intro h
  exact t1.rs ((null_two F hR hP hl hlen hf).2 fun i hi=>dot_rs F hN hf h (s2 i hi))
 ·intro h i hi
  have hfn : ∀ p,p<m→El (nth (nthR (nulO O m L) i) p):=fun p hp=>Vc.at (hN.row hi) hp
  rw [dotN_comm F m hf hfn]
  exact dot_rs F hL hfn ((nul_iff F hL hfn).1 (RS.row F hi)) h
def unitZ (m : Nat) (z : Int) : List Int:=(List.replicate m 0).set z.toNat 1
def withO (O : FOps) (m : Nat) (L : List (List Int)) (Z : List Int) : List (List Int):=nulO O m (nulO O m L ++ Z.map (unitZ m))
def suppO (O : FOps) (m : Nat) (L : List (List Int)) (Z : List Int) : List (List Int):=canO O m (mtL O m (nulO O L.length ((List.range Z.length).map (colS (L.map (pickL Z))))) L)
theorem unitZ_vc (F : Fld O El) (m : Nat) (z : Int) : Vc El m (unitZ m z):=⟨by simp [unitZ],fun y hy=>by
 rcases List.mem_or_eq_of_mem_set hy with h | rfl
 ·rw [List.eq_of_mem_replicate h];exact F.zero
 ·exact F.one⟩
theorem nth_unitZ {m : Nat} {z : Int} (hz : z.toNat<m) (i : Nat) : nth (unitZ m z) i=if i=z.toNat then 1 else 0:=by
 unfold unitZ
 rw [nth_set _ _ _ _ (by simpa using hz)]
 split
 ·rfl
 ·simp [nth,List.getD_eq_getElem?_getD,List.getElem?_replicate];split <;> rfl
theorem dot_unit (F : Fld O El) {f : Nat→Int} (hf : ∀ x,x<m→El (f x)) {z : Int} (hz : z.toNat<m) : dotN O f (fun p=>nth (unitZ m z) p) m=f z.toNat:=by
 have h1:=dotN_one F (a:=f) (b:=fun p=>nth (unitZ m z) p) (x:=z.toNat) (by
  show El (O.mul (f z.toNat) (nth (unitZ m z) z.toNat))
  rw [nth_unitZ hz,if_pos rfl,F.mone (hf _ hz)];exact hf _ hz) m fun p hp hne=>by
   show O.mul (f p) (nth (unitZ m z) p)=0
   rw [nth_unitZ hz,if_neg hne,F.mzero (hf p hp)]
 rw [h1,if_pos hz]
 show O.mul (f z.toNat) (nth (unitZ m z) z.toNat)=_
 rw [nth_unitZ hz,if_pos rfl,F.mone (hf _ hz)]
def InZ (m : Nat) (Z : List Int) : Prop:=∀ z ∈ Z,0≤z∧z<(m : Int)
theorem with_iff (F : Fld O El) (hL : Rws El m L) {Z : List Int} (hZ : InZ m Z) {f : Nat→Int} (hf : ∀ x,x<m→El (f x)) : RS O El m (withO O m L Z) f ↔ RS O El m L f∧∀ z ∈ Z,f z.toNat=0:=by
 have hN:=nul_rws F hL
 have hU : Rws El m (nulO O m L ++ Z.map (unitZ m)):=fun r hr=>by
  rcases List.mem_append.1 hr with h | h
  ·exact hN r h
  ·obtain ⟨z,_,rfl⟩:=List.mem_map.1 h;exact unitZ_vc F m z
 have key : RS O El m (withO O m L Z) f ↔ ∀ r ∈ nulO O m L ++ Z.map (unitZ m),dotN O f (fun p=>nth r p) m=0:=by
  refine (nul_iff F hU hf).trans ⟨fun h r hr=>?_,fun h i hi=>h _ (nthR_mem hi)⟩
  obtain ⟨j,hj,rfl⟩:=mem_nthR hr
  exact h j hj
 rw [key]
 constructor
 ·intro h
  refine ⟨(nul_nul F hL hf).1 fun i hi=>h _ (List.mem_append.2 (.inl (nthR_mem hi))),fun z hz=>?_⟩
  have hzb:=hZ z hz
  rw [← dot_unit F hf (z:=z) (by omega)]
  exact h _ (List.mem_append.2 (.inr (List.mem_map.2 ⟨z,hz,rfl⟩)))
 ·rintro ⟨h1,h2⟩ r hr
  rcases List.mem_append.1 hr with h | h
  ·obtain ⟨j,hj,rfl⟩:=mem_nthR h
   exact (nul_nul F hL hf).2 h1 j hj
  ·obtain ⟨z,hz,rfl⟩:=List.mem_map.1 h
   have hzb:=hZ z hz
   rw [dot_unit F hf (by omega)]
   exact h2 z hz
theorem RS.cmb (F : Fld O El) (hL : Rws El m L) {f : Nat→Int} (h : RS O El m L f) : ∃ v,Vc El L.length v∧∀ x,x<m→f x=nth (cmbTo O m v L L.length) x:=by
 obtain ⟨e,he,h2⟩:=h
 obtain ⟨c,hc⟩ : ∃ c,((List.range L.length).map fun t=>e (unitR L.length t))=c:=⟨_,rfl⟩
 have hcl : c.length=L.length:=by rw [← hc];simp
 have hcn : ∀ t,t<L.length→nth c t=e (unitR L.length t):=fun t ht=>by rw [← hc,nth_mapRange _ _ _ ht]
 have hcv : Vc El L.length c:=⟨hcl,fun y hy=>by
  obtain ⟨t,ht,rfl⟩:=List.mem_iff_getElem.1 hy
  rw [← nth_getElem ht,hcn t (by omega)]
  exact he.el _ (unitR_vc F _ _)⟩
 refine ⟨c,hcv,fun x hx=>?_⟩
 rw [h2 x hx,form_unit F he (colS_vc hL F.zero x),cmb_dot F hL (fun k hk=>hcv.at hk) hx _ (Nat.le_refl _)]
 exact dotN_congr _ fun p hp=>⟨(hcn p hp).symm,nth_colS _ _ _ hp⟩
theorem trn_row {Z : List Int} {k : Nat} (hk : k<Z.length) : nthR ((List.range Z.length).map (colS (L.map (pickL Z)))) k=colS L (nth Z k).toNat:=by
 rw [nthR_getElem (by simpa using hk)]
 simp only [List.getElem_map,List.getElem_range,colS,List.map_map]
 refine List.map_congr_left fun r _=>?_
 show nth (pickL Z r) k=_
 rw [nth_pickL Z r hk]
theorem trn_rws (F : Fld O El) (hL : Rws El m L) {Z : List Int} : Rws El L.length ((List.range Z.length).map (colS (L.map (pickL Z)))):=fun r hr=>by
 obtain ⟨k,hk,rfl⟩:=mem_nthR hr
 rw [trn_row (by simpa using hk)]
 exact colS_vc hL F.zero _
theorem mtL_rws (F : Fld O El) (hL : Rws El m L) {K : List (List Int)} (hK : Rws El L.length K) : Rws El m (mtL O m K L):=fun r hr=>by
 obtain ⟨v,hv,rfl⟩:=List.mem_map.1 hr
 exact (cmb_rs F hL (fun k hk=>Vc.at (hK v hv) hk) _ (Nat.le_refl _)).1
theorem supp_rws (F : Fld O El) (hL : Rws El m L) {Z : List Int} : Rws El m (suppO O m L Z):=canO_rws F (mtL_rws F hL (nul_rws F (trn_rws F hL)))
theorem supp_iff (F : Fld O El) (hL : Rws El m L) {Z : List Int} (hZ : InZ m Z) {f : Nat→Int} (hf : ∀ x,x<m→El (f x)) : RS O El m (suppO O m L Z) f ↔ RS O El m L f∧∀ z ∈ Z,f z.toNat=0:=by
 have hT:=trn_rws (Z:=Z) F hL
 obtain ⟨K,hK⟩ : ∃ K,nulO O L.length ((List.range Z.length).map (colS (L.map (pickL Z))))=K:=⟨_,rfl⟩
 have hKr : Rws El L.length K:=by rw [← hK];exact nul_rws F hT
 have hM:=mtL_rws F hL hKr
 obtain ⟨s1,s2⟩:=canO_rsub F hM
 have hKi : ∀ v,Vc El L.length v→(RS O El L.length K (fun x=>nth v x) ↔ ∀ z ∈ Z,nth (cmbTo O m v L L.length) z.toNat=0):=fun v hv=>by
  rw [← hK]
  refine (nul_iff F hT fun x hx=>hv.at hx).trans ?_
  have hd : ∀ k,k<Z.length→dotN O (fun x=>nth v x) (fun p=>nth (nthR ((List.range Z.length).map (colS (L.map (pickL Z)))) k) p) L.length=nth (cmbTo O m v L L.length) (nth Z k).toNat:=fun k hk=>by
   have hzb:=hZ _ (nth_mem hk)
   rw [trn_row hk,cmb_dot F hL (fun k hk=>hv.at hk) (show (nth Z k).toNat<m by omega) _ (Nat.le_refl _)]
   exact dotN_congr _ fun p hp=>⟨rfl,nth_colS _ _ _ hp⟩
  constructor
  ·intro h z hz
   obtain ⟨k,hk,e⟩:=List.mem_iff_getElem.1 hz
   have:=h k (by simpa using hk)
   rw [hd k hk,nth_getElem hk,e] at this
   exact this
  ·intro h k hk
   rw [hd k (by simpa using hk)]
   exact h _ (nth_mem (by simpa using hk))
 unfold suppO
 rw [hK]
 constructor
 ·intro h
  have hrow : ∀ r ∈ mtL O m K L,RS O El m L (fun x=>nth r x)∧∀ z ∈ Z,nth r z.toNat=0:=fun r hr=>by
   obtain ⟨v,hv,rfl⟩:=List.mem_map.1 hr
   obtain ⟨j,hj,rfl⟩:=mem_nthR hv
   exact ⟨(cmb_rs F hL (fun k hk=>Vc.at (hKr _ hv) hk) _ (Nat.le_refl _)).2,(hKi _ (hKr _ hv)).1 (RS.row F hj)⟩
  have h3:=s1.rs h
  refine ⟨RSub.rs (fun i hi=>(hrow _ (nthR_mem hi)).1) h3,fun z hz=>?_⟩
  have hzb:=hZ z hz
  exact RS.at0 F hM h3 (by omega) fun r hr=>(hrow r hr).2 z hz
 ·rintro ⟨h1,h2⟩
  obtain ⟨v,hv,hfv⟩:=RS.cmb F hL h1
  have hvK : RS O El L.length K (fun x=>nth v x):=(hKi v hv).2 fun z hz=>by
   have hzb:=hZ z hz
   rw [← hfv _ (by omega)];exact h2 z hz
  obtain ⟨u,hu,hvu⟩:=RS.cmb F hKr hvK
  refine s2.rs ?_
  have hml : (mtL O m K L).length=K.length:=by simp [mtL]
  have hue : ∀ k,k<(mtL O m K L).length→El (nth u k):=fun k hk=>hu.at (by omega)
  refine (cmb_rs F hM hue _ (Nat.le_refl _)).2.congr fun x hx=>?_
  rw [hfv x hx,cmb_dot F hM hue hx _ (Nat.le_refl _),hml]
  have hx1 : nth (cmbTo O m v L L.length) x=dotN O (fun t=>nth v t) (fun t=>nth (nthR L t) x) L.length:=cmb_dot F hL (fun k hk=>hv.at hk) hx _ (Nat.le_refl _)
  have hc : Vc El L.length (colS L x):=colS_vc hL F.zero x
  have h4 : dotN O (fun t=>nth v t) (fun t=>nth (colS L x) t) L.length=dotN O (fun j=>nth u j) (fun j=>dotN O (fun t=>nth (nthR K j) t) (fun t=>nth (colS L x) t) L.length) K.length:=by
   have hcol:=colN_form F (r:=fun t=>nth (colS L x) t) (K:=K) hKr (φ:=fun w=>dotN O (fun j=>nth u j) (fun j=>nth w j) K.length) (by
    exact Lin.dot F (Nat.le_refl _) fun j hj=>hu.at hj) L.length (fun p hp=>hc.at hp)
   rw [dotN_comm F _ (fun p hp=>hv.at hp) fun p hp=>hc.at hp]
   have e1 : dotN O (fun t=>nth (colS L x) t) (fun t=>nth v t) L.length=dotN O (fun t=>nth (colS L x) t) (fun p=>dotN O (fun j=>nth u j) (fun j=>nth (colS K p) j) K.length) L.length:=dotN_congr _ fun p hp=>⟨rfl,by
    rw [hvu p hp,cmb_dot F hKr (fun k hk=>hu.at hk) hp _ (Nat.le_refl _)]
    exact dotN_congr _ fun q hq=>⟨rfl,(nth_colS _ _ _ hq).symm⟩⟩
   rw [e1,← hcol]
   refine dotN_congr _ fun j hj=>⟨rfl,?_⟩
   rw [colN_at F hKr hj _ (Nat.le_refl _) (fun p hp=>hc.at hp)]
   exact dotN_comm F _ (fun p hp=>hc.at hp) fun p hp=>Vc.at (hKr.row hj) hp
  rw [hx1,dotN_congr (a':=fun t=>nth v t) (b':=fun t=>nth (colS L x) t) _ fun p hp=>⟨rfl,(nth_colS _ _ _ hp).symm⟩,h4]
  refine dotN_congr _ fun j hj=>⟨rfl,?_⟩
  have e2 : nthR (mtL O m K L) j=cmbTo O m (nthR K j) L L.length:=by
   rw [nthR_getElem (by omega),nthR_getElem hj];simp [mtL]
  rw [e2,cmb_dot F hL (fun k hk=>Vc.at (hKr.row hj) hk) hx _ (Nat.le_refl _)]
  exact dotN_congr _ fun p hp=>⟨rfl,nth_colS _ _ _ hp⟩
theorem supp_with (F : Fld O El) (hL : Rws El m L) {Z : List Int} (hZ : InZ m Z) : suppO O m L Z=withO O m L Z:=by
 have hM:=mtL_rws (O:=O) F hL (nul_rws F (trn_rws (Z:=Z) F hL))
 have hU : Rws El m (nulO O m L ++ Z.map (unitZ m)):=fun r hr=>by
  rcases List.mem_append.1 hr with h | h
  ·exact nul_rws F hL r h
  ·obtain ⟨z,_,rfl⟩:=List.mem_map.1 h;exact unitZ_vc F m z
 have hU2:=kerL_rws F (canO_rws F hU) (canO_piv F hU).1 (canO_len F hU)
 have r1 : Rws El m (suppO O m L Z):=canO_rws F hM
 have r2 : Rws El m (withO O m L Z):=canO_rws F hU2
 refine can_uniq F r1 r2 (canO_piv F hM).1 (canO_piv F hU2).1 (canO_piv F hM).2 (canO_piv F hU2).2 (canO_len F hM) (canO_len F hU2) (fun i hi=>?_) (fun i hi=>?_)
 ·have hel : ∀ x,x<m→El (nth (nthR (suppO O m L Z) i) x):=fun x hx=>Vc.at (r1.row hi) hx
  exact (with_iff F hL hZ hel).2 ((supp_iff F hL hZ hel).1 (RS.row F hi))
 ·have hel : ∀ x,x<m→El (nth (nthR (withO O m L Z) i) x):=fun x hx=>Vc.at (r2.row hi) hx
  exact (supp_iff F hL hZ hel).2 ((with_iff F hL hZ hel).1 (RS.row F hi))
end
end

section
open Go.RowKit
theorem or17 (a b : Nat) (ha : a<131072) (hb : b<131072) : bits .or .i64 (a : Int) (b : Int)=((a ||| b : Nat) : Int):=by
 have hx : a ||| b<2 ^ 17:=Nat.or_lt_two_pow (by omega) (by omega)
 have h1 : (BitVec.ofInt 64 (a : Int)).toNat=a:=by
  rw [BitVec.ofInt_natCast,BitVec.toNat_ofNat];exact Nat.mod_eq_of_lt (by omega)
 have h2 : (BitVec.ofInt 64 (b : Int)).toNat=b:=by
  rw [BitVec.ofInt_natCast,BitVec.toNat_ofNat];exact Nat.mod_eq_of_lt (by omega)
 show IntKind.i64.wrap ((BitVec.ofInt 64 (a : Int) ||| BitVec.ofInt 64 (b : Int)).toNat : Int)=_
 rw [BitVec.toNat_or,h1,h2]
 exact IntWalk.i64_in _ (by omega)
theorem pow17 {p : Nat} (hp : p<17) : IntKind.i64.wrap ((2 : Int) ^ p)=((2 ^ p : Nat) : Int):=by
 have h1 : 2 ^ p<2 ^ 17:=Nat.pow_lt_pow_right (by omega) hp
 have : (2 : Int) ^ p=((2 ^ p : Nat) : Int):=by simp
 rw [this]
 generalize 2 ^ p=q at *
 exact IntWalk.i64_in _ (by omega)
theorem orK_add {x k : Nat} (hx : x<2 ^ k) (hk : k<16) : bits .or .i64 (x : Int) (IntKind.i64.wrap ((2 : Int) ^ k))=((x+2 ^ k : Nat) : Int):=by
 have h1 : 2 ^ k<2 ^ 16:=Nat.pow_lt_pow_right (by omega) hk
 rw [pow17 (by omega),or17 x (2 ^ k) (by omega) (by omega)]
 congr 1
 have h:=Nat.two_pow_add_eq_or_of_lt hx 1
 rw [Nat.mul_one] at h
 rw [Nat.or_comm,← h,Nat.add_comm]
structure HEnv (V : World) (b : Nat) (G : Tbl) (Bc Bo Bf Bg n : Nat) (ao : Option Addr) (n2 co : Nat) : Prop where
 cn : V.cell? ⟨Bc,3,none⟩=some (.int .i64 n)
 out : V.cell? ⟨Bo,0,none⟩=some (.slice ao n2 co)
 fr : V.cell? ⟨Bf,0,none⟩=some (.func (.func 122) #[] #[.pointer (some ⟨Bc,0,none⟩),.pointer (some ⟨Bo,0,none⟩),.pointer (some ⟨Bf,0,none⟩),.pointer (some ⟨Bg,0,none⟩)])
 gp : V.cell? ⟨Bg,0,none⟩=some (.pointer (some ⟨b,0,none⟩))
 gf : GFw V b G
def HFromOk (B : Nat) (W0 : World) (G : Tbl) (m n Bc Bo Bf Bg : Nat) (ao : Option Addr) (n2 co d : Nat) : Prop :=
 ∀ (a : Option Addr) (n1 c1 : Nat) (R : List (List Int)) (x : Nat) (o : List Int) (W : World),Moves W0 W (fun y=>y=ablk ao) (fun y=>y=ablk ao)→MatA (fun y=>y=ablk ao) W a n1 R→Rws G.El m R→n1≤1000000 →
  W.ownsRow B 3 1 (.slice ao n2 co) n2 (o.map (Value.int .i64))→x<2 ^ (n - d) →
  Calls Tryz.prog 122 #[.slice a n1 c1,.int .i64 x,.int .i64 ((n - d : Nat) : Int),.pointer (some ⟨Bc,0,none⟩),.pointer (some ⟨Bo,0,none⟩),.pointer (some ⟨Bf,0,none⟩),.pointer (some ⟨Bg,0,none⟩)] W
   fun e V=>e = .returned (.tuple #[])∧V.ownsRow B 3 1 (.slice ao n2 co) n2 ((hfrom G.ops n d R x o).map (Value.int .i64))∧Moves W V (fun y=>y=ablk ao) (fun y=>y=ablk ao)
theorem Moves.setAt' (w : World) {I : Nat→Prop} {p : Addr} (hB : I p.block) (v : Value) : Moves w (w.setCell p v) I I:=by
 have hb0 : Below 0 w (w.setCell p v):=(Below.refl 0 w).setCell (Nat.zero_le _) v
 exact ⟨hb0.os,hb0.tape,hb0.output,hb0.size,fun b hb hI=>Below.heap_setCell _ _ _ _ fun e=>hI (e ▸ hB),fun b hb=>.inl hb⟩
set_option maxRecDepth 100000 in
set_option maxHeartbeats 4000000 in
theorem hfromLeaf_any {B : Nat} {W0 : World} {b : Nat} {G : Tbl} {m n Bc Bo Bf Bg : Nat} {ao : Option Addr} {co : Nat} (HE : ∀ V,Moves W0 V (fun y=>y=ablk ao) (fun y=>y=ablk ao)→HEnv V b G Bc Bo Bf Bg n ao (2 ^ n) co) (hn : n≤16) :
  HFromOk B W0 G m n Bc Bo Bf Bg ao (2 ^ n) co 0:=by
 intro a n1 c1 R x o W hW hM hR hn1 hown hx
 obtain ⟨ccn,cout,cfr,cgp,cgf⟩:=HE W hW
 have hRl:=hM.len
 clear cgf
 by_cases h0 : n1=0
 ·subst h0
  have Hf : Hid (hfrom G.ops n 0 R x o=o):=by show _=_;rw [hfrom,if_pos hRl]
  clear hRl
  go_enter Tryz.func122,Tryz.ntmps122
  go_wp2_with fail
  refine bodyPost_ret (results_none rfl _ _ _) rfl ?_
  exact ⟨rfl,by rw [Hf.out];exact hown,Moves.refl _ _⟩
 ·have Hf : Hid (hfrom G.ops n 0 R x o=o.set x n1):=by show _=_;rw [hfrom,if_neg (by omega),hRl]
  have hd : ((n1 : Int) == 0)=false:=by simp;omega
  rw [Nat.sub_zero] at hx ⊢
  obtain ⟨q,hq⟩ : ∃ q,2 ^ n=q:=⟨_,rfl⟩
  rw [hq] at hown cout hx
  obtain ⟨iv0,mv0⟩:=Ints.own hown
  have hpv:=iv0.pl
  have cx:=iv0.cell x hx
  have fx:=(mv0 (by omega)).2 x hx
  clear hRl h0
  go_enter Tryz.func122,Tryz.ntmps122
  go_wp2_with fail
  refine bodyPost_ret (results_none rfl _ _ _) rfl ?_
  refine ⟨rfl,?_,Moves.setAt' (I:=fun y=>y=ablk ao) (p:=⟨ablk ao,aoff ao+x,none⟩) _ rfl _⟩
  rw [Hf.out,hq,List.map_set]
  exact own_set hown x hx _
set_option maxRecDepth 100000 in
set_option maxHeartbeats 4000000 in
theorem hfromNode_any {B : Nat} {W0 : World} {b : Nat} {G : Tbl} {m n Bc Bo Bf Bg : Nat} {ao : Option Addr} {n2 co : Nat} (HE : ∀ V,Moves W0 V (fun y=>y=ablk ao) (fun y=>y=ablk ao)→HEnv V b G Bc Bo Bf Bg n ao n2 co) (hao : ablk ao<W0.heap.size) (hn : n≤16) (hnm : n≤m) (hm : m≤1000000) (d : Nat) (hd : d+1≤n)
  (hI : HFromOk B W0 G m n Bc Bo Bf Bg ao n2 co d) : HFromOk B W0 G m n Bc Bo Bf Bg ao n2 co (d+1):=by
 intro a n1 c1 R x o W hW hM hR hn1 hown hx
 obtain ⟨k,hk⟩ : ∃ k,n - (d+1)=k:=⟨_,rfl⟩
 have E:=HE W hW
 obtain ⟨ccn,cout,cfr,cgp,cgf⟩:=E
 have hRl:=hM.len
 by_cases h0 : n1=0
 ·subst h0
  have Hf : Hid (hfrom G.ops n (d+1) R x o=o):=by show _=_;rw [hfrom,if_pos hRl]
  clear hRl cgf hI
  go_enter Tryz.func122,Tryz.ntmps122
  go_wp2_with fail
  refine bodyPost_ret (results_none rfl _ _ _) rfl ?_
  exact ⟨rfl,by rw [Hf.out];exact hown,Moves.refl _ _⟩
 have Hf : Hid (hfrom G.ops n (d+1) R x o=hfrom G.ops n d (woS G.ops R k) x (hfrom G.ops n d R (x+2 ^ k) o)):=by show _=_;rw [hfrom,if_neg (by omega),hk]
 have hd0 : ((n1 : Int) == 0)=false:=by simp;omega
 have hnd : n - d=k+1:=by omega
 rw [hk] at hx ⊢
 have h2k : 2 ^ (k+1)=2 ^ k+2 ^ k:=by rw [Nat.pow_succ];omega
 have hor:=orK_add hx (by omega)
 obtain ⟨y,hy⟩ : ∃ y,x+2 ^ k=y:=⟨_,rfl⟩
 rw [hy] at hor
 have hkw : IntKind.i64.wrap ((k : Int)+1)=(k : Int)+1:=IntWalk.i64_in _ (by omega)
 have hkn : ((k : Int) == (n : Int))=false:=by simp;omega
 have hkb : k<16:=by omega
 have H1 : Hid (∀ V,Below W.heap.size W V→Calls Tryz.prog 122 #[.slice a n1 c1,.int .i64 y,.int .i64 ((k : Int)+1),.pointer (some ⟨Bc,0,none⟩),.pointer (some ⟨Bo,0,none⟩),.pointer (some ⟨Bf,0,none⟩),.pointer (some ⟨Bg,0,none⟩)] V
   fun e V'=>e = .returned (.tuple #[])∧V'.ownsRow B 3 1 (.slice ao n2 co) n2 ((hfrom G.ops n d R y o).map (Value.int .i64))∧Moves V V' (fun y=>y=ablk ao) (fun y=>y=ablk ao)):=fun V hV=>by
  have h:=hI a n1 c1 R y o V (hW.trans (Moves.of_below hV _)) (hM.keep hV) hR hn1 (own_keep hown hV) (by rw [hnd,h2k];omega)
  rw [hnd] at h
  exact h
 have HWo : Hid (∀ V,Moves W V (fun y=>y=ablk ao) (fun y=>y=ablk ao)→Calls Tryz.prog 123 #[.pointer (some ⟨b,0,none⟩),.slice a n1 c1,.int .i64 k] V fun e V'=>∃ a2 n2 c2,e = .returned (.slice a2 n2 c2)∧MatA (fun y=>y=ablk ao) V' a2 n2 (woS G.ops R k)∧Below V.heap.size V V'):=fun V hV =>
  without_any (fun y=>y=ablk ao) a n1 c1 R m k (HE V (hW.trans hV)).gf (fun y hy=>by have h1:=hW.size;have h2:=hV.size;omega) (hM.moves hV) hR (by omega) hn1 hm
 have H2 : Hid (∀ V a2 n3 c2 o2,Moves W V (fun y=>y=ablk ao) (fun y=>y=ablk ao)→MatA (fun y=>y=ablk ao) V a2 n3 (woS G.ops R k)→V.ownsRow B 3 1 (.slice ao n2 co) n2 (o2.map (Value.int .i64))→Calls Tryz.prog 122 #[.slice a2 n3 c2,.int .i64 x,.int .i64 ((k : Int)+1),.pointer (some ⟨Bc,0,none⟩),.pointer (some ⟨Bo,0,none⟩),.pointer (some ⟨Bf,0,none⟩),.pointer (some ⟨Bg,0,none⟩)] V
   fun e V'=>e = .returned (.tuple #[])∧V'.ownsRow B 3 1 (.slice ao n2 co) n2 ((hfrom G.ops n d (woS G.ops R k) x o2).map (Value.int .i64))∧Moves V V' (fun y=>y=ablk ao) (fun y=>y=ablk ao)):=fun V a2 n3 c2 o2 hV hM2 ho2=>by
  have h:=hI a2 n3 c2 (woS G.ops R k) x o2 V (hW.trans hV) hM2 (woS_rws (Tbl.cl cgf) hR (by omega)) (by have h1:=woS_len_le G.ops R k;have h2:=hM2.len;omega) ho2 (by rw [hnd,h2k];omega)
  rw [hnd] at h
  exact h
 have HCell : Hid (∀ V,Moves W V (fun y=>y=ablk ao) (fun y=>y=ablk ao)→V.cell? ⟨Bf,0,none⟩=some (.func (.func 122) #[] #[.pointer (some ⟨Bc,0,none⟩),.pointer (some ⟨Bo,0,none⟩),.pointer (some ⟨Bf,0,none⟩),.pointer (some ⟨Bg,0,none⟩)])∧V.cell? ⟨Bg,0,none⟩=some (.pointer (some ⟨b,0,none⟩))):=fun V hV=>⟨(HE V (hW.trans hV)).fr,(HE V (hW.trans hV)).gp⟩
 have Hown:=Lib.hid hown
 rw [hy] at Hf
 clear hRl cgf hI HE hM hR hW hown hk hnd h2k h0 hy hx
 go_enter Tryz.func122,Tryz.ntmps122
 go_wp2_with fail
 go_cut [30] (fun v wx=>v = .tuple #[]∧wx.ownsRow B 3 1 (.slice ao n2 co) n2 ((hfrom G.ops n d R y o).map (Value.int .i64))∧Moves W wx (fun y=>y=ablk ao) (fun y=>y=ablk ao))
 case first =>
  go_region_law ((first
   | (go_simp;go_at_call 122;((with_reducible refine (H1.out _ (Below.refl _ _).drew).mono ?_);rintro e W5 ⟨rfl,hown5,hm5⟩))
   | (go_simp;go_at_call 122;((with_reducible refine (H1.out _ (Drawn.below ⟨_,rfl⟩)).mono ?_);rintro e W5 ⟨rfl,hown5,hm5⟩))))
  all_goals (go_wp2_with fail;go_meet;exact ⟨rfl,hown5,(Moves.of_below (Below.refl _ _).drew _).trans hm5⟩)
 obtain ⟨rfl,hown5,hm5⟩:=hcut
 generalize wc=X at *
 obtain ⟨o2,ho2⟩ : ∃ o2,hfrom G.ops n d R y o=o2:=⟨_,rfl⟩
 rw [ho2] at hown5 Hf
 have HM : Hid (Moves W X.drew (fun y=>y=ablk ao) (fun y=>y=ablk ao)):=hm5.trans (Moves.of_below (Below.refl _ _).drew _)
 have Ho : Hid (X.drew.ownsRow B 3 1 (.slice ao n2 co) n2 (o2.map (Value.int .i64))):=own_keep hown5 (Below.refl _ _).drew
 obtain ⟨q1,q2⟩:=HCell.out X hm5
 clear ho2 hown5 hm5 cfr cgp ccn cout H1 Hown hor
 go_wp2_with fail
 go_region_law ((first
  | (go_simp;go_at_call 123;((with_reducible refine (HWo.out _ HM.out).mono ?_);rintro e w6 ⟨a2,n3,c2,rfl,hM6,hb6⟩;have hm6 : Moves W w6 (fun y=>y=ablk ao) (fun y=>y=ablk ao):=HM.out.trans (Moves.of_below hb6 _);obtain ⟨q3,q4⟩:=HCell.out w6 hm6;have ho6:=own_keep Ho.out hb6;have Hc2:=Lib.hid (H2.out w6 a2 n3 c2 o2 hm6 hM6 ho6);clear hM6 ho6))
  | (go_simp;go_at_call 122;((with_reducible refine Hc2.out.mono ?_);rintro e w7 ⟨rfl,hown7,hm7⟩))))
 all_goals (
  have HF : Hid (w7.ownsRow B 3 1 (.slice ao n2 co) n2 ((hfrom G.ops n d (woS G.ops R k) x o2).map (Value.int .i64))∧Moves W w7 (fun y=>y=ablk ao) (fun y=>y=ablk ao)):=⟨hown7,hm6.trans hm7⟩
  clear hown7 hm7 hm6
  go_wp2_with fail
  go_end0
  exact ⟨rfl,by rw [Hf.out];exact HF.out.1,HF.out.2⟩)
end

section
open Go.RowKit
def dimE (P M : Int) (mod : List Int) (N : Int) (L : List (List Int)) : Int:=if codeE P M mod N L=0 then (if 16<N then 8 else 0) else codeE P M mod N L
def DimsPost (P M : Int) (mod : List Int) (N : Int) (L : List (List Int)) (w : World) (e : Ending) (w' : World) : Prop :=
 Below w.heap.size w w'∧((dimE P M mod N L ≠ 0∧e = .returned (.tuple #[.slice none 0 0,.int .i64 (dimE P M mod N L)])) ∨
  (dimE P M mod N L=0∧∃ a c,e = .returned (.tuple #[.slice a (2 ^ N.toNat) c,.int .i64 0])∧w'.ownsRow w.heap.size 3 1 (.slice a (2 ^ N.toNat) c) (2 ^ N.toNat) ((dimsS (tblOf P M.toNat mod).ops N.toNat L).map (Value.int .i64))))
theorem hfrom_any {B : Nat} {W0 : World} {b : Nat} {G : Tbl} {m n Bc Bo Bf Bg : Nat} {ao : Option Addr} {co : Nat} (HE : ∀ V,Moves W0 V (fun y=>y=ablk ao) (fun y=>y=ablk ao)→HEnv V b G Bc Bo Bf Bg n ao (2 ^ n) co) (hao : ablk ao<W0.heap.size) (hn : n≤16) (hnm : n≤m) (hm : m≤1000000) : ∀ d,d≤n→HFromOk B W0 G m n Bc Bo Bf Bg ao (2 ^ n) co d
 | 0,_=>hfromLeaf_any HE hn
 | d+1,hd=>hfromNode_any HE hao hn hnm hm d hd (hfrom_any HE hao hn hnm hm d (by omega))
set_option maxRecDepth 100000 in
set_option maxHeartbeats 4000000 in
theorem dims_any (P M : Int) (am : Option Addr) (mn cm : Nat) (mod : List Int) (N : Int) (a : Option Addr) (n c : Nat) (L : List (List Int)) (w : World) (hmod : Ints w am mn mod) (hi : Mat w a n L) :
  Calls Tryz.prog 72 #[.agg #[.int .i64 P,.int .i64 M,.slice am mn cm,.int .i64 N,.slice a n c]] w (DimsPost P M mod N L w):=by
 have hmf : ∀ (fn : Fn) (first cap : Array Value) (w : World),(Instr.makeFunc fn first cap).run Tryz.prog w = .ok (.func fn first cap) w:=fun _ _ _ _=>rfl
 go_enter Tryz.func72,Tryz.ntmps72
 go_wp2_with fail
 obtain ⟨U,hU⟩ : ∃ U : World,U=w.alloc (.cells #[.int .i64 P,.int .i64 M,.slice am mn cm,.int .i64 N,.slice a n c] 27):=⟨_,rfl⟩
 rw [← hU]
 have hbU : Below w.heap.size w U:=by rw [hU];exact below1 _ _
 have x0 : Box U w.heap.size [.int .i64 P,.int .i64 M,.slice am mn cm,.int .i64 N,.slice a n c]:=by rw [hU];exact Box.new _ _ _ rfl
 have HX:=Lib.hid x0
 clear hU x0
 refine (codeCheck_any P M am mn cm mod N a n c L U (hmod.keep hbU) (hi.keep hbU)).mono ?_
 rintro e w1 ⟨rfl,hb1⟩
 have hbw1:=Below.next hbU hb1
 by_cases hE : codeE P M mod N L=0
 rotate_left
 ·have HE : Hid (dimE P M mod N L=codeE P M mod N L):=if_neg hE
  have Hne:=Lib.hid hE
  have hE' : (codeE P M mod N L != 0)=true:=by simpa using hE
  clear hE
  generalize codeE P M mod N L=er at *
  go_wp2_with fail
  go_ret2
  exact ⟨hbw1,.inl ⟨by rw [HE.out];exact Hne.out,by rw [HE.out];rfl⟩⟩
 have x1:=HX.out.keep hb1
 have c3:=x1.cell 3 rfl
 by_cases h16 : 16<N
 ·have HE : Hid (dimE P M mod N L=8):=by show _=_;rw [dimE,if_pos hE,if_pos h16]
  have hd : decide (16<N)=true:=by simpa using h16
  rw [hE]
  clear hE h16 x1
  go_wp2_with fail
  go_ret2
  exact ⟨hbw1,.inl ⟨by rw [HE.out];decide,by rw [HE.out];rfl⟩⟩
 have HE : Hid (dimE P M mod N L=0):=by show _=_;rw [dimE,if_pos hE,if_neg h16]
 have hd : decide (16<N)=false:=by simpa using h16
 obtain ⟨m,rfl,hm1,hm64,F,hR⟩:=codeE_fld hE
 have hf:=(codeE_zero hE).1
 have Hf:=Lib.hid hf
 have hm16 : m≤16:=by omega
 have hn256 : n≤256:=by rw [← hi.len];exact (codeE_rws hE).choose_spec.2.2.2.1
 rw [hE]
 have c0:=x1.cell 0 rfl
 have c1:=x1.cell 1 rfl
 have c2:=x1.cell 2 rfl
 have hm1':=(hmod.keep hbU).keep hb1
 clear hE x1 hf h16
 go_wp2_with fail
 refine (fieldNew_any P M am mn cm mod w1 hm1').mono ?_
 rintro e w2 (⟨hB,rfl,hb2⟩ | ⟨hB,b,rfl,hG,hbl,hb2⟩)
 ·rw [Hf.out] at hB;cases hB
 clear hB c0 c1 c2 c3
 obtain ⟨G,hGe⟩ : ∃ G,tblOf P M.toNat mod=G:=⟨_,rfl⟩
 rw [hGe] at hG F hR
 have HGe:=Lib.hid hGe
 have HG:=Lib.hid hG
 have HR:=Lib.hid hR
 have x2:=(HX.out.keep hb1).keep hb2
 have e3:=x2.cell 3 rfl
 have hbw2:=Below.next hbw1 hb2
 obtain ⟨q,hq⟩ : ∃ q,2 ^ m=q:=⟨_,rfl⟩
 have hq17 : q≤65536:=by rw [← hq];exact Nat.pow_le_pow_right (by omega) hm16
 have hq1 : 1≤q:=by rw [← hq];exact Nat.one_le_two_pow
 have hpw:=pow17 (p:=m) (by omega)
 rw [hq] at hpw
 have Hq:=Lib.hid hq
 have hk16 : m<64:=by omega
 clear x2 hGe hG hR hq
 go_upto_region 9 with fail
 obtain ⟨W3,hW3⟩ : ∃ W3 : World,W3=w2.alloc (.cells #[.pointer (some ⟨b,0,none⟩)] 109):=⟨_,rfl⟩
 rw [← hW3]
 have hb3 : Below w2.heap.size w2 W3:=by rw [hW3];exact below1 _ _
 have g3 : Box W3 w2.heap.size [.pointer (some ⟨b,0,none⟩)]:=by rw [hW3];exact Box.new _ _ _ rfl
 have G3:=Lib.hid g3
 have f3:=cell_keep hb3 e3
 clear hW3 g3 e3
 go_upto_region 11 with (at_make;refine wpList_mk rfl _ _ 22 3 rfl (.int .i64 0) 8 Tryz.underlying22 infoInt rfl q rfl rfl (by omega) (by unfold maxLen;omega) ?_;intro a4 w4 hown4 hb4 hge4 hlt4)
 have hown4w : w4.ownsRow w.heap.size 3 1 (.slice a4 q q) q ((List.replicate q (0 : Int)).map (Value.int .i64)):=by
  rw [List.map_replicate];exact own_mono hown4 (Nat.le_trans hbw2.size hb3.size)
 obtain ⟨W5,hW5⟩ : ∃ W5 : World,W5=(w4.alloc (.cells #[.slice a4 q q] 22)).alloc (.cells #[.nilFunc] 139):=⟨_,rfl⟩
 rw [← hW5]
 have hb5 : Below w4.heap.size w4 W5:=by rw [hW5];exact below2 _ _ _
 have o5 : Box W5 w4.heap.size [.slice a4 q q]:=by rw [hW5];exact (Box.new _ _ _ rfl).alloc _
 have f5 : Box W5 (w4.heap.size+1) [.nilFunc]:=by rw [hW5];exact Box.new _ _ _ (by simp)
 have hs5 : W5.heap.size=w4.heap.size+2:=by rw [hW5];simp
 clear hW5
 have fc:=f5.cell 0 rfl
 have ff:=f5.frozen 0
 have hst : ∀ (fn : Fn) (x y : Array Value),(store (⟨w4.heap.size+1,0,none⟩ : Addr) (.func fn x y)).run Tryz.prog W5 = .ok () (W5.setCell ⟨w4.heap.size+1,0,none⟩ (.func fn x y)):=fun fn x y=>by
  rw [run_store _ _ _ _ _ rfl,fc];simp [ff]
 have hb34:=Below.next hb3 hb4
 have hb35:=Below.next hb34 hb5
 have hb25 : Below w2.heap.size w2 W5:=hb35
 have hbw5:=Below.next hbw2 hb25
 have HE5:=Lib.hid (And.intro hown4w (And.intro hb5 (And.intro o5 (And.intro hs5 (And.intro hb25 hbw5)))))
 have Hlt4:=Lib.hid (And.intro hge4 hlt4)
 have Hg4:=Lib.hid (G3.out.keep hb4)
 clear hown4w hb5 o5 f5 hb34 hb35 hb25 hbw5 hown4 hb4 hge4 hlt4 f3
 go_upto_region 12 with fail
 obtain ⟨W6,hW6⟩ : ∃ W6 : World,W6=W5.setCell ⟨w4.heap.size+1,0,none⟩ (.func (.func 122) #[] #[.pointer (some ⟨w.heap.size,0,none⟩),.pointer (some ⟨w4.heap.size,0,none⟩),.pointer (some ⟨w4.heap.size+1,0,none⟩),.pointer (some ⟨w2.heap.size,0,none⟩)]):=⟨_,rfl⟩
 rw [← hW6]
 obtain ⟨hown4w,hb5,o5,hs5,hb25,hbw5⟩:=HE5.out
 obtain ⟨hge4,hlt4⟩:=Hlt4.out
 have hb56 : Below (w4.heap.size+1) W5 W6:=by rw [hW6];exact (Below.refl _ _).setCell (p:=⟨w4.heap.size+1,0,none⟩) (Nat.le_refl _) _
 have fc6 : W6.cell? ⟨w4.heap.size+1,0,none⟩=some (.func (.func 122) #[] #[.pointer (some ⟨w.heap.size,0,none⟩),.pointer (some ⟨w4.heap.size,0,none⟩),.pointer (some ⟨w4.heap.size+1,0,none⟩),.pointer (some ⟨w2.heap.size,0,none⟩)]):=by
  rw [hW6];exact World.cell?_setCell_same' _ _ _ (by rw [fc];rfl)
 clear hW6 hst fc ff
 have hs3 : W3.heap.size≤w4.heap.size:=by omega
 have hsz2:=hb3.size
 have hb26 : Below w2.heap.size w2 W6:=hb25.trans (hb56.mono (by omega))
 have hbw6 : Below w.heap.size w W6:=Below.next hbw2 hb26
 have hb46 : Below w4.heap.size w4 W6:=hb5.trans (hb56.mono (by omega))
 have hs6 : w4.heap.size+2≤W6.heap.size:=by have:=hb56.size;omega
 have oc6 : W6.cell? ⟨w4.heap.size,0,none⟩=some (.slice a4 q q):=(hb56.cell (p:=⟨w4.heap.size,0,none⟩) (by show w4.heap.size<_;omega)).trans (o5.cell 0 rfl)
 have gc6 : W6.cell? ⟨w2.heap.size,0,none⟩=some (.pointer (some ⟨b,0,none⟩)):=by
  exact cell_keep hb46 (Hg4.out.cell 0 rfl)
 have cc6 : W6.cell? ⟨w.heap.size,3,none⟩=some (.int .i64 m):=cell_keep hb26 (((HX.out.keep hb1).keep hb2).cell 3 rfl)
 have cg6 : W6.cell? ⟨w.heap.size,4,none⟩=some (.slice a n c):=cell_keep hb26 (((HX.out.keep hb1).keep hb2).cell 4 rfl)
 have hxlt : w.heap.size<U.heap.size:=HX.out.1
 have hsz1:=hb1.size
 have hsw2:=hb2.size
 have hw2l : w2.heap.size<W3.heap.size:=G3.out.1
 have hE : ∀ V,Moves W6 V (fun y=>y=ablk a4) (fun y=>y=ablk a4)→HEnv V b G w.heap.size w4.heap.size (w4.heap.size+1) w2.heap.size m a4 (2 ^ m) q:=fun V hV=>by
  refine ⟨hV.cell cc6 (by show ¬ w.heap.size=ablk a4;omega),?_,hV.cell fc6 (by show ¬ w4.heap.size+1=ablk a4;omega),hV.cell gc6 (by show ¬ w2.heap.size=ablk a4;omega),?_⟩
  ·rw [Hq.out];exact hV.cell oc6 (by show ¬ w4.heap.size=ablk a4;omega)
  ·refine HG.out V fun x h1 h2=>?_
   exact (hV.block x (by have:=hb26.size;omega) (by show ¬ x=ablk a4;omega)).trans (hb26.block x h2)
 have hown6 : W6.ownsRow w.heap.size 3 1 (.slice a4 q q) q ((List.replicate q (0 : Int)).map (Value.int .i64)):=own_keep hown4w hb46
 have hM6 : MatA (fun y=>y=ablk a4) W6 a n L:=(MatA.of_mat hi fun y hy=>by have h9:=hbw2.size;omega).keep hbw6
 have hcall:=hfrom_any (B:=w.heap.size) (m:=m) hE (by omega) hm16 (Nat.le_refl m) (by omega) m (Nat.le_refl m) a n c L 0 (List.replicate q 0) W6 (Moves.refl _ _) hM6 HR.out (by omega) (by rw [Hq.out];exact hown6) (by rw [Nat.sub_self];exact Nat.one_pos)
 rw [Nat.sub_self,Hq.out] at hcall
 have Hcall : Hid (Calls Tryz.prog 122 #[.slice a n c,.int .i64 0,.int .i64 0,.pointer (some ⟨w.heap.size,0,none⟩),.pointer (some ⟨w4.heap.size,0,none⟩),.pointer (some ⟨w4.heap.size+1,0,none⟩),.pointer (some ⟨w2.heap.size,0,none⟩)] W6
   fun e V=>e = .returned (.tuple #[])∧V.ownsRow w.heap.size 3 1 (.slice a4 q q) q ((hfrom G.ops m m L 0 (List.replicate q 0)).map (Value.int .i64))∧Moves W6 V (fun y=>y=ablk a4) (fun y=>y=ablk a4)):=hcall
 have Hoc : Hid (∀ V,Moves W6 V (fun y=>y=ablk a4) (fun y=>y=ablk a4)→V.cell? ⟨w4.heap.size,0,none⟩=some (.slice a4 q q)∧Below w.heap.size w V):=fun V hV =>
  ⟨hV.cell oc6 (by show ¬ w4.heap.size=ablk a4;omega),hbw6.trans (hV.below (fun y hy=>by have h9:=hbw2.size;omega) hbw6.size)⟩
 have HP : Hid (∀ V,V.ownsRow w.heap.size 3 1 (.slice a4 q q) q ((hfrom G.ops m m L 0 (List.replicate q 0)).map (Value.int .i64))→Below w.heap.size w V→DimsPost P M mod m L w (.returned (.tuple #[.slice a4 q q,.int .i64 0])) V):=fun V h1 h2=>by
  refine ⟨h2,.inr ⟨HE.out,a4,q,?_,?_⟩⟩
  ·rw [Int.toNat_natCast,Hq.out]
  ·rw [Int.toNat_natCast,Hq.out,dimsS,HGe.out,Hq.out];exact h1
 clear hcall hM6 hown6 hE hown4w hb5 o5 hb46 hb26 hbw6 hb56 oc6 gc6 cc6
 go_wp2_with fail
 refine Hcall.out.mono ?_
 rintro e V ⟨rfl,hV1,hV2⟩
 obtain ⟨k1,k2⟩:=Hoc.out V hV2
 have HF:=Lib.hid (HP.out V hV1 k2)
 clear hV1 hV2 Hcall
 go_wp2_with fail
 go_ret2
 exact HF.out
end

section
open Go.RowKit
theorem Moves.grownI {U w w' : World} {I : Nat→Prop} {a : Option Addr} {n c : Nat} (h : Moves U w I I) (hg : w.grownBy w' (Value.slice a n c).ownBlock) (hI : a ≠ none→I (ablk a)∨U.heap.size≤ablk a) : Moves U w' I I :=
 ⟨hg.os.trans h.os,hg.tape.trans h.tape,hg.output.trans h.output,Nat.le_trans h.size hg.size,fun b hb hIb=>(hg.block b (Nat.lt_of_lt_of_le hb h.size) (fun e=>by
  by_cases ha : Apt a b
  ·exact ha.own n c e.symm
  ·have h1 : a ≠ none:=fun h=>ha (.inl h)
   have h2 : ablk a=b:=Classical.byContradiction fun h=>ha (.inr h)
   rw [h2] at hI
   rcases hI h1 with h3 | h3
   ·exact hIb h3
   ·omega)).trans (h.block b hb hIb),fun b hb=>.inl hb⟩
theorem MatN.moves {B : Nat} {w w' : World} {I I' : Nat→Prop} {a : Option Addr} {n : Nat} {L : List (List Int)} (h : MatN B w a n L) (hM : Moves w w' I I') (hI : ∀ b,I b→b<B) : MatN B w' a n L :=
 ⟨h.len,h.pl,h.max,h.lo,fun i hi=>by
  obtain ⟨b,m,c,h1,h2⟩:=h.cell i hi
  exact ⟨b,m,c,hM.cell h1 (fun hc=>Nat.lt_irrefl _ (Nat.lt_of_lt_of_le (hI _ hc) (h.lo (by omega)))),h2.ints.moves hM (fun hm hc=>Nat.lt_irrefl _ (Nat.lt_of_lt_of_le (hI _ hc) (h2.lo hm))),h2.lo⟩⟩
end

section
open Go.RowKit
def dimZ (O : FOps) (L : List (List Int)) (m : Nat) (S : List Int) : Int:=(L.length : Int) - (rkQ O L (frTo false S m) : Nat)
def pD (O : FOps) (L : List (List Int)) (m : Nat) (r : Int) (t : List Int) : Bool:=decide (r≤dimZ O L m t)
def firS (O : FOps) (L : List (List Int)) (m : Nat) (r : Int) : List Int:=((allS m).find? (pD O L m r)).getD []
end

section
open Go.RowKit
theorem own_take {w : World} {B : Nat} {e : TypeId} {a : Option Addr} {n c k : Nat} {xs : List Value} (h : w.ownsRow B e 1 (.slice a n c) n xs) (hk : k≤n) : w.ownsRow B e 1 (.slice a k c) k (xs.take k):=by
 have hl:=own_len h
 refine ⟨by rw [List.length_take];omega,?_⟩
 rcases h.2 with ⟨hv,h0⟩ | ⟨g,cap,cur,hv,hg,hh,hle,hm,hs,ht⟩
 ·cases hv
  obtain rfl : k=0:=by omega
  exact .inl ⟨rfl,rfl⟩
 ·cases hv
  refine .inr ⟨g,c,cur,rfl,hg,hh,by omega,hm,hs,?_⟩
  rw [← ht,List.take_take];congr 1;omega
theorem OMat.take {B : Nat} {w : World} {a : Option Addr} {n c k : Nat} {R : List (Option Addr × Nat)} {L : List (List Int)} (h : OMat w B a n c R L) (hk : k≤n) : OMat w B a k c (R.take k) (L.take k):=by
 have hr:=h.rl
 have hl:=h.ll
 have eR : ∀ {i},i<k→nthA (R.take k) i=nthA R i:=fun {i} hi=>by
  rw [nthA_getElem (show i<(R.take k).length by rw [List.length_take];omega),nthA_getElem (by omega),List.getElem_take]
 have eL : ∀ {i},i<k→nthR (L.take k) i=nthR L i:=fun {i} hi=>by
  rw [nthR_getElem (show i<(L.take k).length by rw [List.length_take];omega),nthR_getElem (by omega),List.getElem_take]
 refine ⟨by rw [List.length_take];omega,by rw [List.length_take];omega,?_,fun i hi=>?_,fun i hi=>?_,fun i j hi hj=>?_⟩
 ·rw [← List.take_zipWith];exact own_take h.own hk
 ·rw [eR hi,eL hi];exact h.row i (by omega)
 ·rw [eR hi];exact h.apt i (by omega)
 ·rw [eR hi,eR hj];exact h.sep i j (by omega) (by omega)
end

end Go.Proofs.YtcflcogbpnmjeaaGreat
