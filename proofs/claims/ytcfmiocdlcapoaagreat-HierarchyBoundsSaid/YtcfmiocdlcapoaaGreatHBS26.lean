import Derived.Test.YtcfmiocdlcapoaaGreatHBS22
namespace Go.Proofs.YtcfmiocdlcapoaaGreat
set_option linter.all false
set_option maxRecDepth 100000
set_option maxHeartbeats 4000000
open Go.RowKit Tryz
def dr : Lz->Lz->Int
 | [],[]=>0
 | [],_ :: _=>-1
 | _ :: _,[]=>1
 | x :: a,y :: b=>if x<y then -1 else if y<x then 1 else dr a b
def jW (a b : Lz) : Bool:=decide (a.length<b.length) || (decide (a.length=b.length) && decide (dr a b<0))
def cY (l : Lz) (n : Nat) (r : Int) : Nat->Bool × Lz
 | 0=>(false,[])
 | k+1=>if nth l k<r then cY l n r k else if (cY l n r k).1=false\/jW (aQ k n) (cY l n r k).2=true then (true,aQ k n) else cY l n r k
theorem sQ : ∀ {a b c : Lz},dr a b<0->dr b c<0->dr a c<0
 | [],[],_,h,_=>by simp [dr] at h
 | [],y :: b,[],_,h=>by simp [dr] at h
 | [],y :: b,z :: c,_,_=>by simp [dr]
 | x :: a,[],_,h,_=>by simp [dr] at h
 | x :: a,y :: b,[],_,h=>by simp [dr] at h
 | x :: a,y :: b,z :: c,h1,h2=>by
  rw [dr] at h1 h2 ⊢;by_cases xy : x<y
  ·by_cases yz : y<z
   ·rw [Mg (by omega)];decide
   ·rw [Mh yz] at h2;by_cases zy : z<y
    ·rw [Mg zy] at h2;omega
    ·rw [Mg (by omega)];decide
  ·rw [Mh xy] at h1;by_cases yx : y<x
   ·rw [Mg yx] at h1;omega
   ·rw [Mh yx] at h1;by_cases yz : y<z
    ·rw [Mg (by omega)];decide
    ·rw [Mh yz] at h2;by_cases zy : z<y
     ·rw [Mg zy] at h2;omega
     ·rw [Mh zy] at h2;rw [Mh (by omega),Mh (by omega)];exact sQ h1 h2
theorem ga {a b : Lz} : jW a b=true ↔ a.length<b.length\/a.length=b.length/\dr a b<0:=by unfold jW;rw [Pc,MC,MG,MG,MG]
theorem Aj {a b c : Lz} (h1 : jW a b=true) (h2 : jW b c=true) : jW a c=true:=by
 rw [ga] at h1 h2 ⊢;rcases h1 with h1 | ⟨h1,k1⟩
 ·rcases h2 with h2 | ⟨h2,_⟩
  ·exact .inl (by omega)
  ·exact .inl (by omega)
 ·rcases h2 with h2 | ⟨h2,k2⟩
  ·exact .inl (by omega)
  ·exact .inr ⟨by omega,sQ k1 k2⟩
theorem vu : ∀a : Lz,dr a a=0
 | []=>rfl
 | x :: a=>by rw [dr,Mh (by omega),Mh (by omega)];exact vu a
theorem Ci (a : Lz) : jW a a=false:=by rw [PA];intro h;rw [ga,vu] at h;omega
theorem Ar (l : Lz) (n : Nat) (r : Int) : ∀k,((cY l n r k).1=false->∀j,j<k->nth l j<r) /\
  ((cY l n r k).1=true->(∃j,j<k/\¬ nth l j<r/\(cY l n r k).2=aQ j n)/\∀j,j<k->¬ nth l j<r->jW (aQ j n) (cY l n r k).2=false)
 | 0=>⟨λ_ j hj=>by omega,λh=>by simp [cY] at h⟩
 | k+1=>by
  obtain ⟨h1,h2⟩:=Ar l n r k;rw [cY];by_cases hr : nth l k<r
  ·rw [Mg hr];refine ⟨λh j hj=>?_,λh=>?_⟩
   ·by_cases e : j=k
    ·subst e;exact hr
    ·exact h1 h j (by omega)
   ·obtain ⟨⟨j,g1,g2⟩,g3⟩:=h2 h;refine ⟨⟨j,by omega,g2⟩,λj hj hn=>?_⟩;by_cases e : j=k
    ·subst e;exact absurd hr hn
    ·exact g3 j (by omega) hn
  ·rw [Mh hr];by_cases hc : (cY l n r k).1=false\/jW (aQ k n) (cY l n r k).2=true
   ·rw [Mg hc];refine ⟨λh=>(by cases h),λ_=>⟨⟨k,by omega,hr,rfl⟩,λj hj hn=>?_⟩⟩;show jW (aQ j n) (aQ k n)=false;by_cases e : j=k
    ·subst e;exact Ci _
    ·rw [PA];intro hl;rcases hc with hc | hc
     ·exact hn (h1 hc j (by omega))
     ·cases hw : (cY l n r k).1 with
      | false=>exact hn (h1 hw j (by omega))
      | true =>
       have:=(h2 hw).2 j (by omega) hn
       rw [Aj hl hc] at this
       cases this
   ·rw [Mh hc];have hw : (cY l n r k).1=true:=by
     cases hw : (cY l n r k).1 with
     | false=>exact absurd (.inl hw) hc
     | true=>rfl
    have hlk : jW (aQ k n) (cY l n r k).2=false:=by
     cases hw2 : jW (aQ k n) (cY l n r k).2 with
     | false=>rfl
     | true=>exact absurd (.inr hw2) hc
    refine ⟨λh=>(by rw [hw] at h;cases h),λ_=>?_⟩;obtain ⟨⟨j,g1,g2⟩,g3⟩:=h2 hw;refine ⟨⟨j,by omega,g2⟩,λj hj hn=>?_⟩;by_cases e : j=k
    ·subst e;exact hlk
    ·exact g3 j (by omega) hn
def gS (n : Nat) : Nat->Nat->ZZ
 | 0,_=>[[]]
 | s+1,lo=>(List.range' lo (n - lo)).flatMap λi=>(gS n s (i+1)).map λt=>(i : Int) :: t
def ue (lo n : Nat) (t : Lz) : Prop:=t.Pairwise (· < ·)/\∀x ∈ t,(lo : Int)<=x/\x<n
theorem dC {n : Nat} : ∀ {s lo : Nat} {t : Lz},t ∈ gS n s lo ↔ t.length=s/\ue lo n t
 | 0,lo,t=>by
  rw [gS,MK];constructor
  ·rintro rfl;exact ⟨rfl,Py,λx hx=>by simp at hx⟩
  ·rintro ⟨h,_⟩;exact MF h
 | s+1,lo,t=>by
  rw [gS,Ox];constructor
  ·rintro ⟨i,hi,h⟩;rw [List.mem_range'_1] at hi;obtain ⟨u,hu,rfl⟩:=List.mem_map.1 h;obtain ⟨h1,h2,h3⟩:=dC.1 hu;refine ⟨by simp [h1],List.pairwise_cons.2 ⟨λy hy=>by have:=h3 y hy;omega,h2⟩,λx hx=>?_⟩;rcases List.mem_cons.1 hx with rfl | hx
   ·omega
   ·have:=h3 x hx;omega
  ·rintro ⟨h1,h2,h3⟩;match t,h1,h2,h3 with
   | x :: u,h1,h2,h3 =>
    have hx:=h3 x (by simp)
    obtain ⟨h4,h5⟩:=List.pairwise_cons.1 h2
    refine ⟨x.toNat,List.mem_range'_1.2 (by omega),List.mem_map.2 ⟨u,dC.2 ⟨by simpa using h1,h5,λy hy=>?_⟩,?_⟩⟩
    ·have:=h4 y hy
     have:=h3 y (by simp [hy])
     omega
    ·rw [NL (by omega)]
theorem tj (n : Nat) : ∀(s lo : Nat),(gS n s lo).Pairwise (λa b=>dr a b<0)
 | 0,lo=>by rw [gS];exact PI _ _
 | s+1,lo=>by
  rw [gS,O0];refine ⟨λi _=>?_,?_⟩
  ·rw [Nr];refine (tj n s (i+1)).imp λh=>?_;rw [dr,Mh (by omega),Mh (by omega)];exact h
  ·refine NA (λ{i j} hij x hx y hy=>?_) (List.pairwise_lt_range' (s:=lo) (n:=n - lo));obtain ⟨a,_,rfl⟩:=List.mem_map.1 hx;obtain ⟨b,_,rfl⟩:=List.mem_map.1 hy;rw [dr,Mg (by omega)];decide
def pM (n : Nat) : ZZ:=(List.range (n+1)).flatMap λs=>gS n s 0
theorem uL (n : Nat) : (pM n).Pairwise (λa b=>jW a b=true):=by
 unfold pM;rw [O0];refine ⟨λs _=>?_,?_⟩
 ·refine PE (λ{a b} ha hb h=>?_) (tj n s 0);rw [ga];exact .inr ⟨by rw [(dC.1 ha).1,(dC.1 hb).1],h⟩
 ·refine NA (λ{s s'} hs a ha b hb=>?_) (PQ (n:=n+1));rw [ga];exact .inl (by rw [(dC.1 ha).1,(dC.1 hb).1];exact hs)
theorem kb {lo n : Nat} {t : Lz} (h : ue lo n t) (hn : lo<=n) : t.length+lo<=n:=by
 induction t generalizing lo with
 | nil=>simpa using hn
 | cons x u ih =>
  obtain ⟨h4,h5⟩:=List.pairwise_cons.1 h.1
  have hx:=h.2 x (by simp)
  have:=ih (lo:=x.toNat+1) ⟨h5,λy hy=>by have:=h4 y hy;have:=h.2 y (by simp [hy]);omega⟩ (by omega)
  simp only [MT];omega
theorem jC {n : Nat} {t : Lz} : t ∈ pM n ↔ ue 0 n t:=by
 unfold pM;rw [Ox];constructor
 ·rintro ⟨s,_,h⟩;exact (dC.1 h).2
 ·intro h;exact ⟨t.length,List.mem_range.2 (by have:=kb h (Mj _);omega),dC.2 ⟨rfl,h⟩⟩
theorem oD : ∀ {a b : Lz},a.Pairwise (· < ·)->b.Pairwise (· < ·)->(∀x,x ∈ a ↔ x ∈ b)->a=b
 | [],[],_,_,_=>rfl
 | [],y :: b,_,_,h=>by have:=(h y).2 (by simp);simp at this
 | x :: a,[],_,_,h=>by have:=(h x).1 (by simp);simp at this
 | x :: a,y :: b,ha,hb,h=>by
  obtain ⟨a1,a2⟩:=List.pairwise_cons.1 ha;obtain ⟨b1,b2⟩:=List.pairwise_cons.1 hb;have e : x=y:=by
   rcases List.mem_cons.1 ((h x).1 (by simp)) with e | e
   ·exact e
   ·rcases List.mem_cons.1 ((h y).2 (by simp)) with e2 | e2
    ·exact e2.symm
    ·have:=a1 _ e2;have:=b1 _ e;omega
  subst e;rw [oD a2 b2 λz=>?_];constructor
  ·intro hz;rcases List.mem_cons.1 ((h z).1 (by simp [hz])) with e | e
   ·have:=a1 z hz;omega
   ·exact e
  ·intro hz;rcases List.mem_cons.1 ((h z).2 (by simp [hz])) with e | e
   ·have:=b1 z hz;omega
   ·exact e
theorem l4 (x : Nat) : ∀n,ue 0 n (aQ x n)
 | 0=>⟨Py,λy hy=>by simp [aQ] at hy⟩
 | n+1=>by
  obtain ⟨h1,h2⟩:=l4 x n;unfold aQ;split
  ·refine ⟨?_,λy hy=>?_⟩
   ·rw [P9];refine ⟨h1,PI _ _,λa ha b hb=>?_⟩;rw [MK] at hb;have:=h2 a ha;omega
   ·rcases List.mem_append.1 hy with hy | hy
    ·have:=h2 y hy;omega
    ·rw [MK] at hy;omega
  ·exact ⟨h1,λy hy=>by have:=h2 y hy;omega⟩
theorem oJ {n : Nat} (hn : n<=64) {t : Lz} (h : ue 0 n t) : ∃x,x<2 ^ n/\aQ x n=t:=by
 have hT : ∀j,j<t.length->0<=nth t j/\nth t j<64:=λj hj=>by have:=h.2 _ (aN hj);omega
 have hm : ∀i,(uM t).testBit i=true ↔ (i : Int) ∈ t:=λi=>by
  rw [uM,qH t.length hT i];constructor
  ·rintro ⟨j,hj,e⟩;rw [<- e];exact aN hj
  ·intro hi;obtain ⟨j,hj,e⟩:=List.mem_iff_getElem.1 hi;exact ⟨j,hj,by rw [aj hj];exact e⟩
 refine ⟨uM t,?_,oD (l4 _ _).1 h.1 λx=>?_⟩
 ·refine Nat.lt_pow_two_of_testBit _ λi hi=>?_;rw [PA];intro hb;have:=h.2 _ ((hm i).1 hb);omega
 ·rw [jM];constructor
  ·rintro ⟨j,_,rfl,hb⟩;exact (hm j).1 hb
  ·intro hx;have:=h.2 x hx;exact ⟨x.toNat,by omega,by omega,(hm _).2 (by rw [NL (by omega)];exact hx)⟩
theorem nR {α : Type} {R : α->α->Prop} {p : α->Bool} : ∀ {l : List α} {t : α},l.Pairwise R->l.find? p=some t->p t=true/\t ∈ l/\∀u ∈ l,p u=true->u=t\/R t u
 | x :: l,t,hl,h=>by
  obtain ⟨h1,h2⟩:=List.pairwise_cons.1 hl;rw [List.find?_cons] at h;split at h
  ·rename_i hp;cases h
   exact ⟨hp,by simp,λu hu _=>by
    rcases List.mem_cons.1 hu with e | e
    ·exact .inl e
    ·exact .inr (h1 u e)⟩
  ·rename_i hp;obtain ⟨k1,k2,k3⟩:=nR h2 h;refine ⟨k1,by simp [k2],λu hu hpu=>?_⟩;rcases List.mem_cons.1 hu with e | e
   ·subst e;rw [hpu] at hp;cases hp
   ·exact k3 u e hpu
theorem DL {l : Lz} {n : Nat} (hn : n<=64) {r : Int} {p : Lz->Bool} (hp : ∀x,x<2 ^ n->(p (aQ x n)=true ↔ ¬ nth l x<r)) :
  (cY l n r (2 ^ n)).2=((pM n).find? p).getD []/\((cY l n r (2 ^ n)).1=true->(pM n).find? p=some (cY l n r (2 ^ n)).2):=by
 obtain ⟨h1,h2⟩:=Ar l n r (2 ^ n);have h0 : ∀k,(cY l n r k).1=false->(cY l n r k).2=[]:=λk=>by
  induction k with
  | zero=>intro _;rfl
  | succ k ih =>
   rw [cY]
   split
   ·exact ih
   ·split
    ·intro h;cases h
    ·exact ih
 cases hw : (cY l n r (2 ^ n)).1 with
 | false =>
  have hnone : (pM n).find? p=none:=by rw [List.find?_eq_none];intro t ht hpt;obtain ⟨x,hx,rfl⟩:=oJ hn (jC.1 ht);exact (hp x hx).1 hpt (h1 hw x hx)
  rw [hnone]
  exact ⟨h0 _ hw,λh=>by cases h⟩
 | true =>
  obtain ⟨⟨j,g1,g2,g3⟩,g4⟩:=h2 hw
  have hb : aQ j n ∈ pM n:=jC.2 (l4 j n)
  cases hf : (pM n).find? p with
  | none =>
   have:=List.find?_eq_none.1 hf _ hb
   exact absurd ((hp j g1).2 g2) this
  | some t =>
   obtain ⟨k1,k2,k3⟩:=nR (uL n) hf
   have ht : t=(cY l n r (2 ^ n)).2:=by
    rcases k3 _ hb ((hp j g1).2 g2) with e | e
    ·rw [g3];exact e.symm
    ·obtain ⟨x,hx,rfl⟩:=oJ hn (jC.1 k2);have:=g4 x hx ((hp x hx).1 k1);rw [g3,e] at this;cases this
   exact ⟨ht.symm,λ_=>by rw [ht]⟩
section
variable {O : aJ} {El : Int->Prop} {m : Nat} {A B L : ZZ}
theorem ja.JB (F : bR O El) (n : Nat) : ja O El n (λ_=>0) :=
 ⟨λ_ _=>F.zero,λ_ _ x _ _ hx=>by rw [F.dt hx,F.fD,F.add_zero _ F.zero],λ_ x _ hx=>by rw [F.dt hx]⟩
theorem ja.dot (F : bR O El) {n : Nat} {u : Nat->Int} : ∀ {k},k<=n->(∀j,j<k->El (u j))->ja O El n (λw=>df O u (λj=>nth w j) k)
 | 0,_,_=>ja.JB F n
 | k+1,hk,hu=>by have h1:=ja.dot F (n:=n) (u:=u) (k:=k) (by omega) λj hj=>hu j (by omega);refine (h1.comb F (ja.vH F (i:=k) (by omega)) (F.cl.neg _ (hu k (by omega)))).congr F λv hv=>?_;show O.add _ (O.mul (u k) (nth v k))=O.add _ (O.neg (O.mul (nth v k) (O.neg (u k))));have hvk:=hv.at (show k<n by omega);rw [F.mul_neg hvk (hu k (by omega)),F.neg_neg (F.cl.mul _ _ hvk (hu k (by omega))),F.mul_comm _ _ hvk (hu k (by omega))]
theorem FE (F : bR O El) (hA : bx El m A) {ι : Nat->Nat} (hι : ∀j,j<A.length->ι j<m) (h1 : ∀i j,i<A.length->j<A.length->nth (ai A i) (ι j)=if i=j then 1 else 0) {f : Nat->Int} (hf : ∀x,x<m->El (f x)) :
  ∀k,k<=A.length->∃g,RS O El m A g/\∀j,j<k->g (ι j)=f (ι j)
 | 0,_=>⟨λ_=>0,RS.JB F λ_ _=>rfl,λj hj=>by omega⟩
 | k+1,hk=>by
  obtain ⟨g,hg,h2⟩:=FE F hA hι h1 hf k (by omega);have hge:=λx (hx : x<m)=>RS.el F hA hg hx;have hk1:=hge _ (hι k (by omega));have hk2:=hf _ (hι k (by omega));have hs : El (O.add (g (ι k)) (O.neg (f (ι k)))):=F.cl.add _ _ hk1 (F.cl.neg _ hk2);refine ⟨_,hg.comb F (Q5 F (show k<A.length by omega)) hs,λj hj=>?_⟩;show O.add (g (ι j)) (O.neg (O.mul (nth (ai A k) (ι j)) (O.add (g (ι k)) (O.neg (f (ι k))))))=_;rw [h1 k j (by omega) (by omega)];by_cases e : k=j
  ·subst e;rw [Mg rfl,F.one_mul _ hs,F.neg_add hk1 (F.cl.neg _ hk2),F.neg_neg hk2,<- F.add_assoc _ _ _ hk1 (F.cl.neg _ hk1) hk2,F.add_neg _ hk1,F.zI hk2]
  ·rw [Mh e,F.kj hs,F.fD,F.add_zero _ (hge _ (hι j (by omega)))];exact h2 j (by omega)
theorem uW (F : bR O El) {a b c : Nat->Int} : ∀t,(∀p,p<t->El (a p))->(∀p,p<t->El (b p))->(∀p,p<t->El (c p))->df O (λp=>O.add (a p) (O.neg (b p))) c t=O.add (df O a c t) (O.neg (df O b c t))
 | 0,_,_,_=>by show (0 : Int)=O.add 0 (O.neg 0);rw [F.fD,F.add_zero _ F.zero]
 | t+1,ha,hb,hc=>by have ih:=uW F t (λp hp=>ha p (by omega)) (λp hp=>hb p (by omega)) (λp hp=>hc p (by omega));have h1:=ha t (by omega);have h2:=hb t (by omega);have h3:=hc t (by omega);have d1:=ml F t (λp hp=>ha p (by omega)) (λp hp=>hc p (by omega));have d2:=ml F t (λp hp=>hb p (by omega)) (λp hp=>hc p (by omega));have m1:=F.cl.mul _ _ h1 h3;have m2:=F.cl.mul _ _ h2 h3;show O.add (df O (λp=>O.add (a p) (O.neg (b p))) c t) (O.mul (O.add (a t) (O.neg (b t))) (c t))=O.add (O.add (df O a c t) (O.mul (a t) (c t))) (O.neg (O.add (df O b c t) (O.mul (b t) (c t))));rw [ih,F.mul_comm _ _ (F.cl.add _ _ h1 (F.cl.neg _ h2)) h3,F.mul_add _ _ _ h3 h1 (F.cl.neg _ h2),F.mul_neg h3 h2,F.mul_comm _ _ h3 h1,F.mul_comm _ _ h3 h2,F.neg_add d2 m2,F.Gq d1 (F.cl.neg _ d2) m1 (F.cl.neg _ m2)]
theorem RS.dot (F : bR O El) (hA : bx El m A) (hB : bx El m B) (ho : nG O m A B) {f : Nat->Int} (hf : RS O El m A f) {i : Nat} (hi : i<B.length) : df O f (λp=>nth (ai B i) p) m=0:=by obtain ⟨e,he,h2⟩:=hf;have hb : ∀p,p<m->El (nth (ai B i) p):=λp hp=>QV (hB.row hi) hp;rw [cT (a':=λp=>e (aK A p)) (b':=λp=>nth (ai B i) p) m λp hp=>⟨h2 p hp,rfl⟩];rw [gI F m (λp _=>he.el _ (ch hA F.zero p)) hb];refine lN F hA he hb λj hj=>?_;rw [gI F m hb λp hp=>QV (hA.row hj) hp];exact ho j i hj hi
theorem sX (F : bR O El) (hA : bx El m A) (hB : bx El m B) {ι κ : Nat->Nat} (hι : ∀j,j<A.length->ι j<m) (h1 : ∀i j,i<A.length->j<A.length->nth (ai A i) (ι j)=if i=j then 1 else 0)
  (hκ : ∀i,i<B.length->κ i<m) (h2 : ∀i j,i<B.length->j<B.length->nth (ai B i) (κ j)=if i=j then 1 else 0)
  (hall : ∀x,x<m->(∃j,j<A.length/\ι j=x)\/∃i,i<B.length/\κ i=x) (ho : nG O m A B) {f : Nat->Int} (hf : ∀x,x<m->El (f x)) (hfo : ∀i,i<B.length->df O f (λp=>nth (ai B i) p) m=0) : RS O El m A f:=by
 obtain ⟨g,hg,hgf⟩:=FE F hA hι h1 hf A.length (Mf _);have hge:=λx (hx : x<m)=>RS.el F hA hg hx;refine hg.congr λx hx=>?_;rcases hall x hx with ⟨j,hj,rfl⟩ | ⟨i,hi,rfl⟩
 ·exact (hgf j hj).symm
 ·have hb : ∀p,p<m->El (nth (ai B i) p):=λp hp=>QV (hB.row hi) hp;have hd:=uW F m hf hge hb;rw [hfo i hi,RS.dot F hA hB ho hg hi,F.fD,F.add_zero _ F.zero] at hd;have hk:=hκ i hi;have hde : El (O.add (f (κ i)) (O.neg (g (κ i)))):=F.cl.add _ _ (hf _ hk) (F.cl.neg _ (hge _ hk));have h3:=jB F (a:=λp=>O.add (f p) (O.neg (g p))) (b:=λp=>nth (ai B i) p) (x:=κ i) (F.cl.mul _ _ hde (hb _ hk)) m λp hp hne=>?_
  ·rw [hd,Mg hk] at h3;have h4 : O.mul (O.add (f (κ i)) (O.neg (g (κ i)))) (nth (ai B i) (κ i))=0:=h3.symm;rw [h2 i i hi hi,Mg rfl,F.iE hde] at h4;have h5:=F.nO (hf _ hk) (F.cl.neg _ (hge _ hk)) h4;rw [<- F.neg_neg (hf _ hk),<- h5,F.neg_neg (hge _ hk)]
  ·show O.mul (O.add (f p) (O.neg (g p))) (nth (ai B i) p)=0;rcases hall p hp with ⟨j,hj,rfl⟩ | ⟨j,hj,rfl⟩
   ·rw [hgf j hj,F.add_neg _ (hf _ hp),F.kj (hb _ hp)]
   ·rw [h2 i j hi hj,Mh (λe=>hne (by rw [e])),F.dt (F.cl.add _ _ (hf _ hp) (F.cl.neg _ (hge _ hp)))]
theorem wV (P : Lz) : ∀k i j,i<j->j<(gk P k).length->(gk P k).getD i 0<(gk P k).getD j 0
 | 0,i,j,_,h=>by simp [gk] at h
 | k+1,i,j,hij,h=>by
  have ih:=wV P k i j hij;rw [gk] at h ⊢;split at h
  ·rename_i hc;rw [Mg hc];exact ih h
  ·rename_i hc;rw [Mh hc];rw [Mp,Mz] at h;have e1 : (gk P k ++ [k]).getD i 0=(gk P k).getD i 0:=by simp only [Mk];rw [ML (by omega)]
   rw [e1];by_cases e : j<(gk P k).length
   ·have e2 : (gk P k ++ [k]).getD j 0=(gk P k).getD j 0:=by simp only [Mk];rw [ML e]
    rw [e2];exact ih e
   ·have e2 : (gk P k ++ [k]).getD j 0=k:=by
     have ej : j=(gk P k).length:=by omega
     simp only [Mk];rw [NI (by omega)];simp [ej]
    rw [e2];exact (mZ (k:=k) (j:=i) (by omega)).1
theorem zR (F : bR O El) {R : ZZ} {P : Lz} (hR : bx El m R) (hP : l8 R P m) (hl : pY R P) (hlen : R.length=P.length) {f : Nat->Int} (hf : ∀x,x<m->El (f x)) :
  ((∀i,i<R.length->df O f (λp=>nth (ai R i) p) m=0)->RS O El m (dO O m R P m) f)/\((∀i,i<(dO O m R P m).length->df O f (λp=>nth (ai (dO O m R P m) i) p) m=0)->RS O El m R f):=by
 have hK:=gU F hR hP hlen;have hO:=sM F hR hP hl hlen;have hkl:=iU O m R P m;have hι : ∀j,j<R.length->(nth P j).toNat<m:=λj hj=>by have:=hP.lt j (by omega);omega
 have h1 : ∀i j,i<R.length->j<R.length->nth (ai R i) (nth P j).toNat=if i=j then 1 else 0:=λi j hi hj=>hP.one j i (by omega) hi
 have hκ : ∀i,i<(dO O m R P m).length->(gk P m).getD i 0<m:=λi hi=>(mZ (by omega)).1;have h2 : ∀i j,i<(dO O m R P m).length->j<(dO O m R P m).length->nth (ai (dO O m R P m) i) ((gk P m).getD j 0)=if i=j then 1 else 0:=λi j hi hj=>by
  rw [hkl] at hi hj;obtain ⟨a1,a2⟩:=mZ (P:=P) hi;obtain ⟨b1,b2⟩:=mZ (P:=P) hj;rw [kU O m R P m hi];by_cases e : i=j
  ·subst e;rw [Mg rfl];exact lq hP a1 a2 _ (Mf _)
  ·rw [Mh e];refine j5 hP b1 (λe2=>?_) _ (Mf _) λq hq e2=>?_
   ·rcases Nat.lt_or_gt_of_ne e with h | h
    ·have:=wV P m i j h hj;omega
    ·have:=wV P m j i h hi;omega
   ·apply b2;have hq2:=hP.lt q hq;rw [<- e2,NL hq2.1];exact aN hq
 have hall : ∀x,x<m->(∃j,j<R.length/\(nth P j).toNat=x)\/∃i,i<(dO O m R P m).length/\(gk P m).getD i 0=x:=λx hx=>by
  by_cases hc : (x : Int) ∈ P
  ·obtain ⟨j,hj,e⟩:=List.mem_iff_getElem.1 hc;exact .inl ⟨j,by omega,by rw [aj hj,e];simp⟩
  ·obtain ⟨j,hj,e⟩:=List.mem_iff_getElem.1 ((jV (P:=P) m).2 ⟨hx,hc⟩);exact .inr ⟨j,by rw [hkl];exact hj,by rw [Mk,MP hj];exact e⟩
 exact ⟨sX F hK hR hκ h2 hι h1 (λx hx=>(hall x hx).symm) (nG.symm F hR hK hO) hf,sX F hR hK hι h1 hκ h2 hall hO hf⟩
def iO (O : aJ) (m : Nat) (L : ZZ) : ZZ:=dX O m (dO O m (dX O m L) (aC O L m).2 m)
theorem jn (F : bR O El) (hL : bx El m L) : bx El m (iO O m L):=dH F (gU F (dH F hL) (db F hL).1 (bY F hL))
theorem xN (F : bR O El) (hA : bx El m A) {f : Nat->Int} (hf : ∀x,x<m->El (f x)) (h : ∀i,i<A.length->df O f (λp=>nth (ai A i) p) m=0) {g : Nat->Int} (hg : RS O El m A g) : df O f g m=0:=by obtain ⟨e,he,h2⟩:=hg;rw [cT (a':=f) (b':=λp=>e (aK A p)) m λp hp=>⟨rfl,h2 p hp⟩];exact lN F hA he hf h
theorem xp (F : bR O El) (hL : bx El m L) {f : Nat->Int} (hf : ∀x,x<m->El (f x)) : RS O El m (iO O m L) f ↔ ∀i,i<L.length->df O f (λp=>nth (ai L i) p) m=0:=by
 obtain ⟨hP,hl⟩:=db F hL;have hlen:=bY F hL;have hR:=dH F hL;have hK:=gU F hR hP hlen;obtain ⟨s1,s2⟩:=gd F hK;obtain ⟨t1,t2⟩:=gd F hL;have hO:=nG.symm F hR hK (sM F hR hP hl hlen);constructor
 ·intro h i hi;exact xN F hR hf (λj hj=>RS.dot F hK hR hO (s1.rs h) hj) (t2 i hi)
 ·intro h;refine s2.rs ((zR F hR hP hl hlen hf).1 λi hi=>?_);exact xN F hL hf h (t1 i hi)
theorem Dc (F : bR O El) (hL : bx El m L) {f : Nat->Int} (hf : ∀x,x<m->El (f x)) : (∀i,i<(iO O m L).length->df O f (λp=>nth (ai (iO O m L) i) p) m=0) ↔ RS O El m L f:=by
 obtain ⟨hP,hl⟩:=db F hL;have hlen:=bY F hL;have hR:=dH F hL;have hK:=gU F hR hP hlen;obtain ⟨s1,s2⟩:=gd F hK;obtain ⟨t1,t2⟩:=gd F hL;have hN:=jn F hL;constructor
 ·intro h;exact t1.rs ((zR F hR hP hl hlen hf).2 λi hi=>xN F hN hf h (s2 i hi))
 ·intro h i hi;have hfn : ∀p,p<m->El (nth (ai (iO O m L) i) p):=λp hp=>QV (hN.row hi) hp;rw [gI F m hf hfn];exact xN F hL hfn ((xp F hL hfn).1 (Q5 F hi)) h
def j6 (m : Nat) (z : Int) : Lz:=(List.replicate m 0).set z.toNat 1
def vk (O : aJ) (m : Nat) (L : ZZ) (Z : Lz) : ZZ:=iO O m (iO O m L ++ Z.map (j6 m))
def sy (O : aJ) (m : Nat) (L : ZZ) (Z : Lz) : ZZ:=dX O m (pC O m (iO O L.length ((List.range Z.length).map (aK (L.map (aO Z))))) L)
theorem yZ (F : bR O El) (m : Nat) (z : Int) : Vc El m (j6 m z):=⟨by simp [j6],λy hy=>by
 rcases Ny hy with h | rfl
 ·rw [NC h];exact F.zero
 ·exact F.one⟩
theorem pG {m : Nat} {z : Int} (hz : z.toNat<m) (i : Nat) : nth (j6 m z) i=if i=z.toNat then 1 else 0:=by
 unfold j6;rw [dD _ _ _ _ (by simpa using hz)];split
 ·rfl
 ·simp [nth,Mk,MN];split <;> rfl
theorem Az (F : bR O El) {f : Nat->Int} (hf : ∀x,x<m->El (f x)) {z : Int} (hz : z.toNat<m) : df O f (λp=>nth (j6 m z) p) m=f z.toNat:=by
 have h1:=jB F (a:=f) (b:=λp=>nth (j6 m z) p) (x:=z.toNat) (by show El (O.mul (f z.toNat) (nth (j6 m z) z.toNat));rw [pG hz,Mg rfl,F.iE (hf _ hz)];exact hf _ hz) m λp hp hne=>by show O.mul (f p) (nth (j6 m z) p)=0;rw [pG hz,Mh hne,F.dt (hf p hp)]
 rw [h1,Mg hz];show O.mul (f z.toNat) (nth (j6 m z) z.toNat)=_;rw [pG hz,Mg rfl,F.iE (hf _ hz)]
def Lg (m : Nat) (Z : Lz) : Prop:=∀z ∈ Z,0<=z/\z<(m : Int)
theorem zh (F : bR O El) (hL : bx El m L) {Z : Lz} (hZ : Lg m Z) {f : Nat->Int} (hf : ∀x,x<m->El (f x)) : RS O El m (vk O m L Z) f ↔ RS O El m L f/\∀z ∈ Z,f z.toNat=0:=by
 have hN:=jn F hL;have hU : bx El m (iO O m L ++ Z.map (j6 m)):=λr hr=>by
  rcases List.mem_append.1 hr with h | h
  ·exact hN r h
  ·obtain ⟨z,_,rfl⟩:=List.mem_map.1 h;exact yZ F m z
 have key : RS O El m (vk O m L Z) f ↔ ∀r ∈ iO O m L ++ Z.map (j6 m),df O f (λp=>nth r p) m=0:=by refine (xp F hU hf).trans ⟨λh r hr=>?_,λh i hi=>h _ (dj hi)⟩;obtain ⟨j,hj,rfl⟩:=fJ hr;exact h j hj
 rw [key];constructor
 ·intro h;refine ⟨(Dc F hL hf).1 λi hi=>h _ (List.mem_append.2 (.inl (dj hi))),λz hz=>?_⟩;have hzb:=hZ z hz;rw [<- Az F hf (z:=z) (by omega)];exact h _ (List.mem_append.2 (.inr (List.mem_map.2 ⟨z,hz,rfl⟩)))
 ·rintro ⟨h1,h2⟩ r hr;rcases List.mem_append.1 hr with h | h
  ·obtain ⟨j,hj,rfl⟩:=fJ h;exact (Dc F hL hf).2 h1 j hj
  ·obtain ⟨z,hz,rfl⟩:=List.mem_map.1 h;have hzb:=hZ z hz;rw [Az F hf (by omega)];exact h2 z hz
theorem RS.LB (F : bR O El) (hL : bx El m L) {f : Nat->Int} (h : RS O El m L f) : ∃v,Vc El L.length v/\∀x,x<m->f x=nth (bK O m v L L.length) x:=by
 obtain ⟨e,he,h2⟩:=h;obtain ⟨c,hc⟩ : ∃c,((List.range L.length).map λt=>e (fi L.length t))=c:=⟨_,rfl⟩
 have hcl : c.length=L.length:=by rw [<- hc];simp
 have hcn : ∀t,t<L.length->nth c t=e (fi L.length t):=λt ht=>by rw [<- hc,ek _ _ _ ht]
 have hcv : Vc El L.length c:=⟨hcl,λy hy=>by obtain ⟨t,ht,rfl⟩:=List.mem_iff_getElem.1 hy;rw [<- aj ht,hcn t (by omega)];exact he.el _ (iM F _ _)⟩
 refine ⟨c,hcv,λx hx=>?_⟩;rw [h2 x hx,jt F he (ch hL F.zero x),fV F hL (λk hk=>hcv.at hk) hx _ (Mf _)];exact cT _ λp hp=>⟨(hcn p hp).symm,bM _ _ _ hp⟩
theorem CY {Z : Lz} {k : Nat} (hk : k<Z.length) : ai ((List.range Z.length).map (aK (L.map (aO Z)))) k=aK L (nth Z k).toNat:=by rw [aF (by simpa using hk)];simp only [NH,Od,aK,N3];refine M7 λr _=>?_;show nth (aO Z r) k=_;rw [ed Z r hk]
theorem mO (F : bR O El) (hL : bx El m L) {Z : Lz} : bx El L.length ((List.range Z.length).map (aK (L.map (aO Z)))):=λr hr=>by obtain ⟨k,hk,rfl⟩:=fJ hr;rw [CY (by simpa using hk)];exact ch hL F.zero _
theorem my (F : bR O El) (hL : bx El m L) {K : ZZ} (hK : bx El L.length K) : bx El m (pC O m K L):=λr hr=>by obtain ⟨v,hv,rfl⟩:=List.mem_map.1 hr;exact (gH F hL (λk hk=>QV (hK v hv) hk) _ (Mf _)).1
theorem F6 (F : bR O El) (hL : bx El m L) {Z : Lz} : bx El m (sy O m L Z):=dH F (my F hL (jn F (mO F hL)))
theorem oE (F : bR O El) (hL : bx El m L) {Z : Lz} (hZ : Lg m Z) {f : Nat->Int} (hf : ∀x,x<m->El (f x)) : RS O El m (sy O m L Z) f ↔ RS O El m L f/\∀z ∈ Z,f z.toNat=0:=by
 have hT:=mO (Z:=Z) F hL;obtain ⟨K,hK⟩ : ∃K,iO O L.length ((List.range Z.length).map (aK (L.map (aO Z))))=K:=⟨_,rfl⟩
 have hKr : bx El L.length K:=by rw [<- hK];exact jn F hT
 have hM:=my F hL hKr;obtain ⟨s1,s2⟩:=gd F hM;have hKi : ∀v,Vc El L.length v->(RS O El L.length K (λx=>nth v x) ↔ ∀z ∈ Z,nth (bK O m v L L.length) z.toNat=0):=λv hv=>by
  rw [<- hK];refine (xp F hT λx hx=>hv.at hx).trans ?_;have hd : ∀k,k<Z.length->df O (λx=>nth v x) (λp=>nth (ai ((List.range Z.length).map (aK (L.map (aO Z)))) k) p) L.length=nth (bK O m v L L.length) (nth Z k).toNat:=λk hk=>by have hzb:=hZ _ (aN hk);rw [CY hk,fV F hL (λk hk=>hv.at hk) (show (nth Z k).toNat<m by omega) _ (Mf _)];exact cT _ λp hp=>⟨rfl,bM _ _ _ hp⟩
  constructor
  ·intro h z hz;obtain ⟨k,hk,e⟩:=List.mem_iff_getElem.1 hz;have:=h k (by simpa using hk);rw [hd k hk,aj hk,e] at this;exact this
  ·intro h k hk;rw [hd k (by simpa using hk)];exact h _ (aN (by simpa using hk))
 unfold sy;rw [hK];constructor
 ·intro h;have hrow : ∀r ∈ pC O m K L,RS O El m L (λx=>nth r x)/\∀z ∈ Z,nth r z.toNat=0:=λr hr=>by obtain ⟨v,hv,rfl⟩:=List.mem_map.1 hr;obtain ⟨j,hj,rfl⟩:=fJ hv;exact ⟨(gH F hL (λk hk=>QV (hKr _ hv) hk) _ (Mf _)).2,(hKi _ (hKr _ hv)).1 (Q5 F hj)⟩
  have h3:=s1.rs h;refine ⟨gF.rs (λi hi=>(hrow _ (dj hi)).1) h3,λz hz=>?_⟩;have hzb:=hZ z hz;exact RS.Lr F hM h3 (by omega) λr hr=>(hrow r hr).2 z hz
 ·rintro ⟨h1,h2⟩;obtain ⟨v,hv,hfv⟩:=RS.LB F hL h1;have hvK : RS O El L.length K (λx=>nth v x):=(hKi v hv).2 λz hz=>by have hzb:=hZ z hz;rw [<- hfv _ (by omega)];exact h2 z hz
  obtain ⟨u,hu,hvu⟩:=RS.LB F hKr hvK;refine s2.rs ?_;have hml : (pC O m K L).length=K.length:=by simp [pC]
  have hue : ∀k,k<(pC O m K L).length->El (nth u k):=λk hk=>hu.at (by omega);refine (gH F hM hue _ (Mf _)).2.congr λx hx=>?_;rw [hfv x hx,fV F hM hue hx _ (Mf _),hml];have hx1 : nth (bK O m v L L.length) x=df O (λt=>nth v t) (λt=>nth (ai L t) x) L.length:=fV F hL (λk hk=>hv.at hk) hx _ (Mf _);have hc : Vc El L.length (aK L x):=ch hL F.zero x;have h4 : df O (λt=>nth v t) (λt=>nth (aK L x) t) L.length=df O (λj=>nth u j) (λj=>df O (λt=>nth (ai K j) t) (λt=>nth (aK L x) t) L.length) K.length:=by
   have hcol:=oZ F (r:=λt=>nth (aK L x) t) (K:=K) hKr (φ:=λw=>df O (λj=>nth u j) (λj=>nth w j) K.length) (by exact ja.dot F (Mf _) λj hj=>hu.at hj) L.length (λp hp=>hc.at hp);rw [gI F _ (λp hp=>hv.at hp) λp hp=>hc.at hp];have e1 : df O (λt=>nth (aK L x) t) (λt=>nth v t) L.length=df O (λt=>nth (aK L x) t) (λp=>df O (λj=>nth u j) (λj=>nth (aK K p) j) K.length) L.length:=cT _ λp hp=>⟨rfl,by rw [hvu p hp,fV F hKr (λk hk=>hu.at hk) hp _ (Mf _)];exact cT _ λq hq=>⟨rfl,(bM _ _ _ hq).symm⟩⟩
   rw [e1,<- hcol];refine cT _ λj hj=>⟨rfl,?_⟩
   rw [yg F hKr hj _ (Mf _) (λp hp=>hc.at hp)];exact gI F _ (λp hp=>hc.at hp) λp hp=>QV (hKr.row hj) hp
  rw [hx1,cT (a':=λt=>nth v t) (b':=λt=>nth (aK L x) t) _ λp hp=>⟨rfl,(bM _ _ _ hp).symm⟩,h4];refine cT _ λj hj=>⟨rfl,?_⟩
  have e2 : ai (pC O m K L) j=bK O m (ai K j) L L.length:=by rw [aF (by omega),aF hj];simp [pC]
  rw [e2,fV F hL (λk hk=>QV (hKr.row hj) hk) hx _ (Mf _)];exact cT _ λp hp=>⟨rfl,bM _ _ _ hp⟩
theorem DG (F : bR O El) (hL : bx El m L) {Z : Lz} (hZ : Lg m Z) : sy O m L Z=vk O m L Z:=by
 have hM:=my (O:=O) F hL (jn F (mO (Z:=Z) F hL));have hU : bx El m (iO O m L ++ Z.map (j6 m)):=λr hr=>by
  rcases List.mem_append.1 hr with h | h
  ·exact jn F hL r h
  ·obtain ⟨z,_,rfl⟩:=List.mem_map.1 h;exact yZ F m z
 have hU2:=gU F (dH F hU) (db F hU).1 (bY F hU);have r1 : bx El m (sy O m L Z):=dH F hM;have r2 : bx El m (vk O m L Z):=dH F hU2;refine yR F r1 r2 (db F hM).1 (db F hU2).1 (db F hM).2 (db F hU2).2 (bY F hM) (bY F hU2) (λi hi=>?_) (λi hi=>?_)
 ·have hel : ∀x,x<m->El (nth (ai (sy O m L Z) i) x):=λx hx=>QV (r1.row hi) hx;exact (zh F hL hZ hel).2 ((oE F hL hZ hel).1 (Q5 F hi))
 ·have hel : ∀x,x<m->El (nth (ai (vk O m L Z) i) x):=λx hx=>QV (r2.row hi) hx;exact (oE F hL hZ hel).2 ((zh F hL hZ hel).1 (Q5 F hi))
theorem kW {l : Z6} {x : Nat} (hl : ∀y ∈ l,y<m) (hx : x<m) : ie O El A.length (aK A) l x ↔ ∀f,RS O El m A f->(∀y ∈ l,f y=0)->f x=0:=by
 constructor
 ·rintro h f ⟨e,he,h2⟩ h0;rw [h2 x hx];exact h e he λy hy=>by rw [<- h2 y (hl y hy)];exact h0 y hy
 ·intro h φ hφ h0;exact h (λx=>φ (aK A x)) ⟨φ,hφ,λ_ _=>rfl⟩ h0
theorem J7 (F : bR O El) (hA : bx El m A) (hL : bx El m L) (hs : gF O El m A L) {Z : Z6} (hZ : ∀z ∈ Z,z<m) (h0 : ∀r ∈ A,∀z ∈ Z,nth r z=0) {z : Nat} (hz : Rk (ie O El L.length (aK L)) Z z) :
  ∀ {l : Z6} {s : Nat},(∀y ∈ l,y<m)->Rk (ie O El A.length (aK A)) l s->∀ {n},Rk (ie O El L.length (aK L)) (l ++ Z) n->s+z<=n:=by
 intro l s hl hr;have hstep : ∀ {l : Z6} {x : Nat},(∀y ∈ l,y<m)->x<m->ie O El L.length (aK L) (l ++ Z) x->ie O El A.length (aK A) l x:=λ{l x} hl hx hc=>by
  rw [kW (m:=m) hl hx];intro f hf hf0;rw [kW (m:=m) (λy hy=>by rcases List.mem_append.1 hy with h | h;exact hl y h;exact hZ y h) hx] at hc;refine hc f (hs.rs hf) λy hy=>?_;rcases List.mem_append.1 hy with h | h
  ·exact hf0 y h
  ·exact RS.Lr F hA hf (hZ y h) λr hr=>h0 r hr y h
 induction hr with
 | nil=>intro n hn;rw [Nv] at hn;rw [hz.uniq hn];omega
 | dep x hx _ ih =>
  intro n hn
  rw [Np] at hn
  cases hn with
  | dep _ _ h2=>exact ih (λy hy=>hl y (by simp [hy])) h2
  | ind _ _ h2=>have:=ih (λy hy=>hl y (by simp [hy])) h2;omega
 | ind x hx _ ih =>
  intro n hn
  rw [Np] at hn
  cases hn with
  | dep _ h1 h2=>exact absurd (hstep (λy hy=>hl y (by simp [hy])) (hl x (by simp)) h1) hx
  | ind _ _ h2=>have:=ih (λy hy=>hl y (by simp [hy])) h2;omega
end
theorem LV (a b : Nat) (ha : a<131072) (hb : b<131072) : bits .or .i64 (a : Int) (b : Int)=((a ||| b : Nat) : Int):=by
 have hx : a ||| b<2 ^ 17:=Qt (by omega) (by omega)
 have h1 : (BitVec.ofInt 64 (a : Int)).toNat=a:=by rw [N4,Oe];exact NY (by omega)
 have h2 : (BitVec.ofInt 64 (b : Int)).toNat=b:=by rw [N4,Oe];exact NY (by omega)
 show IntKind.i64.wrap ((BitVec.ofInt 64 (a : Int) ||| BitVec.ofInt 64 (b : Int)).toNat : Int)=_;rw [BitVec.toNat_or,h1,h2];exact Mq _ (by omega)
theorem J1 {p : Nat} (hp : p<17) : IntKind.i64.wrap ((2 : Int) ^ p)=((2 ^ p : Nat) : Int):=by
 have h1 : 2 ^ p<2 ^ 17:=O5 (by omega) hp;have : (2 : Int) ^ p=((2 ^ p : Nat) : Int):=by simp
 rw [this];generalize 2 ^ p=q at *;exact Mq _ (by omega)
theorem I0 {x k : Nat} (hx : x<2 ^ k) (hk : k<16) : bits .or .i64 (x : Int) (IntKind.i64.wrap ((2 : Int) ^ k))=((x+2 ^ k : Nat) : Int):=by have h1 : 2 ^ k<2 ^ 16:=O5 (by omega) hk;rw [J1 (by omega),LV x (2 ^ k) (by omega) (by omega)];congr 1;have h:=Nat.two_pow_add_eq_or_of_lt hx 1;rw [QF] at h;rw [Nat.or_comm,<- h,Qq]
structure JG (V : World) (b : Nat) (G : cJ) (Bc Bo Bf Bg n : Nat) (ao : OA) (n2 co : Nat) : Prop where
 cn : V.cell? ⟨Bc,3,none⟩=some (.int .i64 n)
 out : V.cell? ⟨Bo,0,none⟩=some (.slice ao n2 co)
 fr : V.cell? ⟨Bf,0,none⟩=some (.func (.func 218) #[] #[.pointer (some ⟨Bc,0,none⟩),.pointer (some ⟨Bo,0,none⟩),.pointer (some ⟨Bf,0,none⟩),.pointer (some ⟨Bg,0,none⟩)])
 gp : V.cell? ⟨Bg,0,none⟩=some (.pointer (some ⟨b,0,none⟩))
 gf : dW V b G
def rh (B : Nat) (W0 : World) (G : cJ) (m n Bc Bo Bf Bg : Nat) (ao : OA) (n2 co d : Nat) : Prop :=
 ∀(a : OA) (n1 c1 : Nat) (R : ZZ) (x : Nat) (o : Lz) (W : World),aw W0 W (λy=>y=an ao) (λy=>y=an ao)->gG (λy=>y=an ao) W a n1 R->bx G.El m R->n1<=1000000 ->
  W.ownsRow B 3 1 (.slice ao n2 co) n2 (o.map (Value.int .i64))->x<2 ^ (n - d) ->
  Calls prog 218 #[.slice a n1 c1,.int .i64 x,.int .i64 ((n - d : Nat) : Int),.pointer (some ⟨Bc,0,none⟩),.pointer (some ⟨Bo,0,none⟩),.pointer (some ⟨Bf,0,none⟩),.pointer (some ⟨Bg,0,none⟩)] W
   λe V=>e = .returned (.tuple #[])/\V.ownsRow B 3 1 (.slice ao n2 co) n2 ((eQ G.ops n d R x o).map (Value.int .i64))/\aw W V (λy=>y=an ao) (λy=>y=an ao)
theorem aw.tm (w : World) {I : Nat->Prop} {p : Addr} (hB : I p.block) (v : Value) : aw w (w.setCell p v) I I:=by have hb0 : Below 0 w (w.setCell p v):=(Mi 0 w).setCell (Mj _) v;exact ⟨hb0.os,hb0.tape,hb0.output,hb0.size,λb hb hI=>MB _ _ _ _ λe=>hI (e ▸ hB),λb hb=>.inl hb⟩
theorem uk {B : Nat} {W0 : World} {b : Nat} {G : cJ} {m n Bc Bo Bf Bg : Nat} {ao : OA} {co : Nat} (HE : ∀V,aw W0 V (λy=>y=an ao) (λy=>y=an ao)->JG V b G Bc Bo Bf Bg n ao (2 ^ n) co) (hn : n<=16) :
  rh B W0 G m n Bc Bo Bf Bg ao (2 ^ n) co 0:=by
 intro a n1 c1 R x o W hW hM hR hn1 hown hx;obtain ⟨ccn,cout,cfr,cgp,cgf⟩:=HE W hW;have hRl:=hM.len;clear cgf;by_cases h0 : n1=0
 ·subst h0;have Hf : Hid (eQ G.ops n 0 R x o=o):=by show _=_;rw [eQ,Mg hRl]
  clear hRl;go_enter func218,ntmps218;go_wp2_with fail;refine bodyPost_ret (results_none rfl _ _ _) rfl ?_;exact ⟨rfl,by rw [Hf.out];exact hown,QY _ _⟩
 ·have Hf : Hid (eQ G.ops n 0 R x o=o.set x n1):=by show _=_;rw [eQ,Mh (by omega),hRl]
  have hd : ((n1 : Int) == 0)=false:=by simp;omega
  rw [OS] at hx ⊢;obtain ⟨q,hq⟩ : ∃q,2 ^ n=q:=⟨_,rfl⟩
  rw [hq] at hown cout hx;obtain ⟨iv0,mv0⟩:=QR hown;have hpv:=iv0.pl;have cx:=iv0.cell x hx;have fx:=(mv0 (by omega)).2 x hx;clear hRl h0;go_enter func218,ntmps218;go_wp2_with fail;refine bodyPost_ret (results_none rfl _ _ _) rfl ?_;refine ⟨rfl,?_,aw.tm (I:=λy=>y=an ao) (p:=⟨an ao,aP ao+x,none⟩) _ rfl _⟩;rw [Hf.out,hq,MH];exact bN hown x hx _
theorem uf {B : Nat} {W0 : World} {b : Nat} {G : cJ} {m n Bc Bo Bf Bg : Nat} {ao : OA} {n2 co : Nat} (HE : ∀V,aw W0 V (λy=>y=an ao) (λy=>y=an ao)->JG V b G Bc Bo Bf Bg n ao n2 co) (hao : an ao<W0.heap.size) (hn : n<=16) (hnm : n<=m) (hm : m<=1000000) (d : Nat) (hd : d+1<=n)
  (hI : rh B W0 G m n Bc Bo Bf Bg ao n2 co d) : rh B W0 G m n Bc Bo Bf Bg ao n2 co (d+1):=by
 intro a n1 c1 R x o W hW hM hR hn1 hown hx;obtain ⟨k,hk⟩ : ∃k,n - (d+1)=k:=⟨_,rfl⟩
 have E:=HE W hW;obtain ⟨ccn,cout,cfr,cgp,cgf⟩:=E;have hRl:=hM.len;by_cases h0 : n1=0
 ·subst h0;have Hf : Hid (eQ G.ops n (d+1) R x o=o):=by show _=_;rw [eQ,Mg hRl]
  clear hRl cgf hI;go_enter func218,ntmps218;go_wp2_with fail;refine bodyPost_ret (results_none rfl _ _ _) rfl ?_;exact ⟨rfl,by rw [Hf.out];exact hown,QY _ _⟩
 have Hf : Hid (eQ G.ops n (d+1) R x o=eQ G.ops n d (tZ G.ops R k) x (eQ G.ops n d R (x+2 ^ k) o)):=by show _=_;rw [eQ,Mh (by omega),hk]
 have hd0 : ((n1 : Int) == 0)=false:=by simp;omega
 have hnd : n - d=k+1:=by omega
 rw [hk] at hx ⊢;have h2k : 2 ^ (k+1)=2 ^ k+2 ^ k:=by rw [NJ];omega
 have hor:=I0 hx (by omega);obtain ⟨y,hy⟩ : ∃y,x+2 ^ k=y:=⟨_,rfl⟩
 rw [hy] at hor;have hkw : IntKind.i64.wrap ((k : Int)+1)=(k : Int)+1:=Mq _ (by omega);have hkn : ((k : Int) == (n : Int))=false:=by simp;omega
 have hkb : k<16:=by omega
 have H1 : Hid (∀V,Rs W V->Calls prog 218 #[.slice a n1 c1,.int .i64 y,.int .i64 ((k : Int)+1),.pointer (some ⟨Bc,0,none⟩),.pointer (some ⟨Bo,0,none⟩),.pointer (some ⟨Bf,0,none⟩),.pointer (some ⟨Bg,0,none⟩)] V
   λe V'=>e = .returned (.tuple #[])/\V'.ownsRow B 3 1 (.slice ao n2 co) n2 ((eQ G.ops n d R y o).map (Value.int .i64))/\aw V V' (λy=>y=an ao) (λy=>y=an ao)):=λV hV=>by have h:=hI a n1 c1 R y o V (hW.trans (QU hV _)) (hM.ah hV) hR hn1 (ba hown hV) (by rw [hnd,h2k];omega);rw [hnd] at h;exact h
 have HWo : Hid (∀V,aw W V (λy=>y=an ao) (λy=>y=an ao)->Calls prog 219 #[.pointer (some ⟨b,0,none⟩),.slice a n1 c1,.int .i64 k] V λe V'=>∃a2 n2 c2,e = .returned (.slice a2 n2 c2)/\gG (λy=>y=an ao) V' a2 n2 (tZ G.ops R k)/\Rs V V'):=λV hV =>
  y9 (λy=>y=an ao) a n1 c1 R m k (HE V (hW.trans hV)).gf (λy hy=>by have h1:=hW.size;have h2:=hV.size;omega) (hM.cQ hV) hR (by omega) hn1 hm
 have H2 : Hid (∀V a2 n3 c2 o2,aw W V (λy=>y=an ao) (λy=>y=an ao)->gG (λy=>y=an ao) V a2 n3 (tZ G.ops R k)->V.ownsRow B 3 1 (.slice ao n2 co) n2 (o2.map (Value.int .i64))->Calls prog 218 #[.slice a2 n3 c2,.int .i64 x,.int .i64 ((k : Int)+1),.pointer (some ⟨Bc,0,none⟩),.pointer (some ⟨Bo,0,none⟩),.pointer (some ⟨Bf,0,none⟩),.pointer (some ⟨Bg,0,none⟩)] V
   λe V'=>e = .returned (.tuple #[])/\V'.ownsRow B 3 1 (.slice ao n2 co) n2 ((eQ G.ops n d (tZ G.ops R k) x o2).map (Value.int .i64))/\aw V V' (λy=>y=an ao) (λy=>y=an ao)):=λV a2 n3 c2 o2 hV hM2 ho2=>by have h:=hI a2 n3 c2 (tZ G.ops R k) x o2 V (hW.trans hV) hM2 (Ji (Q6 cgf) hR (by omega)) (by have h1:=BU G.ops R k;have h2:=hM2.len;omega) ho2 (by rw [hnd,h2k];omega);rw [hnd] at h;exact h
 have HCell : Hid (∀V,aw W V (λy=>y=an ao) (λy=>y=an ao)->V.cell? ⟨Bf,0,none⟩=some (.func (.func 218) #[] #[.pointer (some ⟨Bc,0,none⟩),.pointer (some ⟨Bo,0,none⟩),.pointer (some ⟨Bf,0,none⟩),.pointer (some ⟨Bg,0,none⟩)])/\V.cell? ⟨Bg,0,none⟩=some (.pointer (some ⟨b,0,none⟩))):=λV hV=>⟨(HE V (hW.trans hV)).fr,(HE V (hW.trans hV)).gp⟩
 have Hown:=Z5 hown;rw [hy] at Hf;clear hRl cgf hI HE hM hR hW hown hk hnd h2k h0 hy hx;go_enter func218,ntmps218;go_wp2_with fail;go_cut [30] (λv wx=>v = .tuple #[]/\wx.ownsRow B 3 1 (.slice ao n2 co) n2 ((eQ G.ops n d R y o).map (Value.int .i64))/\aw W wx (λy=>y=an ao) (λy=>y=an ao));case first =>
  go_region_law ((first
   | (go_simp;go_at_call 218;((with_reducible refine (H1.out _ (Mi _ _).drew).mono ?_);rintro e W5 ⟨rfl,hown5,hm5⟩))
   | (go_simp;go_at_call 218;((with_reducible refine (H1.out _ (Q1 ⟨_,rfl⟩)).mono ?_);rintro e W5 ⟨rfl,hown5,hm5⟩))))
  all_goals (go_wp2_with fail;go_meet;exact ⟨rfl,hown5,(QU (Mi _ _).drew _).trans hm5⟩)
 obtain ⟨rfl,hown5,hm5⟩:=hcut;generalize wc=X at *;obtain ⟨o2,ho2⟩ : ∃o2,eQ G.ops n d R y o=o2:=⟨_,rfl⟩
 rw [ho2] at hown5 Hf;have HM : Hid (aw W X.drew (λy=>y=an ao) (λy=>y=an ao)):=hm5.trans (QU (Mi _ _).drew _);have Ho : Hid (X.drew.ownsRow B 3 1 (.slice ao n2 co) n2 (o2.map (Value.int .i64))):=ba hown5 (Mi _ _).drew;obtain ⟨q1,q2⟩:=HCell.out X hm5;clear ho2 hown5 hm5 cfr cgp ccn cout H1 Hown hor;go_wp2_with fail;go_region_law ((first
  | (go_simp;go_at_call 219;((with_reducible refine (HWo.out _ HM.out).mono ?_);rintro e w6 ⟨a2,n3,c2,rfl,hM6,hb6⟩;have hm6 : aw W w6 (λy=>y=an ao) (λy=>y=an ao):=HM.out.trans (QU hb6 _);obtain ⟨q3,q4⟩:=HCell.out w6 hm6;have ho6:=ba Ho.out hb6;have Hc2:=Z5 (H2.out w6 a2 n3 c2 o2 hm6 hM6 ho6);clear hM6 ho6))
  | (go_simp;go_at_call 218;((with_reducible refine Hc2.out.mono ?_);rintro e w7 ⟨rfl,hown7,hm7⟩))))
 all_goals (
  have HF : Hid (w7.ownsRow B 3 1 (.slice ao n2 co) n2 ((eQ G.ops n d (tZ G.ops R k) x o2).map (Value.int .i64))/\aw W w7 (λy=>y=an ao) (λy=>y=an ao)):=⟨hown7,hm6.trans hm7⟩
  clear hown7 hm7 hm6
  go_wp2_with fail
  go_end0
  exact ⟨rfl,by rw [Hf.out];exact HF.out.1,HF.out.2⟩)
def AP (P M : Int) (am : OA) (mn cm : Nat) (mod : Lz) (N : Int) (a : OA) (n c : Nat) (L : ZZ) (W : Int) (w : World) (e : Ending) (w' : World) : Prop :=
 Rs w w'/\((aH P M mod N L ≠ 0/\e = .returned (.tuple #[.pointer none,.int .i64 (aH P M mod N L)])) \/
 (aH P M mod N L=0/\∃(b : Nat) (w2 : World),e = .returned (.tuple #[.pointer (some ⟨w2.heap.size,0,none⟩),.int .i64 0])/\Rs w w2/\dW w2 b (aa P M.toNat mod)/\Rs w2 w' /\
  bf w' w2.heap.size [.pointer (some ⟨b,0,none⟩),.int .i64 P,.int .i64 M,.slice am mn cm,.int .i64 N,.slice a n c,.slice none 0 0,.bool false,.int .i64 0,.int .i64 W,.slice none 0 0,.int .i64 0]))
theorem Bd (P M : Int) (am : OA) (mn cm : Nat) (mod : Lz) (N : Int) (a : OA) (n c : Nat) (L : ZZ) (W : Int) (w : World) (hmod : Ints w am mn mod) (hi : cU w a n L) :
  Calls prog 234 #[.agg #[.int .i64 P,.int .i64 M,.slice am mn cm,.int .i64 N,.slice a n c],.int .i64 W] w (AP P M am mn cm mod N a n c L W w):=by
 go_enter func234,ntmps234;go_wp2_with fail;obtain ⟨U,hU⟩ : ∃U : World,U=w.alloc (.cells #[.int .i64 P,.int .i64 M,.slice am mn cm,.int .i64 N,.slice a n c] 27):=⟨_,rfl⟩
 rw [<- hU];have hbU : Rs w U:=by rw [hU];exact aB _ _
 have x0 : bf U w.heap.size [.int .i64 P,.int .i64 M,.slice am mn cm,.int .i64 N,.slice a n c]:=by rw [hU];exact QS _ _ _ rfl
 have HX:=Z5 x0;clear hU x0;refine (ez P M am mn cm mod N a n c L U (hmod.ah hbU) (hi.ah hbU)).mono ?_;rintro e w1 ⟨rfl,hb1⟩;have hbw1:=QQ hbU hb1;by_cases hE : aH P M mod N L=0
 ·obtain ⟨hf,_⟩:=bL hE;have HE:=Z5 hE;have Hf:=Z5 hf;rw [hE];have x1:=HX.out.ah hb1;have c0:=x1.cell 0 rfl;have c1:=x1.cell 1 rfl;have c2:=x1.cell 2 rfl;have hm1:=(hmod.ah hbU).ah hb1;clear hE x1 hf;go_wp2_with fail;refine (fX P M am mn cm mod w1 hm1).mono ?_;rintro e w2 (⟨hB,rfl,hb2⟩ | ⟨hB,b,rfl,hG,hbl,hb2⟩)
  ·rw [Hf.out] at hB;cases hB
  ·clear hB;have hg:=hG.gf;have x2:=(HX.out.ah hb1).ah hb2;have e0:=x2.cell 0 rfl;have e1:=x2.cell 1 rfl;have e2:=x2.cell 2 rfl;have e3:=x2.cell 3 rfl;have e4:=x2.cell 4 rfl;clear x2 c0 c1 c2;go_wp2_with fail;go_ret2;exact ⟨QQ (QQ hbw1 hb2) (aB _ _),.inr ⟨HE.out,b,w2,rfl,QQ hbw1 hb2,hg,aB _ _,QS w2 [.pointer (some ⟨b,0,none⟩),.int .i64 P,.int .i64 M,.slice am mn cm,.int .i64 N,.slice a n c,.slice none 0 0,.bool false,.int .i64 0,.int .i64 W,.slice none 0 0,.int .i64 0] _ rfl⟩⟩
 ·have HE:=Z5 hE;have hE' : (aH P M mod N L != 0)=true:=by simpa using hE
  clear hE;go_wp2_with fail;go_ret2;exact ⟨hbw1,.inl ⟨HE.out,rfl⟩⟩
def jg (P M : Int) (mod : Lz) (N : Int) (L : ZZ) (mm W : Int) : Int :=
 if aH P M mod N L=0 then (if mm<0\/(L.length : Int)<mm\/W<0\/N<W then 6 else 0) else aH P M mod N L
def Dk (P M : Int) (am : OA) (mn cm : Nat) (mod : Lz) (m : Nat) (a : OA) (n c : Nat) (L : ZZ) (ay : OA) (ny cy : Nat) (C : la) (w w' : World) (pb : Nat) : Prop :=
 ∃(b : Nat) (w2 : World),pb=w2.heap.size/\Rs w w2/\AU w2 b (aa P M.toNat mod) a n L m ay ny C/\Rs w2 w'/\bf w' pb (nf b P M am mn cm m a n c ay ny cy C (.slice none 0 0) 0)
def BB (P M : Int) (am : OA) (mn cm : Nat) (mod : Lz) (N : Int) (a : OA) (n c : Nat) (L : ZZ) (mm W : Int) (w : World) (e : Ending) (w' : World) : Prop :=
 Rs w w'/\((jg P M mod N L mm W ≠ 0/\e = .returned (.tuple #[.pointer none,.int .i64 (jg P M mod N L mm W)])) \/
 (jg P M mod N L mm W=0/\∃pb,e = .returned (.tuple #[.pointer (some ⟨pb,0,none⟩),.int .i64 0])/\Dk P M am mn cm mod N.toNat a n c L none 0 0 ⟨mm.toNat,W.toNat,false,[]⟩ w w' pb))
theorem rH (P M : Int) (am : OA) (mn cm : Nat) (mod : Lz) (N : Int) (a : OA) (n c : Nat) (L : ZZ) (mm W : Int) (w : World) (hmod : Ints w am mn mod) (hi : cU w a n L) :
  Calls prog 184 #[.agg #[.int .i64 P,.int .i64 M,.slice am mn cm,.int .i64 N,.slice a n c],.int .i64 mm,.int .i64 W] w (BB P M am mn cm mod N a n c L mm W w):=by
 have Hil:=Z5 hi.len;go_enter func184,ntmps184;go_wp2_with fail;obtain ⟨U,hU⟩ : ∃U : World,U=w.alloc (.cells #[.int .i64 P,.int .i64 M,.slice am mn cm,.int .i64 N,.slice a n c] 27):=⟨_,rfl⟩
 rw [<- hU];have hbU : Rs w U:=by rw [hU];exact aB _ _
 have x0 : bf U w.heap.size [.int .i64 P,.int .i64 M,.slice am mn cm,.int .i64 N,.slice a n c]:=by rw [hU];exact QS _ _ _ rfl
 have HX:=Z5 x0;clear hU x0;refine (Bd P M am mn cm mod N a n c L W U (hmod.ah hbU) (hi.ah hbU)).mono ?_;rintro e w1 ⟨hb1,⟨hE,rfl⟩ | ⟨hE,b,w2,rfl,hb2,hG,hb3,hB⟩⟩
 ·have HE : Hid (jg P M mod N L mm W=aH P M mod N L):=Mh hE;have Hne:=Z5 hE;have hE1 : (aH P M mod N L == 0)=false:=by simpa using hE
  have hE2 : (aH P M mod N L != 0)=true:=by simpa using hE
  have hbF:=QQ hbU hb1;clear hE;go_wp2_with fail;go_ret2;exact ⟨hbF,.inl ⟨by rw [HE.out];exact Hne.out,by rw [HE.out];rfl⟩⟩
 ·have hbF:=QQ hbU hb1;have x1:=HX.out.ah hb1;have c3:=x1.cell 3 rfl;have c4:=x1.cell 4 rfl;have HE : Hid (jg P M mod N L mm W=if mm<0\/(n : Int)<mm\/W<0\/N<W then 6 else 0):=by show _=_;rw [jg,Mg hE,Hil.out]
  have Hrw:=Z5 (eJ hE);have HB:=Z5 hB;have hf8:=hB.frozen 8;have h8:=hB.cell 8 rfl;clear x1 hB hE;by_cases h1 : mm<0
  ·have HE2 : Hid (jg P M mod N L mm W=6):=by show _=_;rw [HE.out,Mg (.inl h1)]
   have d1 : decide (mm<0)=true:=by simpa using h1
   clear h1;go_wp2_with fail;go_ret2;exact ⟨hbF,.inl ⟨by rw [HE2.out];decide,by rw [HE2.out];rfl⟩⟩
  have d1 : decide (mm<0)=false:=by simpa using h1
  by_cases h2 : (n : Int)<mm
  ·have HE2 : Hid (jg P M mod N L mm W=6):=by show _=_;rw [HE.out,Mg (.inr (.inl h2))]
   have d2 : decide ((n : Int)<mm)=true:=by simpa using h2
   clear h1 h2;go_wp2_with fail;go_ret2;exact ⟨hbF,.inl ⟨by rw [HE2.out];decide,by rw [HE2.out];rfl⟩⟩
  have d2 : decide ((n : Int)<mm)=false:=by simpa using h2
  by_cases h3 : W<0
  ·have HE2 : Hid (jg P M mod N L mm W=6):=by show _=_;rw [HE.out,Mg (.inr (.inr (.inl h3)))]
   have d3 : decide (W<0)=true:=by simpa using h3
   clear h1 h2 h3;go_wp2_with fail;go_ret2;exact ⟨hbF,.inl ⟨by rw [HE2.out];decide,by rw [HE2.out];rfl⟩⟩
  have d3 : decide (W<0)=false:=by simpa using h3
  by_cases h4 : N<W
  ·have HE2 : Hid (jg P M mod N L mm W=6):=by show _=_;rw [HE.out,Mg (.inr (.inr (.inr h4)))]
   have d4 : decide (N<W)=true:=by simpa using h4
   clear h1 h2 h3 h4;go_wp2_with fail;go_ret2;exact ⟨hbF,.inl ⟨by rw [HE2.out];decide,by rw [HE2.out];rfl⟩⟩
  have d4 : decide (N<W)=false:=by simpa using h4
  have HE2 : Hid (jg P M mod N L mm W=0):=by
   show _=_;rw [HE.out,Mh];rintro (h | h | h | h)
   ·exact h1 h
   ·exact h2 h
   ·exact h3 h
   ·exact h4 h
  obtain ⟨m,hm,hm1,hm2,hLl,hRw⟩:=Hrw.out;have HCl : Hid (Dk P M am mn cm mod N.toNat a n c L none 0 0 ⟨mm.toNat,W.toNat,false,[]⟩ w (w1.setCell ⟨w2.heap.size,8,none⟩ (.int .i64 mm)) w2.heap.size):=by
   have hn256 : n<=1000000:=by rw [<- Hil.out];omega
   have hPE : AU w2 b (aa P M.toNat mod) a n L N.toNat none 0 ⟨mm.toNat,W.toNat,false,[]⟩ :=
    { g:=hG,rC:=(hi.ah hbU).ah hb2,rws:=by rw [hm,Mm];exact hRw,n6:=hn256,m6:=by omega,w6:=by show W.toNat<=64;omega,c0:=rfl }
   refine ⟨b,w2,rfl,QQ hbU hb2,hPE,hb3.setCell (by simp) _,?_⟩;have h5:=HB.out.setCell 8 (.int .i64 mm);rw [nf];dsimp only;rw [NL (show 0<=N by omega),NL (show 0<=mm by omega),NL (show 0<=W by omega)];exact h5
  have hbF2:=hbF.setCell (p:=⟨w2.heap.size,8,none⟩) (Mt hbU.size hb2.size) (.int .i64 mm);clear h1 h2 h3 h4 hm hm1 hm2;go_wp2_with fail;go_ret2;exact ⟨hbF2,.inr ⟨HE2.out,w2.heap.size,rfl,HCl.out⟩⟩
theorem E4 (x i : Nat) (hx : x<131072) : bits .and .i64 ((x : Int) / 2 ^ i) 1=((x / 2 ^ i % 2 : Nat) : Int):=by
 have h0 : x / 2 ^ i<=x:=PT _ _;have e : ((x : Int) / 2 ^ i)=((x / 2 ^ i : Nat) : Int):=by simp
 rw [e];generalize x / 2 ^ i=y at *;have h1 : (BitVec.ofInt 64 (y : Int)).toNat=y:=by rw [N4,Oe];exact NY (by omega)
 have h2 : (BitVec.ofInt 64 1).toNat=1:=by decide
 show IntKind.i64.wrap ((BitVec.ofInt 64 (y : Int) &&& BitVec.ofInt 64 1).toNat : Int)=_;rw [BitVec.toNat_and,h1,h2,Nat.and_one_is_mod];exact Mq _ (by omega)
theorem vb {x k : Nat} (h : x / 2 ^ k=0) : ∀d,aQ x (k+d)=aQ x k
 | 0=>rfl
 | d+1=>by
  have ih:=vb h d;have hx : x<2 ^ k:=by
   rcases MU x (2 ^ k) with h1 | h1
   ·exact h1
   ·have:=Nat.div_pos h1 (PV k);omega
  have hb : x.testBit (k+d)=false:=Nat.testBit_lt_two_pow (ME hx (Ns (by omega) (by omega)));rw [show k+(d+1)=(k+d)+1 by omega,aQ,Mh (by rw [hb];decide),ih]
theorem vs (x n : Nat) (hx : x<2 ^ n) (hn : n<=16) (w : World) : Calls prog 165 #[.int .i64 x] w (cX w (aQ x n)):=by
 have hx17 : x<131072:=by have : 2 ^ n<=2 ^ 16:=Ns (by omega) hn;omega
 have Hend : Hid (x / 2 ^ n=0):=Nat.div_eq_of_lt hx;clear hx;go_enter func165,ntmps165;go_wp2_with fail;go_loopw [3,4] (λsv iv wr=>∃(k : Nat) (aq : OA) (cq : Nat),k<=n/\iv = .int .i64 k/\sv = .slice aq (aQ x k).length cq/\wr.ownsRow w.heap.size 3 1 (.slice aq (aQ x k).length cq) (aQ x k).length ((aQ x k).map (Value.int .i64))/\Rs w wr)
  (λ_ iv _=>n - (intOf iv).toNat)
 case atStart=>exact ⟨0,none,0,Mj _,rfl,rfl,bP,Mi _ _⟩
 case round =>
  obtain ⟨k,aq,cq,hk,rfl,rfl,hop,hbr⟩:=hrel
  have hlen:=lk x k
  by_cases hz : x / 2 ^ k=0
  ·have hz' : decide ((0 : Int)<(x : Int) / 2 ^ k)=false:=by
    have e : ((x : Int) / 2 ^ k)=((x / 2 ^ k : Nat) : Int):=by simp
    rw [e,hz];simp
   have Hb : Hid (aQ x n=aQ x k):=by
    show _=_;obtain ⟨d,rfl⟩ : ∃d,n=k+d:=⟨n - k,by omega⟩
    exact vb hz d
   clear hz
   go_wp2_with fail
   go_ret
   exact ⟨aq,cq,by rw [Hb.out];rfl,by rw [Hb.out];exact hop,hbr⟩
  ·have hlt : k<n:=by
    rcases MU k n with h | h
    ·exact h
    ·exact absurd (by rw [show k=n by omega];exact Hend.out) hz
   have hz' : decide ((0 : Int)<(x : Int) / 2 ^ k)=true:=by
    have e : ((x : Int) / 2 ^ k)=((x / 2 ^ k : Nat) : Int):=by simp
    rw [e];have h0 : 0<x / 2 ^ k:=Nat.pos_of_ne_zero hz;exact MO (Int.natCast_pos.2 h0)
   have hand:=E4 x k hx17
   have htb:=qz x k
   by_cases ht : x.testBit k=true
   ·have hb : Hid (aQ x (k+1)=aQ x k ++ [(k : Int)]):=by show _=_;rw [aQ,Mg ht]
    have h1 : x / 2 ^ k % 2=1:=by rw [ht] at htb;simpa using htb.symm
    rw [h1] at hand
    clear ht htb h1 hz
    generalize aQ x k=out at *
    have hcn:=bm wr (.int .i64 k) 3
    have hbn:=aB wr (.cells #[.int .i64 k] 3)
    have hsz:=hbr.size
    go_wp2_with (at_builtin;refine bj rfl _ _ 22 3 rfl (.int .i64 0) 8 underlying22 bt rfl w.heap.size aq out.length cq _ rfl (hop.alloc _) ⟨wr.heap.size,0,none⟩ 1 (.int .i64 k) rfl hcn rfl (by omega) (by unfold maxLen;omega) (by simp;omega) ?_;intro a5 c5 w5 hown5 hgr5 hap5)
    go_roundw
    case rel =>
     refine ⟨k+1,a5,c5,by omega,by go_num,by rw [hb.out];simp,?_,QT (MS hbr (hbn.mono hsz)) (hop.alloc _) hgr5 (Mf _) (Mt hsz hbn.size)⟩
     rw [hb.out];simpa using hown5
    case measure=>simp [intOf] <;> omega
   ·have hb : Hid (aQ x (k+1)=aQ x k):=by show _=_;rw [aQ,Mh ht]
    have h1 : x / 2 ^ k % 2=0:=by
     have h2:=Nt (x / 2 ^ k);have h3 : ¬ x / 2 ^ k % 2=1:=λh=>by rw [h] at htb;simp at htb;exact ht htb
     omega
    rw [h1] at hand
    clear ht htb h1 hz
    generalize aQ x k=out at *
    go_wp2_with fail
    go_roundw
    case rel=>exact ⟨k+1,aq,cq,by omega,by go_num,by rw [hb.out],by rw [hb.out];exact hop,hbr⟩
    case measure=>simp [intOf] <;> omega
theorem oX (x : Int) (w : World) : Calls prog 247 #[.int .i64 x] w λe w'=>e = .returned (.bool false)/\w=w':=by go_enter func247,ntmps247;go_wp2;go_ret;exact ⟨by simp,rfl⟩
def uh (x y : Int) : Int:=if x<y then -1 else if y<x then 1 else 0
theorem sW (x y : Int) (w : World) : Calls prog 258 #[.int .i64 x,.int .i64 y] w λe w'=>e = .returned (.int .i64 (uh x y))/\w=w':=by
 obtain ⟨r,hr⟩ : ∃r,uh x y=r:=⟨_,rfl⟩
 rw [hr];go_enter func258,ntmps258;unfold uh at hr;by_cases h1 : x<y
 ·have d1 : decide (x<y)=true:=by simpa using h1
  rw [Mg h1] at hr;clear h1;go_wp2_with (go_at_call 247;refine (oX _ _).mono ?_;rintro e w' ⟨rfl,rfl⟩);go_ret;exact ⟨by rw [<- hr];rfl,rfl⟩
 ·have d1 : decide (x<y)=false:=by simpa using h1
  rw [Mh h1] at hr;by_cases h2 : y<x
  ·have d2 : decide (y<x)=true:=by simpa using h2
   rw [Mg h2] at hr;clear h1 h2;go_wp2_with (go_at_call 247;refine (oX _ _).mono ?_;rintro e w' ⟨rfl,rfl⟩);go_ret;exact ⟨by rw [<- hr];rfl,rfl⟩
  ·have d2 : decide (y<x)=false:=by simpa using h2
   rw [Mh h2] at hr;clear h1 h2;go_wp2_with (go_at_call 247;refine (oX _ _).mono ?_;rintro e w' ⟨rfl,rfl⟩);go_ret;exact ⟨by rw [<- hr];rfl,rfl⟩
theorem CV : ∀ {a b : Lz} {k : Nat},(∀j,j<k->nth a j=nth b j)->k<a.length->k<b.length->uh (nth a k) (nth b k) ≠ 0->dr a b=uh (nth a k) (nth b k)
 | [],_,k,_,h,_,_=>by simp at h
 | x :: a,[],k,_,_,h,_=>by simp at h
 | x :: a,y :: b,0,_,_,_,hne=>by
  have e1 : nth (x :: a) 0=x:=rfl;have e2 : nth (y :: b) 0=y:=rfl;rw [e1,e2] at hne ⊢;rw [dr];unfold uh at hne ⊢;split
  ·rfl
  ·split
   ·rfl
   ·rename_i h1 h2;rw [Mh h1,Mh h2] at hne;exact absurd rfl hne
 | x :: a,y :: b,k+1,h0,ha,hb,hne=>by
  have e : x=y:=by simpa [nth] using h0 0 (by omega)
  rw [dr,Mh (by omega),Mh (by omega)];have h1:=CV (a:=a) (b:=b) (k:=k) (λj hj=>by simpa [nth] using h0 (j+1) (by omega)) (by simpa using ha) (by simpa using hb) (by simpa [nth] using hne);simpa [nth] using h1
theorem rZ : ∀ {a b : Lz} {k : Nat},(∀j,j<k->nth a j=nth b j)->(k=a.length\/k=b.length)->k<=a.length->k<=b.length->dr a b=if a.length<b.length then -1 else if b.length<a.length then 1 else 0
 | [],[],_,_,_,_,_=>by simp [dr]
 | [],y :: b,_,_,_,_,_=>by simp [dr]
 | x :: a,[],_,_,_,_,_=>by simp [dr]
 | x :: a,y :: b,0,_,h,_,_=>by simp at h
 | x :: a,y :: b,k+1,h0,h,ha,hb=>by
  have e : x=y:=by simpa [nth] using h0 0 (by omega)
  rw [dr,Mh (by omega),Mh (by omega)];have h1:=rZ (a:=a) (b:=b) (k:=k) (λj hj=>by simpa [nth] using h0 (j+1) (by omega)) (by simpa using h) (by simpa using ha) (by simpa using hb);rw [h1];simp
theorem qu (a : OA) (n c : Nat) (l : Lz) (a2 : OA) (n2 c2 : Nat) (l2 : Lz) (w : World) (hi : Ints w a n l) (hi2 : Ints w a2 n2 l2) :
  Calls prog 220 #[.slice a n c,.slice a2 n2 c2] w λe w'=>e = .returned (.int .i64 (dr l l2))/\w=w':=by
 have Hl:=Z5 hi.len;have Hl2:=Z5 hi2.len;have hpl:=hi.pl;have hpl2:=hi2.pl;have hmax:=hi.max;have hmax2:=hi2.max;unfold maxLen at hmax hmax2;go_enter func220,ntmps220;go_wp2_with fail;go_loop [11] (λiv=>∃k : Nat,k<=n/\k<=n2/\iv = .int .i64 k/\Hid (∀j,j<k->nth l j=nth l2 j)) (λiv=>n - (intOf iv).toNat);case atStart=>exact ⟨0,Mj _,Mj _,rfl,λj hj=>by omega⟩
 case round =>
  obtain ⟨k,hk,hk2,rfl,hall⟩:=hrel
  by_cases hlt : k<n
  ·have ck:=hi.cell k hlt
   by_cases hlt2 : k<n2
   ·have ck2:=hi2.cell k hlt2
    have hge : decide ((n2 : Int)<=(k : Int))=false:=by simp;omega
    by_cases he : uh (nth l k) (nth l2 k)=0
    ·have hEq : Hid (nth l k=nth l2 k):=by
      show _=_;unfold uh at he;split at he
      ·omega
      ·split at he
       ·omega
       ·omega
     have hc:=sW (nth l k) (nth l2 k)
     rw [he] at hc
     have Hc:=Z5 hc
     clear he hc
     go_wp2_with (go_at_call 258;refine (Hc.out _).mono ?_;rintro e w' ⟨rfl,rfl⟩)
     go_round
     case rel=>exact ⟨k+1,by omega,by omega,by go_num,λj hj=>by
      rcases MU j k with h | h
      ·exact hall.out j h
      ·rw [show j=k by omega];exact hEq.out⟩
     case measure=>simp [intOf] <;> omega
    ·have Hv:=Z5 (CV hall.out (by rw [Hl.out];exact hlt) (by rw [Hl2.out];exact hlt2) he)
     have Hc:=Z5 (sW (nth l k) (nth l2 k))
     have hne : (uh (nth l k) (nth l2 k) != 0)=true:=by simpa using he
     clear he
     generalize uh (nth l k) (nth l2 k)=r at *
     go_wp2_with (go_at_call 258;refine (Hc.out _).mono ?_;rintro e w' ⟨rfl,rfl⟩)
     go_ret
     exact ⟨aI Hv.out.symm,rfl⟩
   ·have hge : decide ((n2 : Int)<=(k : Int))=true:=by simp;omega
    have Hv : Hid (dr l l2=1):=by show _=_;rw [rZ hall.out (.inr (by rw [Hl2.out];omega)) (by rw [Hl.out];exact hk) (by rw [Hl2.out];exact hk2),Hl.out,Hl2.out,Mh (by omega),Mg (by omega)]
    go_wp2_with fail
    go_ret
    exact ⟨aI Hv.out.symm,rfl⟩
  ·have Hv : Hid (dr l l2=if n<n2 then -1 else 0):=by show _=_;rw [rZ hall.out (.inl (by rw [Hl.out];omega)) (by rw [Hl.out];exact hk) (by rw [Hl2.out];exact hk2),Hl.out,Hl2.out,Mh (show ¬ n2<n by omega)]
   obtain rfl : k=n:=by omega
   by_cases h2 : k<n2
   ·rw [Mg h2] at Hv
    go_wp2_with fail
    go_ret
    exact ⟨aI Hv.out.symm,rfl⟩
   ·rw [Mh h2] at Hv
    go_wp2_with fail
    go_ret
    exact ⟨aI Hv.out.symm,rfl⟩
theorem qp (a : OA) (c n : Nat) (l : Lz) (r : Int) (w : World) (hn : n<=16) (hi : Ints w a (2 ^ n) l) :
  Calls prog 164 #[.slice a (2 ^ n) c,.int .i64 r] w (cX w (cY l n r (2 ^ n)).2):=by
 obtain ⟨q,hq⟩ : ∃q,2 ^ n=q:=⟨_,rfl⟩
 have hq17 : q<=65536:=by rw [<- hq];exact Ns (by omega) hn
 rw [hq] at hi ⊢;have hpl:=hi.pl;have HL : Hid (∀x,x<q->∀V,Calls prog 165 #[.int .i64 x] V (cX V (aQ x n))):=λx hx V=>vs x n (by rw [hq];exact hx) hn V;clear hq;go_enter func164,ntmps164;go_wp2_with fail;go_loopw [5,6,12] (λov fv iv wr=>∃(k : Nat) (z : Bool) (b : Lz) (ao : OA) (co : Nat),k<=q/\iv = .int .i64 k/\fv = .bool z/\ov = .slice ao b.length co/\Hid (cY l n r k=(z,b)) /\
   wr.ownsRow w.heap.size 3 1 (.slice ao b.length co) b.length (b.map (Value.int .i64))/\Rs w wr) (λ_ _ iv _=>q - (intOf iv).toNat)
 case atStart=>exact ⟨0,false,[],none,0,Mj _,rfl,rfl,rfl,rfl,bP,Mi _ _⟩
 case round =>
  obtain ⟨k,z,b,ao,co,hk,rfl,rfl,rfl,hst,hown,hbr⟩:=hrel
  by_cases hlt : k<q
  ·have ck:=(hi.ah hbr).cell k hlt
   by_cases hr : nth l k<r
   ·have hr' : decide (nth l k<r)=true:=by simpa using hr
    have Hst : Hid (cY l n r (k+1)=(z,b)):=by show _=_;rw [cY,Mg hr,hst.out]
    clear hr
    go_wp2_with fail
    go_roundw
    case rel=>exact ⟨k+1,z,b,ao,co,by omega,by go_num,rfl,rfl,Hst.out,hown,hbr⟩
    case measure=>simp [intOf] <;> omega
   have hr' : decide (nth l k<r)=false:=by simpa using hr
   have Hst : Hid (cY l n r (k+1)=if z=false\/jW (aQ k n) b=true then (true,aQ k n) else (z,b)):=by show _=_;rw [cY,Mh hr,hst.out]
   clear hr
   have Hlist:=Z5 (HL.out k hlt wr)
   obtain ⟨s,hs⟩ : ∃s,aQ k n=s:=⟨_,rfl⟩
   rw [hs] at Hlist Hst
   clear hs
   go_wp2_with fail
   refine Hlist.out.mono ?_
   rintro e w4 ⟨a4,c4,rfl,hown4,hb4⟩
   have hbr4:=QQ hbr hb4
   have i4:=(QR hown4).1
   have ib:=(QR (ba hown hb4)).1
   have Hcmp:=Z5 (qu a4 s.length c4 s ao b.length co b w4 i4 ib)
   cases z
   ·have Hst2 : Hid (cY l n r (k+1)=(true,s)):=by show _=_;rw [Hst.out,Mg (.inl rfl)]
    go_wp2_with fail
    go_roundw
    case rel=>exact ⟨k+1,true,s,a4,c4,by omega,by go_num,rfl,rfl,Hst2.out,bg hown4 hbr.size,hbr4⟩
    case measure=>simp [intOf] <;> omega
   ·by_cases h1 : s.length<b.length
    ·have Hst2 : Hid (cY l n r (k+1)=(true,s)):=by show _=_;rw [Hst.out,Mg (.inr (ga.2 (.inl h1)))]
     go_wp2_with fail
     go_roundw
     case rel=>exact ⟨k+1,true,s,a4,c4,by omega,by go_num,rfl,rfl,Hst2.out,bg hown4 hbr.size,hbr4⟩
     case measure=>simp [intOf] <;> omega
    ·by_cases h2 : s.length=b.length
     ·have hd2 : ((s.length : Int) == (b.length : Int))=true:=by simp;omega
      by_cases h3 : dr s b<0
      ·have Hst2 : Hid (cY l n r (k+1)=(true,s)):=by show _=_;rw [Hst.out,Mg (.inr (ga.2 (.inr ⟨h2,h3⟩)))]
       have hd3 : decide (dr s b<0)=true:=by simpa using h3
       have hle : b.length<=s.length:=by omega
       have Ho4:=Z5 hown4
       clear h1 h2 h3 hown4 i4
       go_wp2_with (go_at_call 220;refine Hcmp.out.mono ?_;rintro e w' ⟨rfl,rfl⟩)
       go_roundw
       case rel=>exact ⟨k+1,true,s,a4,c4,by omega,by go_num,rfl,rfl,Hst2.out,bg Ho4.out hbr.size,hbr4⟩
       case measure=>simp [intOf] <;> omega
      ·have Hst2 : Hid (cY l n r (k+1)=(true,b)):=by
        show _=_;rw [Hst.out,Mh λhh=>?_];rcases hh with hh | hh
        ·cases hh
        ·rcases ga.1 hh with hh | hh
         ·exact h1 hh
         ·exact h3 hh.2
       have hd3 : decide (dr s b<0)=false:=by simpa using h3
       have hle : b.length<=s.length:=by omega
       have Ho:=Z5 (ba hown hb4)
       clear h1 h2 h3 hown4 i4 hown
       go_wp2_with (go_at_call 220;refine Hcmp.out.mono ?_;rintro e w' ⟨rfl,rfl⟩)
       go_roundw
       case rel=>exact ⟨k+1,true,b,ao,co,by omega,by go_num,rfl,rfl,Hst2.out,Ho.out,hbr4⟩
       case measure=>simp [intOf] <;> omega
     ·have Hst2 : Hid (cY l n r (k+1)=(true,b)):=by
       show _=_;rw [Hst.out,Mh λhh=>?_];rcases hh with hh | hh
       ·cases hh
       ·rcases ga.1 hh with hh | hh
        ·exact h1 hh
        ·exact h2 hh.1
      have hd2 : ((s.length : Int) == (b.length : Int))=false:=by simp;omega
      have hle : b.length<=s.length:=by omega
      have Ho:=Z5 (ba hown hb4)
      clear h1 h2 hown4 i4 hown
      go_wp2_with fail
      go_roundw
      case rel=>exact ⟨k+1,true,b,ao,co,by omega,by go_num,rfl,rfl,Hst2.out,Ho.out,hbr4⟩
      case measure=>simp [intOf] <;> omega
  ·obtain rfl : k=q:=by omega
   have Hb : Hid ((cY l n r k).2=b):=by show _=_;rw [hst.out]
   go_wp2_with fail
   go_ret
   exact ⟨ao,co,by rw [Hb.out];rfl,by rw [Hb.out];exact hown,hbr⟩
def gh (P M : Int) (mod : Lz) (N : Int) (L : ZZ) : Int:=if aH P M mod N L=0 then (if 16<N then 8 else 0) else aH P M mod N L
def Ag (P M : Int) (mod : Lz) (N : Int) (L : ZZ) (w : World) (e : Ending) (w' : World) : Prop :=
 Rs w w'/\((gh P M mod N L ≠ 0/\e = .returned (.tuple #[.slice none 0 0,.int .i64 (gh P M mod N L)])) \/
  (gh P M mod N L=0/\∃a c,e = .returned (.tuple #[.slice a (2 ^ N.toNat) c,.int .i64 0])/\w'.ownsRow w.heap.size 3 1 (.slice a (2 ^ N.toNat) c) (2 ^ N.toNat) ((fy (aa P M.toNat mod).ops N.toNat L).map (Value.int .i64))))
theorem vf {B : Nat} {W0 : World} {b : Nat} {G : cJ} {m n Bc Bo Bf Bg : Nat} {ao : OA} {co : Nat} (HE : ∀V,aw W0 V (λy=>y=an ao) (λy=>y=an ao)->JG V b G Bc Bo Bf Bg n ao (2 ^ n) co) (hao : an ao<W0.heap.size) (hn : n<=16) (hnm : n<=m) (hm : m<=1000000) : ∀d,d<=n->rh B W0 G m n Bc Bo Bf Bg ao (2 ^ n) co d
 | 0,_=>uk HE hn
 | d+1,hd=>uf HE hao hn hnm hm d hd (vf HE hao hn hnm hm d (by omega))
theorem sU (P M : Int) (am : OA) (mn cm : Nat) (mod : Lz) (N : Int) (a : OA) (n c : Nat) (L : ZZ) (w : World) (hmod : Ints w am mn mod) (hi : cU w a n L) :
  Calls prog 163 #[.agg #[.int .i64 P,.int .i64 M,.slice am mn cm,.int .i64 N,.slice a n c]] w (Ag P M mod N L w):=by
 have hmf : ∀(fn : Fn) (first cap : Array Value) (w : World),(Instr.makeFunc fn first cap).run prog w = .ok (.func fn first cap) w:=λ_ _ _ _=>rfl;go_enter func163,ntmps163;go_wp2_with fail;obtain ⟨U,hU⟩ : ∃U : World,U=w.alloc (.cells #[.int .i64 P,.int .i64 M,.slice am mn cm,.int .i64 N,.slice a n c] 27):=⟨_,rfl⟩
 rw [<- hU];have hbU : Rs w U:=by rw [hU];exact aB _ _
 have x0 : bf U w.heap.size [.int .i64 P,.int .i64 M,.slice am mn cm,.int .i64 N,.slice a n c]:=by rw [hU];exact QS _ _ _ rfl
 have HX:=Z5 x0;clear hU x0;refine (ez P M am mn cm mod N a n c L U (hmod.ah hbU) (hi.ah hbU)).mono ?_;rintro e w1 ⟨rfl,hb1⟩;have hbw1:=QQ hbU hb1;by_cases hE : aH P M mod N L=0;rotate_left
 ·have HE : Hid (gh P M mod N L=aH P M mod N L):=Mh hE;have Hne:=Z5 hE;have hE' : (aH P M mod N L != 0)=true:=by simpa using hE
  clear hE;generalize aH P M mod N L=er at *;go_wp2_with fail;go_ret2;exact ⟨hbw1,.inl ⟨by rw [HE.out];exact Hne.out,by rw [HE.out];rfl⟩⟩
 have x1:=HX.out.ah hb1;have c3:=x1.cell 3 rfl;by_cases h16 : 16<N
 ·have HE : Hid (gh P M mod N L=8):=by show _=_;rw [gh,Mg hE,Mg h16]
  have hd : decide (16<N)=true:=by simpa using h16
  rw [hE];clear hE h16 x1;go_wp2_with fail;go_ret2;exact ⟨hbw1,.inl ⟨by rw [HE.out];decide,by rw [HE.out];rfl⟩⟩
 have HE : Hid (gh P M mod N L=0):=by show _=_;rw [gh,Mg hE,Mh h16]
 have hd : decide (16<N)=false:=by simpa using h16
 obtain ⟨m,rfl,hm1,hm64,F,hR⟩:=aS hE;have hf:=(bL hE).1;have Hf:=Z5 hf;have hm16 : m<=16:=by omega
 have hn256 : n<=256:=by rw [<- hi.len];exact (eJ hE).choose_spec.2.2.2.1
 rw [hE];have c0:=x1.cell 0 rfl;have c1:=x1.cell 1 rfl;have c2:=x1.cell 2 rfl;have hm1':=(hmod.ah hbU).ah hb1;clear hE x1 hf h16;go_wp2_with fail;refine (fX P M am mn cm mod w1 hm1').mono ?_;rintro e w2 (⟨hB,rfl,hb2⟩ | ⟨hB,b,rfl,hG,hbl,hb2⟩)
 ·rw [Hf.out] at hB;cases hB
 clear hB c0 c1 c2 c3;obtain ⟨G,hGe⟩ : ∃G,aa P M.toNat mod=G:=⟨_,rfl⟩
 rw [hGe] at hG F hR;have HGe:=Z5 hGe;have HG:=Z5 hG;have HR:=Z5 hR;have x2:=(HX.out.ah hb1).ah hb2;have e3:=x2.cell 3 rfl;have hbw2:=QQ hbw1 hb2;obtain ⟨q,hq⟩ : ∃q,2 ^ m=q:=⟨_,rfl⟩
 have hq17 : q<=65536:=by rw [<- hq];exact Ns (by omega) hm16
 have hq1 : 1<=q:=by rw [<- hq];exact Nat.one_le_two_pow
 have hpw:=J1 (p:=m) (by omega);rw [hq] at hpw;have Hq:=Z5 hq;have hk16 : m<64:=by omega
 clear x2 hGe hG hR hq;go_upto_region 9 with fail;obtain ⟨W3,hW3⟩ : ∃W3 : World,W3=w2.alloc (.cells #[.pointer (some ⟨b,0,none⟩)] 95):=⟨_,rfl⟩
 rw [<- hW3];have hb3 : Rs w2 W3:=by rw [hW3];exact aB _ _
 have g3 : bf W3 w2.heap.size [.pointer (some ⟨b,0,none⟩)]:=by rw [hW3];exact QS _ _ _ rfl
 have G3:=Z5 g3;have f3:=aA hb3 e3;clear hW3 g3 e3;go_upto_region 11 with (at_make;refine b9 rfl _ _ 22 3 rfl (.int .i64 0) 8 underlying22 bt rfl q rfl rfl (by omega) (by unfold maxLen;omega) ?_;intro a4 w4 hown4 hb4 hge4 hlt4)
 have hown4w : w4.ownsRow w.heap.size 3 1 (.slice a4 q q) q ((List.replicate q (0 : Int)).map (Value.int .i64)):=by rw [NR];exact bg hown4 (Mt hbw2.size hb3.size)
 obtain ⟨W5,hW5⟩ : ∃W5 : World,W5=(w4.alloc (.cells #[.slice a4 q q] 22)).alloc (.cells #[.nilFunc] 223):=⟨_,rfl⟩
 rw [<- hW5];have hb5 : Rs w4 W5:=by rw [hW5];exact iD _ _ _
 have o5 : bf W5 w4.heap.size [.slice a4 q q]:=by rw [hW5];exact (QS _ _ _ rfl).alloc _
 have f5 : bf W5 (w4.heap.size+1) [.nilFunc]:=by rw [hW5];exact QS _ _ _ (by simp)
 have hs5 : W5.heap.size=w4.heap.size+2:=by rw [hW5];simp
 clear hW5;have fc:=f5.cell 0 rfl;have ff:=f5.frozen 0;have hst : ∀(fn : Fn) (x y : Array Value),(store (⟨w4.heap.size+1,0,none⟩ : Addr) (.func fn x y)).run prog W5 = .ok () (W5.setCell ⟨w4.heap.size+1,0,none⟩ (.func fn x y)):=λfn x y=>by rw [run_store _ _ _ _ _ rfl,fc];simp [ff]
 have hb34:=QQ hb3 hb4;have hb35:=QQ hb34 hb5;have hb25 : Rs w2 W5:=hb35;have hbw5:=QQ hbw2 hb25;have HE5:=Z5 (My hown4w (My hb5 (My o5 (My hs5 (My hb25 hbw5)))));have Hlt4:=Z5 (My hge4 hlt4);have Hg4:=Z5 (G3.out.ah hb4);clear hown4w hb5 o5 f5 hb34 hb35 hb25 hbw5 hown4 hb4 hge4 hlt4 f3;go_upto_region 12 with fail;obtain ⟨W6,hW6⟩ : ∃W6 : World,W6=W5.setCell ⟨w4.heap.size+1,0,none⟩ (.func (.func 218) #[] #[.pointer (some ⟨w.heap.size,0,none⟩),.pointer (some ⟨w4.heap.size,0,none⟩),.pointer (some ⟨w4.heap.size+1,0,none⟩),.pointer (some ⟨w2.heap.size,0,none⟩)]):=⟨_,rfl⟩
 rw [<- hW6];obtain ⟨hown4w,hb5,o5,hs5,hb25,hbw5⟩:=HE5.out;obtain ⟨hge4,hlt4⟩:=Hlt4.out;have hb56 : Below (w4.heap.size+1) W5 W6:=by rw [hW6];exact (Mi _ _).setCell (p:=⟨w4.heap.size+1,0,none⟩) (Mf _) _
 have fc6 : W6.cell? ⟨w4.heap.size+1,0,none⟩=some (.func (.func 218) #[] #[.pointer (some ⟨w.heap.size,0,none⟩),.pointer (some ⟨w4.heap.size,0,none⟩),.pointer (some ⟨w4.heap.size+1,0,none⟩),.pointer (some ⟨w2.heap.size,0,none⟩)]):=by rw [hW6];exact World.cell?_setCell_same' _ _ _ (by rw [fc];rfl)
 clear hW6 hst fc ff;have hs3 : W3.heap.size<=w4.heap.size:=by omega
 have hsz2:=hb3.size;have hb26 : Rs w2 W6:=hb25.trans (hb56.mono (by omega));have hbw6 : Rs w W6:=QQ hbw2 hb26;have hb46 : Rs w4 W6:=hb5.trans (hb56.mono (by omega));have hs6 : w4.heap.size+2<=W6.heap.size:=by have:=hb56.size;omega
 have oc6 : W6.cell? ⟨w4.heap.size,0,none⟩=some (.slice a4 q q):=(hb56.cell (p:=⟨w4.heap.size,0,none⟩) (by show w4.heap.size<_;omega)).trans (o5.cell 0 rfl);have gc6 : W6.cell? ⟨w2.heap.size,0,none⟩=some (.pointer (some ⟨b,0,none⟩)):=by exact aA hb46 (Hg4.out.cell 0 rfl)
 have cc6 : W6.cell? ⟨w.heap.size,3,none⟩=some (.int .i64 m):=aA hb26 (((HX.out.ah hb1).ah hb2).cell 3 rfl);have cg6 : W6.cell? ⟨w.heap.size,4,none⟩=some (.slice a n c):=aA hb26 (((HX.out.ah hb1).ah hb2).cell 4 rfl);have hxlt : w.heap.size<U.heap.size:=HX.out.1;have hsz1:=hb1.size;have hsw2:=hb2.size;have hw2l : w2.heap.size<W3.heap.size:=G3.out.1;have hE : ∀V,aw W6 V (λy=>y=an a4) (λy=>y=an a4)->JG V b G w.heap.size w4.heap.size (w4.heap.size+1) w2.heap.size m a4 (2 ^ m) q:=λV hV=>by
  refine ⟨hV.cell cc6 (by show ¬ w.heap.size=an a4;omega),?_,hV.cell fc6 (by show ¬ w4.heap.size+1=an a4;omega),hV.cell gc6 (by show ¬ w2.heap.size=an a4;omega),?_⟩
  ·rw [Hq.out];exact hV.cell oc6 (by show ¬ w4.heap.size=an a4;omega)
  ·refine HG.out V λx h1 h2=>?_;exact (hV.block x (by have:=hb26.size;omega) (by show ¬ x=an a4;omega)).trans (hb26.block x h2)
 have hown6 : W6.ownsRow w.heap.size 3 1 (.slice a4 q q) q ((List.replicate q (0 : Int)).map (Value.int .i64)):=ba hown4w hb46;have hM6 : gG (λy=>y=an a4) W6 a n L:=(gG.Kx hi λy hy=>by have h9:=hbw2.size;omega).ah hbw6;have hcall:=vf (B:=w.heap.size) (m:=m) hE (by omega) hm16 (Mf m) (by omega) m (Mf m) a n c L 0 (List.replicate q 0) W6 (QY _ _) hM6 HR.out (by omega) (by rw [Hq.out];exact hown6) (by rw [NS];exact Nat.one_pos);rw [NS,Hq.out] at hcall;have Hcall : Hid (Calls prog 218 #[.slice a n c,.int .i64 0,.int .i64 0,.pointer (some ⟨w.heap.size,0,none⟩),.pointer (some ⟨w4.heap.size,0,none⟩),.pointer (some ⟨w4.heap.size+1,0,none⟩),.pointer (some ⟨w2.heap.size,0,none⟩)] W6
   λe V=>e = .returned (.tuple #[])/\V.ownsRow w.heap.size 3 1 (.slice a4 q q) q ((eQ G.ops m m L 0 (List.replicate q 0)).map (Value.int .i64))/\aw W6 V (λy=>y=an a4) (λy=>y=an a4)):=hcall
 have Hoc : Hid (∀V,aw W6 V (λy=>y=an a4) (λy=>y=an a4)->V.cell? ⟨w4.heap.size,0,none⟩=some (.slice a4 q q)/\Rs w V):=λV hV =>
  ⟨hV.cell oc6 (by show ¬ w4.heap.size=an a4;omega),hbw6.trans (hV.below (λy hy=>by have h9:=hbw2.size;omega) hbw6.size)⟩
 have HP : Hid (∀V,V.ownsRow w.heap.size 3 1 (.slice a4 q q) q ((eQ G.ops m m L 0 (List.replicate q 0)).map (Value.int .i64))->Rs w V->Ag P M mod m L w (.returned (.tuple #[.slice a4 q q,.int .i64 0])) V):=λV h1 h2=>by
  refine ⟨h2,.inr ⟨HE.out,a4,q,?_,?_⟩⟩
  ·rw [Mm,Hq.out]
  ·rw [Mm,Hq.out,fy,HGe.out,Hq.out];exact h1
 clear hcall hM6 hown6 hE hown4w hb5 o5 hb46 hb26 hbw6 hb56 oc6 gc6 cc6;go_wp2_with fail;refine Hcall.out.mono ?_;rintro e V ⟨rfl,hV1,hV2⟩;obtain ⟨k1,k2⟩:=Hoc.out V hV2;have HF:=Z5 (HP.out V hV1 k2);clear hV1 hV2 Hcall;go_wp2_with fail;go_ret2;exact HF.out
theorem KN {P M : Int} {mod : Lz} {N : Int} {L : ZZ} {Q : Lz} (h : eT P M mod N L Q=0) : Bm P M mod N L Q=yp (aa P M.toNat mod).ops L Q:=by
 unfold Bm yp;rw [h];by_cases h1 : (jP (aa P M.toNat mod).ops L Q).length=Q.length
 ·rw [h1];simp
 ·simp [h1]
end Go.Proofs.YtcfmiocdlcapoaaGreat
