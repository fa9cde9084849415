import Derived.Test.YtjfiflldinnhmaaGreatHSO17
import Derived.Test.YtjfiflldinnhmaaGreatHSO19
namespace Go.Proofs.YtjfiflldinnhmaaGreat
set_option linter.all false
set_option maxRecDepth 100000
set_option maxHeartbeats 8000000
open Go.RowKit Go.Proofs.Tryz
section
variable {O : aL} {El : Int->Prop} {m : Nat} {A B L : LL}
theorem gV.Cv (F : bU O El) (n : Nat) : gV O El n (λ_=>0) :=
 ⟨λ_ _=>F.zero,λ_ _ x _ _ hx=>by rw [F.dh hx,F.ey,F.add_zero _ F.zero],λ_ x _ hx=>by rw [F.dh hx]⟩
theorem gV.dot (F : bU O El) {n : Nat} {u : Nat->Int} : ∀ {k},k<=n->(∀j,j<k->El (u j))->gV O El n (λw=>ch O u (λj=>nth w j) k)
 | 0,_,_=>gV.Cv F n
 | k+1,hk,hu=>by have h1:=gV.dot F (n:=n) (u:=u) (k:=k) (by omega) λj hj=>hu j (by omega);refine (h1.comb F (gV.xD F (i:=k) (by omega)) (F.cl.neg _ (hu k (by omega)))).congr F λv hv=>?_;show O.add _ (O.mul (u k) (nth v k))=O.add _ (O.neg (O.mul (nth v k) (O.neg (u k))));have hvk:=hv.at (show k<n by omega);rw [F.mul_neg hvk (hu k (by omega)),F.neg_neg (F.cl.mul _ _ hvk (hu k (by omega))),F.mul_comm _ _ hvk (hu k (by omega))]
theorem zP (F : bU O El) (hA : bx El m A) {ι : Nat->Nat} (hι : ∀j,j<A.length->ι j<m) (h1 : ∀i j,i<A.length->j<A.length->nth (af A i) (ι j)=if i=j then 1 else 0) {f : Nat->Int} (hf : ∀x,x<m->El (f x)) :
  ∀k,k<=A.length->∃g,RS O El m A g/\∀j,j<k->g (ι j)=f (ι j)
 | 0,_=>⟨λ_=>0,RS.Cv F λ_ _=>rfl,λj hj=>by omega⟩
 | k+1,hk=>by
  obtain ⟨g,hg,h2⟩:=zP F hA hι h1 hf k (by omega);have hge:=λx (hx : x<m)=>RS.el F hA hg hx;have hk1:=hge _ (hι k (by omega));have hk2:=hf _ (hι k (by omega));have hs : El (O.add (g (ι k)) (O.neg (f (ι k)))):=F.cl.add _ _ hk1 (F.cl.neg _ hk2);refine ⟨_,hg.comb F (Jp F (show k<A.length by omega)) hs,λj hj=>?_⟩;show O.add (g (ι j)) (O.neg (O.mul (nth (af A k) (ι j)) (O.add (g (ι k)) (O.neg (f (ι k))))))=_;rw [h1 k j (by omega) (by omega)];by_cases e : k=j
  ·subst e;rw [EH rfl,F.one_mul _ hs,F.neg_add hk1 (F.cl.neg _ hk2),F.neg_neg hk2,<- F.add_assoc _ _ _ hk1 (F.cl.neg _ hk1) hk2,F.add_neg _ hk1,F.tD hk2]
  ·rw [EG e,F.jh hs,F.ey,F.add_zero _ (hge _ (hι j (by omega)))];exact h2 j (by omega)
theorem ql (F : bU O El) {a b c : Nat->Int} : ∀t,(∀p,p<t->El (a p))->(∀p,p<t->El (b p))->(∀p,p<t->El (c p))->ch O (λp=>O.add (a p) (O.neg (b p))) c t=O.add (ch O a c t) (O.neg (ch O b c t))
 | 0,_,_,_=>by show (0 : Int)=O.add 0 (O.neg 0);rw [F.ey,F.add_zero _ F.zero]
 | t+1,ha,hb,hc=>by have ih:=ql F t (λp hp=>ha p (by omega)) (λp hp=>hb p (by omega)) (λp hp=>hc p (by omega));have h1:=ha t (by omega);have h2:=hb t (by omega);have h3:=hc t (by omega);have d1:=jV F t (λp hp=>ha p (by omega)) (λp hp=>hc p (by omega));have d2:=jV F t (λp hp=>hb p (by omega)) (λp hp=>hc p (by omega));have m1:=F.cl.mul _ _ h1 h3;have m2:=F.cl.mul _ _ h2 h3;show O.add (ch O (λp=>O.add (a p) (O.neg (b p))) c t) (O.mul (O.add (a t) (O.neg (b t))) (c t))=O.add (O.add (ch O a c t) (O.mul (a t) (c t))) (O.neg (O.add (ch O b c t) (O.mul (b t) (c t))));rw [ih,F.mul_comm _ _ (F.cl.add _ _ h1 (F.cl.neg _ h2)) h3,F.mul_add _ _ _ h3 h1 (F.cl.neg _ h2),F.mul_neg h3 h2,F.mul_comm _ _ h3 h1,F.mul_comm _ _ h3 h2,F.neg_add d2 m2,F.AL d1 (F.cl.neg _ d2) m1 (F.cl.neg _ m2)]
theorem RS.dot (F : bU O El) (hA : bx El m A) (hB : bx El m B) (ho : nj O m A B) {f : Nat->Int} (hf : RS O El m A f) {i : Nat} (hi : i<B.length) : ch O f (λp=>nth (af B i) p) m=0:=by obtain ⟨e,he,h2⟩:=hf;have hb : ∀p,p<m->El (nth (af B i) p):=λp hp=>Jd (hB.row hi) hp;rw [cT (a':=λp=>e (aQ A p)) (b':=λp=>nth (af B i) p) m λp hp=>⟨h2 p hp,rfl⟩];rw [fg F m (λp _=>he.el _ (cA hA F.zero p)) hb];refine lO F hA he hb λj hj=>?_;rw [fg F m hb λp hp=>Jd (hA.row hj) hp];exact ho j i hj hi
theorem pa (F : bU O El) (hA : bx El m A) (hB : bx El m B) {ι κ : Nat->Nat} (hι : ∀j,j<A.length->ι j<m) (h1 : ∀i j,i<A.length->j<A.length->nth (af A i) (ι j)=if i=j then 1 else 0)
  (hκ : ∀i,i<B.length->κ i<m) (h2 : ∀i j,i<B.length->j<B.length->nth (af B i) (κ j)=if i=j then 1 else 0)
  (hall : ∀x,x<m->(∃j,j<A.length/\ι j=x)\/∃i,i<B.length/\κ i=x) (ho : nj O m A B) {f : Nat->Int} (hf : ∀x,x<m->El (f x)) (hfo : ∀i,i<B.length->ch O f (λp=>nth (af B i) p) m=0) : RS O El m A f:=by
 obtain ⟨g,hg,hgf⟩:=zP F hA hι h1 hf A.length (EF _);have hge:=λx (hx : x<m)=>RS.el F hA hg hx;refine hg.congr λx hx=>?_;rcases hall x hx with ⟨j,hj,rfl⟩ | ⟨i,hi,rfl⟩
 ·exact (hgf j hj).symm
 ·have hb : ∀p,p<m->El (nth (af B i) p):=λp hp=>Jd (hB.row hi) hp;have hd:=ql F m hf hge hb;rw [hfo i hi,RS.dot F hA hB ho hg hi,F.ey,F.add_zero _ F.zero] at hd;have hk:=hκ i hi;have hde : El (O.add (f (κ i)) (O.neg (g (κ i)))):=F.cl.add _ _ (hf _ hk) (F.cl.neg _ (hge _ hk));have h3:=lK F (a:=λp=>O.add (f p) (O.neg (g p))) (b:=λp=>nth (af B i) p) (x:=κ i) (F.cl.mul _ _ hde (hb _ hk)) m λp hp hne=>?_
  ·rw [hd,EH hk] at h3;have h4 : O.mul (O.add (f (κ i)) (O.neg (g (κ i)))) (nth (af B i) (κ i))=0:=h3.symm;rw [h2 i i hi hi,EH rfl,F.kg hde] at h4;have h5:=F.lU (hf _ hk) (F.cl.neg _ (hge _ hk)) h4;rw [<- F.neg_neg (hf _ hk),<- h5,F.neg_neg (hge _ hk)]
  ·show O.mul (O.add (f p) (O.neg (g p))) (nth (af B i) p)=0;rcases hall p hp with ⟨j,hj,rfl⟩ | ⟨j,hj,rfl⟩
   ·rw [hgf j hj,F.add_neg _ (hf _ hp),F.jh (hb _ hp)]
   ·rw [h2 i j hi hj,EG (λe=>hne (by rw [e])),F.dh (F.cl.add _ _ (hf _ hp) (F.cl.neg _ (hge _ hp)))]
theorem sQ (P : LI) : ∀k i j,i<j->j<(gr P k).length->(gr P k).getD i 0<(gr P k).getD j 0
 | 0,i,j,_,h=>by simp [gr] at h
 | k+1,i,j,hij,h=>by
  have ih:=sQ P k i j hij;rw [gr] at h ⊢;split at h
  ·rename_i hc;rw [EH hc];exact ih h
  ·rename_i hc;rw [EG hc];rw [ER,E0] at h;have e1 : (gr P k ++ [k]).getD i 0=(gr P k).getD i 0:=by simp only [EJ];rw [E2 (by omega)]
   rw [e1];by_cases e : j<(gr P k).length
   ·have e2 : (gr P k ++ [k]).getD j 0=(gr P k).getD j 0:=by simp only [EJ];rw [E2 e]
    rw [e2];exact ih e
   ·have e2 : (gr P k ++ [k]).getD j 0=k:=by
     have ej : j=(gr P k).length:=by omega
     simp only [EJ];rw [F0 (by omega)];simp [ej]
    rw [e2];exact (l5 (k:=k) (j:=i) (by omega)).1
theorem tS (F : bU O El) {R : LL} {P : LI} (hR : bx El m R) (hP : kY R P m) (hl : nc R P) (hlen : R.length=P.length) {f : Nat->Int} (hf : ∀x,x<m->El (f x)) :
  ((∀i,i<R.length->ch O f (λp=>nth (af R i) p) m=0)->RS O El m (ek O m R P m) f)/\((∀i,i<(ek O m R P m).length->ch O f (λp=>nth (af (ek O m R P m) i) p) m=0)->RS O El m R f):=by
 have hK:=iZ F hR hP hlen;have hO:=uo F hR hP hl hlen;have hkl:=iX O m R P m;have hι : ∀j,j<R.length->(nth P j).toNat<m:=λj hj=>by have:=hP.lt j (by omega);omega
 have h1 : ∀i j,i<R.length->j<R.length->nth (af R i) (nth P j).toNat=if i=j then 1 else 0:=λi j hi hj=>hP.one j i (by omega) hi
 have hκ : ∀i,i<(ek O m R P m).length->(gr P m).getD i 0<m:=λi hi=>(l5 (by omega)).1;have h2 : ∀i j,i<(ek O m R P m).length->j<(ek O m R P m).length->nth (af (ek O m R P m) i) ((gr P m).getD j 0)=if i=j then 1 else 0:=λi j hi hj=>by
  rw [hkl] at hi hj;obtain ⟨a1,a2⟩:=l5 (P:=P) hi;obtain ⟨b1,b2⟩:=l5 (P:=P) hj;rw [lA O m R P m hi];by_cases e : i=j
  ·subst e;rw [EH rfl];exact kL hP a1 a2 _ (EF _)
  ·rw [EG e];refine jD hP b1 (λe2=>?_) _ (EF _) λq hq e2=>?_
   ·rcases Nat.lt_or_gt_of_ne e with h | h
    ·have:=sQ P m i j h hj;omega
    ·have:=sQ P m j i h hi;omega
   ·apply b2;have hq2:=hP.lt q hq;rw [<- e2,FX hq2.1];exact aO hq
 have hall : ∀x,x<m->(∃j,j<R.length/\(nth P j).toNat=x)\/∃i,i<(ek O m R P m).length/\(gr P m).getD i 0=x:=λx hx=>by
  by_cases hc : (x : Int) ∈ P
  ·obtain ⟨j,hj,e⟩:=List.mem_iff_getElem.1 hc;exact .inl ⟨j,by omega,by rw [ai hj,e];simp⟩
  ·obtain ⟨j,hj,e⟩:=List.mem_iff_getElem.1 ((nH (P:=P) m).2 ⟨hx,hc⟩);exact .inr ⟨j,by rw [hkl];exact hj,by rw [EJ,Fa hj];exact e⟩
 exact ⟨pa F hK hR hκ h2 hι h1 (λx hx=>(hall x hx).symm) (nj.symm F hR hK hO) hf,pa F hR hK hι h1 hκ h2 hall hO hf⟩
def fT (O : aL) (m : Nat) (L : LL) : LL:=fq O m (ek O m (fq O m L) (aB O L m).2 m)
theorem gw (F : bU O El) (hL : bx El m L) : bx El m (fT O m L):=eA F (iZ F (eA F hL) (dK F hL).1 (de F hL))
theorem sI (F : bU O El) (hA : bx El m A) {f : Nat->Int} (hf : ∀x,x<m->El (f x)) (h : ∀i,i<A.length->ch O f (λp=>nth (af A i) p) m=0) {g : Nat->Int} (hg : RS O El m A g) : ch O f g m=0:=by obtain ⟨e,he,h2⟩:=hg;rw [cT (a':=f) (b':=λp=>e (aQ A p)) m λp hp=>⟨rfl,h2 p hp⟩];exact lO F hA he hf h
theorem sK (F : bU O El) (hL : bx El m L) {f : Nat->Int} (hf : ∀x,x<m->El (f x)) : RS O El m (fT O m L) f ↔ ∀i,i<L.length->ch O f (λp=>nth (af L i) p) m=0:=by
 obtain ⟨hP,hl⟩:=dK F hL;have hlen:=de F hL;have hR:=eA F hL;have hK:=iZ F hR hP hlen;obtain ⟨s1,s2⟩:=ja F hK;obtain ⟨t1,t2⟩:=ja F hL;have hO:=nj.symm F hR hK (uo F hR hP hl hlen);constructor
 ·intro h i hi;exact sI F hR hf (λj hj=>RS.dot F hK hR hO (s1.rs h) hj) (t2 i hi)
 ·intro h;refine s2.rs ((tS F hR hP hl hlen hf).1 λi hi=>?_);exact sI F hL hf h (t1 i hi)
theorem xB (F : bU O El) (hL : bx El m L) {f : Nat->Int} (hf : ∀x,x<m->El (f x)) : (∀i,i<(fT O m L).length->ch O f (λp=>nth (af (fT O m L) i) p) m=0) ↔ RS O El m L f:=by
 obtain ⟨hP,hl⟩:=dK F hL;have hlen:=de F hL;have hR:=eA F hL;have hK:=iZ F hR hP hlen;obtain ⟨s1,s2⟩:=ja F hK;obtain ⟨t1,t2⟩:=ja F hL;have hN:=gw F hL;constructor
 ·intro h;exact t1.rs ((tS F hR hP hl hlen hf).2 λi hi=>sI F hN hf h (s2 i hi))
 ·intro h i hi;have hfn : ∀p,p<m->El (nth (af (fT O m L) i) p):=λp hp=>Jd (hN.row hi) hp;rw [fg F m hf hfn];exact sI F hL hfn ((sK F hL hfn).1 (Jp F hi)) h
def iz (m : Nat) (z : Int) : LI:=(List.replicate m 0).set z.toNat 1
def p9 (O : aL) (m : Nat) (L : LL) (Z : LI) : LL:=fT O m (fT O m L ++ Z.map (iz m))
def o6 (O : aL) (m : Nat) (L : LL) (Z : LI) : LL:=fq O m (pM O m (fT O L.length ((List.range Z.length).map (aQ (L.map (bK Z))))) L)
theorem td (F : bU O El) (m : Nat) (z : Int) : Vc El m (iz m z):=⟨by simp [iz],λy hy=>by
 rcases FK hy with h | rfl
 ·rw [FM h];exact F.zero
 ·exact F.one⟩
theorem mw {m : Nat} {z : Int} (hz : z.toNat<m) (i : Nat) : nth (iz m z) i=if i=z.toNat then 1 else 0:=by
 unfold iz;rw [cX _ _ _ _ (by simpa using hz)];split
 ·rfl
 ·simp [nth,EJ,E9];split <;> rfl
theorem uB (F : bU O El) {f : Nat->Int} (hf : ∀x,x<m->El (f x)) {z : Int} (hz : z.toNat<m) : ch O f (λp=>nth (iz m z) p) m=f z.toNat:=by
 have h1:=lK F (a:=f) (b:=λp=>nth (iz m z) p) (x:=z.toNat) (by show El (O.mul (f z.toNat) (nth (iz m z) z.toNat));rw [mw hz,EH rfl,F.kg (hf _ hz)];exact hf _ hz) m λp hp hne=>by show O.mul (f p) (nth (iz m z) p)=0;rw [mw hz,EG hne,F.dh (hf p hp)]
 rw [h1,EH hz];show O.mul (f z.toNat) (nth (iz m z) z.toNat)=_;rw [mw hz,EH rfl,F.kg (hf _ hz)]
def D8 (m : Nat) (Z : LI) : Prop:=∀z ∈ Z,0<=z/\z<(m : Int)
theorem uj (F : bU O El) (hL : bx El m L) {Z : LI} (hZ : D8 m Z) {f : Nat->Int} (hf : ∀x,x<m->El (f x)) : RS O El m (p9 O m L Z) f ↔ RS O El m L f/\∀z ∈ Z,f z.toNat=0:=by
 have hN:=gw F hL;have hU : bx El m (fT O m L ++ Z.map (iz m)):=λr hr=>by
  rcases List.mem_append.1 hr with h | h
  ·exact hN r h
  ·obtain ⟨z,_,rfl⟩:=List.mem_map.1 h;exact td F m z
 have key : RS O El m (p9 O m L Z) f ↔ ∀r ∈ fT O m L ++ Z.map (iz m),ch O f (λp=>nth r p) m=0:=by refine (sK F hU hf).trans ⟨λh r hr=>?_,λh i hi=>h _ (dN hi)⟩;obtain ⟨j,hj,rfl⟩:=jb hr;exact h j hj
 rw [key];constructor
 ·intro h;refine ⟨(xB F hL hf).1 λi hi=>h _ (List.mem_append.2 (.inl (dN hi))),λz hz=>?_⟩;have hzb:=hZ z hz;rw [<- uB F hf (z:=z) (by omega)];exact h _ (List.mem_append.2 (.inr (List.mem_map.2 ⟨z,hz,rfl⟩)))
 ·rintro ⟨h1,h2⟩ r hr;rcases List.mem_append.1 hr with h | h
  ·obtain ⟨j,hj,rfl⟩:=jb h;exact (xB F hL hf).2 h1 j hj
  ·obtain ⟨z,hz,rfl⟩:=List.mem_map.1 h;have hzb:=hZ z hz;rw [uB F hf (by omega)];exact h2 z hz
theorem RS.Ew (F : bU O El) (hL : bx El m L) {f : Nat->Int} (h : RS O El m L f) : ∃v,Vc El L.length v/\∀x,x<m->f x=nth (da O m v L L.length) x:=by
 obtain ⟨e,he,h2⟩:=h;obtain ⟨c,hc⟩ : ∃c,((List.range L.length).map λt=>e (gg L.length t))=c:=⟨_,rfl⟩
 have hcl : c.length=L.length:=by rw [<- hc];simp
 have hcn : ∀t,t<L.length->nth c t=e (gg L.length t):=λt ht=>by rw [<- hc,dp _ _ _ ht]
 have hcv : Vc El L.length c:=⟨hcl,λy hy=>by obtain ⟨t,ht,rfl⟩:=List.mem_iff_getElem.1 hy;rw [<- ai ht,hcn t (by omega)];exact he.el _ (iU F _ _)⟩
 refine ⟨c,hcv,λx hx=>?_⟩;rw [h2 x hx,mc F he (cA hL F.zero x),iD F hL (λk hk=>hcv.at hk) hx _ (EF _)];exact cT _ λp hp=>⟨(hcn p hp).symm,bR _ _ _ hp⟩
theorem xi {Z : LI} {k : Nat} (hk : k<Z.length) : af ((List.range Z.length).map (aQ (L.map (bK Z)))) k=aQ L (nth Z k).toNat:=by rw [aE (by simpa using hk)];simp only [FZ,G8,aQ,List.map_map];refine GV λr _=>?_;show nth (bK Z r) k=_;rw [j5 Z r hk]
theorem j6 (F : bU O El) (hL : bx El m L) {Z : LI} : bx El L.length ((List.range Z.length).map (aQ (L.map (bK Z)))):=λr hr=>by obtain ⟨k,hk,rfl⟩:=jb hr;rw [xi (by simpa using hk)];exact cA hL F.zero _
theorem j9 (F : bU O El) (hL : bx El m L) {K : LL} (hK : bx El L.length K) : bx El m (pM O m K L):=λr hr=>by obtain ⟨v,hv,rfl⟩:=List.mem_map.1 hr;exact (jR F hL (λk hk=>Jd (hK v hv) hk) _ (EF _)).1
theorem zZ (F : bU O El) (hL : bx El m L) {Z : LI} : bx El m (o6 O m L Z):=eA F (j9 F hL (gw F (j6 F hL)))
theorem nW (F : bU O El) (hL : bx El m L) {Z : LI} (hZ : D8 m Z) {f : Nat->Int} (hf : ∀x,x<m->El (f x)) : RS O El m (o6 O m L Z) f ↔ RS O El m L f/\∀z ∈ Z,f z.toNat=0:=by
 have hT:=j6 (Z:=Z) F hL;obtain ⟨K,hK⟩ : ∃K,fT O L.length ((List.range Z.length).map (aQ (L.map (bK Z))))=K:=⟨_,rfl⟩
 have hKr : bx El L.length K:=by rw [<- hK];exact gw F hT
 have hM:=j9 F hL hKr;obtain ⟨s1,s2⟩:=ja F hM;have hKi : ∀v,Vc El L.length v->(RS O El L.length K (λx=>nth v x) ↔ ∀z ∈ Z,nth (da O m v L L.length) z.toNat=0):=λv hv=>by
  rw [<- hK];refine (sK F hT λx hx=>hv.at hx).trans ?_;have hd : ∀k,k<Z.length->ch O (λx=>nth v x) (λp=>nth (af ((List.range Z.length).map (aQ (L.map (bK Z)))) k) p) L.length=nth (da O m v L L.length) (nth Z k).toNat:=λk hk=>by have hzb:=hZ _ (aO hk);rw [xi hk,iD F hL (λk hk=>hv.at hk) (show (nth Z k).toNat<m by omega) _ (EF _)];exact cT _ λp hp=>⟨rfl,bR _ _ _ hp⟩
  constructor
  ·intro h z hz;obtain ⟨k,hk,e⟩:=List.mem_iff_getElem.1 hz;have:=h k (by simpa using hk);rw [hd k hk,ai hk,e] at this;exact this
  ·intro h k hk;rw [hd k (by simpa using hk)];exact h _ (aO (by simpa using hk))
 unfold o6;rw [hK];constructor
 ·intro h;have hrow : ∀r ∈ pM O m K L,RS O El m L (λx=>nth r x)/\∀z ∈ Z,nth r z.toNat=0:=λr hr=>by obtain ⟨v,hv,rfl⟩:=List.mem_map.1 hr;obtain ⟨j,hj,rfl⟩:=jb hv;exact ⟨(jR F hL (λk hk=>Jd (hKr _ hv) hk) _ (EF _)).2,(hKi _ (hKr _ hv)).1 (Jp F hj)⟩
  have h3:=s1.rs h;refine ⟨gy.rs (λi hi=>(hrow _ (dN hi)).1) h3,λz hz=>?_⟩;have hzb:=hZ z hz;exact RS.Es F hM h3 (by omega) λr hr=>(hrow r hr).2 z hz
 ·rintro ⟨h1,h2⟩;obtain ⟨v,hv,hfv⟩:=RS.Ew F hL h1;have hvK : RS O El L.length K (λx=>nth v x):=(hKi v hv).2 λz hz=>by have hzb:=hZ z hz;rw [<- hfv _ (by omega)];exact h2 z hz
  obtain ⟨u,hu,hvu⟩:=RS.Ew F hKr hvK;refine s2.rs ?_;have hml : (pM O m K L).length=K.length:=by simp [pM]
  have hue : ∀k,k<(pM O m K L).length->El (nth u k):=λk hk=>hu.at (by omega);refine (jR F hM hue _ (EF _)).2.congr λx hx=>?_;rw [hfv x hx,iD F hM hue hx _ (EF _),hml];have hx1 : nth (da O m v L L.length) x=ch O (λt=>nth v t) (λt=>nth (af L t) x) L.length:=iD F hL (λk hk=>hv.at hk) hx _ (EF _);have hc : Vc El L.length (aQ L x):=cA hL F.zero x;have h4 : ch O (λt=>nth v t) (λt=>nth (aQ L x) t) L.length=ch O (λj=>nth u j) (λj=>ch O (λt=>nth (af K j) t) (λt=>nth (aQ L x) t) L.length) K.length:=by
   have hcol:=my F (r:=λt=>nth (aQ L x) t) (K:=K) hKr (φ:=λw=>ch O (λj=>nth u j) (λj=>nth w j) K.length) (by exact gV.dot F (EF _) λj hj=>hu.at hj) L.length (λp hp=>hc.at hp);rw [fg F _ (λp hp=>hv.at hp) λp hp=>hc.at hp];have e1 : ch O (λt=>nth (aQ L x) t) (λt=>nth v t) L.length=ch O (λt=>nth (aQ L x) t) (λp=>ch O (λj=>nth u j) (λj=>nth (aQ K p) j) K.length) L.length:=cT _ λp hp=>⟨rfl,by rw [hvu p hp,iD F hKr (λk hk=>hu.at hk) hp _ (EF _)];exact cT _ λq hq=>⟨rfl,(bR _ _ _ hq).symm⟩⟩
   rw [e1,<- hcol];refine cT _ λj hj=>⟨rfl,?_⟩
   rw [sT F hKr hj _ (EF _) (λp hp=>hc.at hp)];exact fg F _ (λp hp=>hc.at hp) λp hp=>Jd (hKr.row hj) hp
  rw [hx1,cT (a':=λt=>nth v t) (b':=λt=>nth (aQ L x) t) _ λp hp=>⟨rfl,(bR _ _ _ hp).symm⟩,h4];refine cT _ λj hj=>⟨rfl,?_⟩
  have e2 : af (pM O m K L) j=da O m (af K j) L L.length:=by rw [aE (by omega),aE hj];simp [pM]
  rw [e2,iD F hL (λk hk=>Jd (hKr.row hj) hk) hx _ (EF _)];exact cT _ λp hp=>⟨rfl,bR _ _ _ hp⟩
theorem zA (F : bU O El) (hL : bx El m L) {Z : LI} (hZ : D8 m Z) : o6 O m L Z=p9 O m L Z:=by
 have hM:=j9 (O:=O) F hL (gw F (j6 (Z:=Z) F hL));have hU : bx El m (fT O m L ++ Z.map (iz m)):=λr hr=>by
  rcases List.mem_append.1 hr with h | h
  ·exact gw F hL r h
  ·obtain ⟨z,_,rfl⟩:=List.mem_map.1 h;exact td F m z
 have hU2:=iZ F (eA F hU) (dK F hU).1 (de F hU);have r1 : bx El m (o6 O m L Z):=eA F hM;have r2 : bx El m (p9 O m L Z):=eA F hU2;refine AM F r1 r2 (dK F hM).1 (dK F hU2).1 (dK F hM).2 (dK F hU2).2 (de F hM) (de F hU2) (λi hi=>?_) (λi hi=>?_)
 ·have hel : ∀x,x<m->El (nth (af (o6 O m L Z) i) x):=λx hx=>Jd (r1.row hi) hx;exact (uj F hL hZ hel).2 ((nW F hL hZ hel).1 (Jp F hi))
 ·have hel : ∀x,x<m->El (nth (af (p9 O m L Z) i) x):=λx hx=>Jd (r2.row hi) hx;exact (nW F hL hZ hel).2 ((uj F hL hZ hel).1 (Jp F hi))
theorem wX {l : LN} {x : Nat} (hl : ∀y ∈ l,y<m) (hx : x<m) : lQ O El A.length (aQ A) l x ↔ ∀f,RS O El m A f->(∀y ∈ l,f y=0)->f x=0:=by
 constructor
 ·rintro h f ⟨e,he,h2⟩ h0;rw [h2 x hx];exact h e he λy hy=>by rw [<- h2 y (hl y hy)];exact h0 y hy
 ·intro h φ hφ h0;exact h (λx=>φ (aQ A x)) ⟨φ,hφ,λ_ _=>rfl⟩ h0
end
theorem nw {σ : Type} (I : World->σ->Prop) (J : σ->Nat->Prop) (val : σ->LL) (F : LI->LI->LL->Int × LL) (pb W : Nat)
  (sa : OA) (ns cs : Nat) (s : LI) (az : OA) (nz cz : Nat) (z : LI) (at' : OA) (nt ct : Nat) (t : LI) (w : World) (σ0 : σ)
  (hI0 : I w σ0) (hIb : ∀V V' σ,I V σ->aw V V' (λb=>w.heap.size<=b/\¬ J σ b) (λb=>w.heap.size<=b/\¬ J σ b)->I V' σ) (hp : w.cell? ⟨pb,9,none⟩=some (.int .i64 W)) (hS : ∀V σ,I V σ->Ints V sa ns s/\Ints V at' nt t)
  (hJ : ∀V σ x,I V σ->J σ x->x<V.heap.size) (hz : Ints w az nz z) (htn : t.Nodup) (hns : ns<=1000) (hnz : nz<=1000) (hnt : nt<=1000) (hWs : ns<=W)
  (hF : ns<W->∀(V : World) (σ : σ) (a1 : OA) (c1 : Nat) (a2 : OA) (c2 k : Nat) (zc : LI),k<nt->zc=z ++ (t.take k).filter (λx=>decide (¬ x ∈ z))->¬ nth t k ∈ z->I V σ->aw w V (J σ0) (J σ) ->
   Ints V a1 (ns+1) (s ++ [nth t k])->Ints V a2 zc.length zc->¬ J σ (ah a1)->(a2 ≠ none->¬ J σ (ah a2)) ->
   Calls prog 186 #[.pointer (some ⟨pb,0,none⟩),.slice a1 (ns+1) c1,.slice a2 zc.length c2] V
    λe V'=>∃σ',I V' σ'/\aw V V' (J σ) (J σ')/\e = .returned (.int .i64 (F (s ++ [nth t k]) zc (val σ)).1)/\((F (s ++ [nth t k]) zc (val σ)).1=0->val σ'=(F (s ++ [nth t k]) zc (val σ)).2)) :
  Calls prog 243 #[.pointer (some ⟨pb,0,none⟩),.slice sa ns cs,.slice az nz cz,.slice at' nt ct,.func (.func 186) #[.pointer (some ⟨pb,0,none⟩)] #[]] w
   λe w'=>∃σ',I w' σ'/\aw w w' (J σ0) (J σ')/\e = .returned (.int .i64 (fG F s z (if ns<W then t.filter (λx=>decide (¬ x ∈ z)) else []) (val σ0)).1) /\
    ((fG F s z (if ns<W then t.filter (λx=>decide (¬ x ∈ z)) else []) (val σ0)).1=0->val σ'=(fG F s z (if ns<W then t.filter (λx=>decide (¬ x ∈ z)) else []) (val σ0)).2):=by
 obtain ⟨KB,hKB⟩ : ∃KB,fG F s z (if ns<W then t.filter (λx=>decide (¬ x ∈ z)) else []) (val σ0)=KB:=⟨_,rfl⟩
 rw [hKB];have HKB:=Z5 hKB;clear hKB;have Hzl:=Z5 hz.len;have Htl:=Z5 (hS w σ0 hI0).2.len;have Hsl:=Z5 (hS w σ0 hI0).1.len;have hplt:=(hS w σ0 hI0).2.pl;have HS:=Z5 hS;have HI0:=Z5 hI0;have HIb:=Z5 hIb;have HJ:=Z5 hJ;have Htn:=Z5 htn;have HF:=Z5 hF;clear hS hI0 hIb hJ htn hF;by_cases hW : ns=W
 ·have hd : ((ns : Int) == (W : Int))=true:=by simp;omega
  have Hk : Hid (KB=(0,val σ0)):=by show _=_;rw [<- HKB.out,EG (by omega)];rfl
  go_enter func243,ntmps243;clear hW;go_wp2_with fail;go_ret;exact ⟨σ0,HI0.out,Ji _ _,by rw [Hk.out];rfl,λ_=>by rw [Hk.out]⟩
 have hd : ((ns : Int) == (W : Int))=false:=by simp;omega
 have hlW : ns<W:=by omega
 have HKB : Hid (KB=fG F s z (t.filter (λx=>decide (¬ x ∈ z))) (val σ0)):=by show _=_;rw [<- HKB.out,EH hlW]
 have HF:=Z5 (HF.out hlW);clear hlW hW;go_enter func243,ntmps243;go_wp2_with fail;refine (dI az nz cz z hz (by omega)).mono ?_;rintro e w1 ⟨a0,c0,rfl,hown0,hb1⟩;have hI1:=HIb.out w w1 σ0 HI0.out (Jc hb1 _);go_wp2_with fail;go_loopw [2,25] (λzv iv wr=>∃(k : Nat) (aq : OA) (cq : Nat) (zc : LI) (σ : σ),k<=nt/\iv = .int .i64 k/\zv = .slice aq zc.length cq/\Hid (zc=z ++ (t.take k).filter (λx=>decide (¬ x ∈ z))) /\
   wr.ownsRow w.heap.size 3 1 (.slice aq zc.length cq) zc.length (zc.map (Value.int .i64))/\Hid (I wr σ)/\Hid (aw w wr (J σ0) (J σ))/\Hid (aq ≠ none->¬ J σ (ah aq)) /\
   Hid (KB=fG F s zc ((t.drop k).filter (λx=>decide (¬ x ∈ z))) (val σ))/\zc.length<=nz+k)
  (λ_ iv _=>nt - (intOf iv).toNat)
 case atStart =>
  refine ⟨0,a0,c0,z,σ0,EL _,rfl,rfl,?_,hown0,hI1,Jc hb1 _,?_,?_,by rw [Hzl.out];omega⟩
  ·show _=_;simp
  ·show a0 ≠ none->_
   intro ha hj
   have h1:=HJ.out w σ0 _ HI0.out hj
   have h2:=(aU hown0 ha).1
   omega
  ·show _=_;rw [Ip];exact HKB.out
 case round =>
  obtain ⟨k,aq,cq,zc,σ,hk,rfl,rfl,hzc,hop,hI,hM,hap,hkb,hzn⟩:=hrel
  generalize wr=U at *
  by_cases hlt : k<nt
  ·have htU:=(HS.out U σ hI.out).2
   have hsU:=(HS.out U σ hI.out).1
   have ck:=htU.cell k hlt
   obtain ⟨hzi,_⟩:=I9 hop
   have hktl : k<t.length:=by rw [Htl.out];exact hlt
   have Htk:=Z5 (show t.take (k+1)=t.take k ++ [nth t k] from oZ t hktl)
   have Hdk:=Z5 (show t.drop k=nth t k :: t.drop (k+1) by rw [ai hktl];exact FL hktl)
   have Hzm : Hid (nth t k ∈ zc ↔ nth t k ∈ z):=by
    show _ ↔ _;rw [hzc.out,FH,Gj];constructor
    ·rintro (h | h)
     ·exact h
     ·exfalso;have hn : (t.take k ++ t.drop k).Nodup:=by rw [Ig];exact Htn.out
      rw [FT] at hn;exact hn.2.2 _ h.1 (nth t k) (by rw [Hdk.out];simp) rfl
    ·exact .inl
   by_cases hmz : nth t k ∈ z
   ·have hmd : decide (nth t k ∈ zc)=true:=by simpa using Hzm.out.2 hmz
    have HcA:=Z5 (bJ aq zc.length cq zc (nth t k) U hzi)
    rw [hmd] at HcA
    have Hzc2 : Hid (zc=z ++ (t.take (k+1)).filter (λx=>decide (¬ x ∈ z))):=by show _=_;rw [Htk.out,Gu,Gb (by simpa using hmz),Gk,IY];exact hzc.out
    have Hkb2 : Hid (KB=fG F s zc ((t.drop (k+1)).filter (λx=>decide (¬ x ∈ z))) (val σ)):=by show _=_;rw [hkb.out,Hdk.out,Gb (by simpa using hmz)]
    clear hmz hmd
    go_wp2_with fail
    refine HcA.out.mono ?_
    rintro e w6 ⟨rfl,rfl⟩
    go_wp2_with fail
    go_roundw
    case rel=>exact ⟨k+1,aq,cq,zc,σ,by omega,by go_num,rfl,Hzc2.out,hop,hI.out,hM.out,hap.out,Hkb2.out,by omega⟩
    case measure=>simp [intOf] <;> omega
   ·have hmd : decide (nth t k ∈ zc)=false:=by simpa using λh=>hmz (Hzm.out.1 h)
    have HcA:=Z5 (bJ aq zc.length cq zc (nth t k) U hzi)
    rw [hmd] at HcA
    have Hzc2 : Hid (zc ++ [nth t k]=z ++ (t.take (k+1)).filter (λx=>decide (¬ x ∈ z))):=by show _=_;rw [Htk.out,Gu,Gc (by simpa using hmz),Gk,<- GA,<- hzc.out]
    have Hkb2 : Hid (KB=if (F (s ++ [nth t k]) zc (val σ)).1=0 then fG F s (zc ++ [nth t k]) ((t.drop (k+1)).filter (λx=>decide (¬ x ∈ z))) (F (s ++ [nth t k]) zc (val σ)).2 else ((F (s ++ [nth t k]) zc (val σ)).1,[])):=by show _=_;rw [hkb.out,Hdk.out,Gc (by simpa using hmz),fG]
    have HFk:=Z5 (λV σ a1 c1 a2 c2=>HF.out V σ a1 c1 a2 c2 k zc hlt hzc.out hmz)
    have hszU:=hM.out.size
    clear hmz hmd
    go_wp2_with fail
    refine HcA.out.mono ?_
    rintro e w6 ⟨rfl,rfl⟩
    go_wp2_with fail
    refine (dI sa ns cs s hsU (by omega)).mono ?_
    rintro e w7 ⟨a7,c7,rfl,hown7,hb7⟩
    rw [Hsl.out] at hown7
    rw [Hsl.out]
    obtain ⟨x,hx⟩ : ∃x,nth t k=x:=⟨_,rfl⟩
    rw [hx] at ck Hzc2 Hkb2 HFk Htk Hdk Hzm HcA ⊢
    have hcn:=bk w7 (.int .i64 x) 3
    have hbn:=aA w7 (.cells #[.int .i64 x] 3)
    go_wp2_with (at_builtin;refine aX rfl _ _ 22 3 rfl (.int .i64 0) 8 underlying22 bh rfl w6.heap.size a7 ns c7 _ rfl (hown7.alloc _) ⟨w7.heap.size,0,none⟩ 1 (.int .i64 x) rfl hcn rfl (by omega) (by unfold maxLen;omega) (ET hb7.size hbn.size) ?_;intro a8 c8 w8 hown8 hgr8 hap8)
    have hb68 : JA w6 w8:=Jb (I8 hb7 hbn) (hown7.alloc _) hgr8 (EF _) (ET hb7.size hbn.size)
    have own8 : w8.ownsRow w6.heap.size 3 1 (.slice a8 (ns+1) c8) (ns+1) ((s ++ [x]).map (Value.int .i64)):=by simpa using hown8
    have hz8:=hzi.aa hb68
    clear hown7 hown8 hgr8 hap8 hcn hbn
    go_wp2_with fail
    refine (dI aq zc.length cq zc hz8 (by omega)).mono ?_
    rintro e w9 ⟨a9,c9,rfl,hown9,hb9⟩
    have hb69:=I8 hb68 hb9
    have hI9:=HIb.out w6 w9 σ hI.out (Jc hb69 _)
    have hM9 : aw w w9 (J σ0) (J σ):=hM.out.lB (hb69.mono hszU)
    have hs9:=(I9 own8).1.aa hb9
    have hz9:=(I9 hown9).1
    have hn8 : ¬ J σ (ah a8):=λhj=>by have h1:=HJ.out w6 σ _ hI.out hj;have h2:=(ez own8 (by omega)).1;omega
    have hn9 : a9 ≠ none->¬ J σ (ah a9):=λha hj=>by have h1:=HJ.out w6 σ _ hI.out hj;have h2:=(aU hown9 ha).1;have h3:=hb68.size;omega
    have hopz:=aY hop hb69
    have HCall:=Z5 (HFk.out w9 σ a8 c8 a9 c9 hI9 hM9 hs9 hz9 hn8 hn9)
    clear HFk hI9 hs9 hz9 hn8 hn9 hz8 own8 hown9
    generalize F (s ++ [x]) zc (val σ)=FR at *
    obtain ⟨fe,fv⟩:=FR
    dsimp only at HCall Hkb2
    go_wp2_with fail
    refine HCall.out.mono ?_
    rintro e w10 ⟨σ',hI',hM',rfl,hval⟩
    have hM10:=Z5 (hM9.trans hM')
    have hapz : aq ≠ none->¬ J σ' (ah aq):=λha=>hM'.not (aU hopz ha).2 (hap.out ha)
    have hopq:=hM'.own hopz hap.out
    have Hapz:=Z5 hapz
    have HI':=Z5 hI'
    clear HCall hM9 hM' hapz hI' hopz
    by_cases hfe : fe=0
    ·have Hval : Hid (val σ'=fv):=hval hfe
     subst hfe
     rw [EH rfl] at Hkb2
     have hcn:=bk w10 (.int .i64 x) 3
     have hbn:=aA w10 (.cells #[.int .i64 x] 3)
     have hsz10:=hM10.out.size
     clear hval
     go_wp2_with (at_builtin;refine aX rfl _ _ 22 3 rfl (.int .i64 0) 8 underlying22 bh rfl w.heap.size aq zc.length cq _ rfl (hopq.alloc _) ⟨w10.heap.size,0,none⟩ 1 (.int .i64 x) rfl hcn rfl (by omega) (by unfold maxLen;omega) (ET hsz10 hbn.size) ?_;intro a11 c11 w11 hown11 hgr11 hap11)
     go_roundw
     case rel =>
      have hb11 : Below w.heap.size w10 w11:=Jb (hbn.mono hsz10) (hopq.alloc _) hgr11 (EF _) (ET hsz10 hbn.size)
      have hK : aw w10 w11 (λb=>w.heap.size<=b/\¬ J σ' b) (λb=>w.heap.size<=b/\¬ J σ' b):=(Jc hbn _).trans (Jj hgr11 λha=>⟨(aU hopq ha).1,Hapz.out ha⟩)
      refine ⟨k+1,a11,c11,zc ++ [x],σ',by omega,by go_num,by simp,Hzc2.out,by simpa using hown11,HIb.out w10 w11 σ' HI'.out hK,hM10.out.lB hb11,?_,?_,by simp;omega⟩
      ·show a11 ≠ none->_
       intro ha hj
       have h1:=HJ.out w10 σ' _ HI'.out hj
       have h2 : db aq (ah a11):=by
        by_cases h0 : aq=none
        ·exact .inl h0
        ·exact .inr λe=>Hapz.out h0 (by rw [e];exact hj)
       rcases hap11 _ (Fc h1 hbn.size) h2 with h3 | h3
       ·exact ha h3
       ·exact h3 rfl
      ·show _=_
       rw [Hkb2.out,Hval.out]
     case measure=>simp [intOf] <;> omega
    ·have hfe' : (fe != 0)=true:=by simpa using hfe
     have Hk2 : Hid (KB=(fe,[])):=by show _=_;rw [Hkb2.out,EG hfe]
     have Hfe:=Z5 hfe
     clear hfe hval
     go_wp2_with fail
     go_ret
     exact ⟨σ',HI'.out,hM10.out,by rw [Hk2.out];rfl,λh0=>absurd (by rw [Hk2.out] at h0;exact h0) Hfe.out⟩
  ·obtain rfl : k=nt:=by omega
   have Hf : Hid (KB=(0,val σ)):=by show _=_;rw [hkb.out,FY (by rw [Htl.out];exact EF _),Gk,fG]
   go_wp2_with fail
   go_ret
   exact ⟨σ,hI.out,hM.out,by rw [Hf.out];rfl,λ_=>by rw [Hf.out]⟩
theorem A8 {w : World} {B : Nat} {e : TypeId} {a : OA} {n c k : Nat} {xs : List Value} (h : w.ownsRow B e 1 (.slice a n c) n xs) (hk : k<=n) : w.ownsRow B e 1 (.slice a k c) k (xs.take k):=by
 have hl:=iw h;refine ⟨by rw [Fg];omega,?_⟩;rcases h.2 with ⟨hv,h0⟩ | ⟨g,cap,cur,hv,hg,hh,hle,hm,hs,ht⟩
 ·cases hv
  obtain rfl : k=0:=by omega
  exact .inl ⟨rfl,rfl⟩
 ·cases hv
  refine .inr ⟨g,c,cur,rfl,hg,hh,by omega,hm,hs,?_⟩;rw [<- ht,List.take_take];congr 1;omega
theorem aN.take {B : Nat} {w : World} {a : OA} {n c k : Nat} {R : LA} {L : LL} (h : aN w B a n c R L) (hk : k<=n) : aN w B a k c (R.take k) (L.take k):=by
 have hr:=h.rl;have hl:=h.ll;have eR : ∀ {i},i<k->aK (R.take k) i=aK R i:=λ{i} hi=>by rw [eD (show i<(R.take k).length by rw [Fg];omega),eD (by omega),IM]
 have eL : ∀ {i},i<k->af (L.take k) i=af L i:=λ{i} hi=>by rw [aE (show i<(L.take k).length by rw [Fg];omega),aE (by omega),IM]
 refine ⟨by rw [Fg];omega,by rw [Fg];omega,?_,λi hi=>?_,λi hi=>?_,λi j hi hj=>?_⟩
 ·rw [<- List.take_zipWith];exact A8 h.own hk
 ·rw [eR hi,eL hi];exact h.row i (by omega)
 ·rw [eR hi];exact h.mM i (by omega)
 ·rw [eR hi,eR hj];exact h.sep i j (by omega) (by omega)
end Go.Proofs.YtjfiflldinnhmaaGreat
