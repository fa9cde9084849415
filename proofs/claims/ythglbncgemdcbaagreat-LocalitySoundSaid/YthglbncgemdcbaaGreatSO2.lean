import Derived.Test.YthglbncgemdcbaaGreatSO1
import Derived.Test.YthglbncgemdcbaaGreatS32
namespace Go.Proofs.YthglbncgemdcbaaGreat
set_option linter.all false
set_option maxRecDepth 100000
set_option maxHeartbeats 16000000
open Go.RowKit Go.Proofs.Tryz
section
variable {O : aL} {El : Int->Prop} {m : Nat} {A B L : ZZ}
theorem lS (F : bF O El) (hA : bp El m A) {ι : Nat->Nat} (hι : ∀j,j<A.length->ι j<m) (h1 : ∀i j,i<A.length->j<A.length->nth (ai A i) (ι j)=if i=j then 1 else 0) {f : Nat->Int} (hf : ∀x,x<m->El (f x)) :
  ∀k,k<=A.length->∃g,RS O El m A g/\∀j,j<k->g (ι j)=f (ι j)
 | 0,_=>⟨λ_=>0,SD F λ_ _=>rfl,λj hj=>by omega⟩
 | k+1,hk=>by
  obtain ⟨g,hg,h2⟩:=lS F hA hι h1 hf k (by omega);have hge:=λx (hx : x<m)=>SH F hA hg hx;have hk1:=hge _ (hι k (by omega));have hk2:=hf _ (hι k (by omega));have hs : El (O.add (g (ι k)) (O.neg (f (ι k)))):=F.cl.add _ _ hk1 (F.cl.neg _ hk2);refine ⟨_,hg.comb F (Sg F (show k<A.length by omega)) hs,λj hj=>?_⟩;show O.add (g (ι j)) (O.neg (O.mul (nth (ai A k) (ι j)) (O.add (g (ι k)) (O.neg (f (ι k))))))=_;rw [h1 k j (by omega) (by omega)];by_cases e : k=j
  ·subst e;rw [Nd rfl,F.one_mul _ hs,F.neg_add hk1 (F.cl.neg _ hk2),F.neg_neg hk2,<- F.add_assoc _ _ _ hk1 (F.cl.neg _ hk1) hk2,F.add_neg _ hk1,F.tI hk2]
  ·rw [Nf e,F.iS hs,F.dR,F.add_zero _ (hge _ (hι j (by omega)))];exact h2 j (by omega)
theorem gB (F : bF O El) {a b c : Nat->Int} : ∀t,(∀p,p<t->El (a p))->(∀p,p<t->El (b p))->(∀p,p<t->El (c p))->dotN O (λp=>O.add (a p) (O.neg (b p))) c t=O.add (dotN O a c t) (O.neg (dotN O b c t))
 | 0,_,_,_=>by show (0 : Int)=O.add 0 (O.neg 0);rw [F.dR,F.add_zero _ F.zero]
 | t+1,ha,hb,hc=>by have ih:=gB F t (λp hp=>ha p (by omega)) (λp hp=>hb p (by omega)) (λp hp=>hc p (by omega));have h1:=ha t (by omega);have h2:=hb t (by omega);have h3:=hc t (by omega);have d1:=fQ F t (λp hp=>ha p (by omega)) (λp hp=>hc p (by omega));have d2:=fQ F t (λp hp=>hb p (by omega)) (λp hp=>hc p (by omega));have m1:=F.cl.mul _ _ h1 h3;have m2:=F.cl.mul _ _ h2 h3;show O.add (dotN O (λp=>O.add (a p) (O.neg (b p))) c t) (O.mul (O.add (a t) (O.neg (b t))) (c t))=O.add (O.add (dotN O a c t) (O.mul (a t) (c t))) (O.neg (O.add (dotN O b c t) (O.mul (b t) (c t))));rw [ih,F.mul_comm _ _ (F.cl.add _ _ h1 (F.cl.neg _ h2)) h3,F.mul_add _ _ _ h3 h1 (F.cl.neg _ h2),F.mul_neg h3 h2,F.mul_comm _ _ h3 h1,F.mul_comm _ _ h3 h2,F.neg_add d2 m2,F.zT d1 (F.cl.neg _ d2) m1 (F.cl.neg _ m2)]
theorem fs (F : bF O El) (hA : bp El m A) (hB : bp El m B) {ι κ : Nat->Nat} (hι : ∀j,j<A.length->ι j<m) (h1 : ∀i j,i<A.length->j<A.length->nth (ai A i) (ι j)=if i=j then 1 else 0)
  (hκ : ∀i,i<B.length->κ i<m) (h2 : ∀i j,i<B.length->j<B.length->nth (ai B i) (κ j)=if i=j then 1 else 0)
  (hall : ∀x,x<m->(∃j,j<A.length/\ι j=x)\/∃i,i<B.length/\κ i=x) (ho : lF O m A B) {f : Nat->Int} (hf : ∀x,x<m->El (f x)) (hfo : ∀i,i<B.length->dotN O f (λp=>nth (ai B i) p) m=0) : RS O El m A f:=by
 obtain ⟨g,hg,hgf⟩:=lS F hA hι h1 hf A.length (Na _);have hge:=λx (hx : x<m)=>SH F hA hg hx;refine hg.congr λx hx=>?_;rcases hall x hx with ⟨j,hj,rfl⟩ | ⟨i,hi,rfl⟩
 ·exact (hgf j hj).symm
 ·have hb : ∀p,p<m->El (nth (ai B i) p):=λp hp=>Sc (hB.row hi) hp;have hd:=gB F m hf hge hb;rw [hfo i hi,SB F hA hB ho hg hi,F.dR,F.add_zero _ F.zero] at hd;have hk:=hκ i hi;have hde : El (O.add (f (κ i)) (O.neg (g (κ i)))):=F.cl.add _ _ (hf _ hk) (F.cl.neg _ (hge _ hk));have h3:=iO F (a:=λp=>O.add (f p) (O.neg (g p))) (b:=λp=>nth (ai B i) p) (x:=κ i) (F.cl.mul _ _ hde (hb _ hk)) m λp hp hne=>?_
  ·rw [hd,Nd hk] at h3;have h4 : O.mul (O.add (f (κ i)) (O.neg (g (κ i)))) (nth (ai B i) (κ i))=0:=h3.symm;rw [h2 i i hi hi,Nd rfl,F.ie hde] at h4;have h5:=F.iH (hf _ hk) (F.cl.neg _ (hge _ hk)) h4;rw [<- F.neg_neg (hf _ hk),<- h5,F.neg_neg (hge _ hk)]
  ·show O.mul (O.add (f p) (O.neg (g p))) (nth (ai B i) p)=0;rcases hall p hp with ⟨j,hj,rfl⟩ | ⟨j,hj,rfl⟩
   ·rw [hgf j hj,F.add_neg _ (hf _ hp),F.iS (hb _ hp)]
   ·rw [h2 i j hi hj,Nf (λe=>hne (by rw [e])),F.cQ (F.cl.add _ _ (hf _ hp) (F.cl.neg _ (hge _ hp)))]
theorem gL (P : Lz) : ∀k i j,i<j->j<(dK P k).length->(dK P k).getD i 0<(dK P k).getD j 0
 | 0,i,j,_,h=>by simp [dK] at h
 | k+1,i,j,hij,h=>by
  have ih:=gL P k i j hij;rw [dK] at h ⊢;split at h
  ·rename_i hc;rw [Nd hc];exact ih h
  ·rename_i hc;rw [Nf hc];rw [Nl,ND] at h;have e1 : (dK P k ++ [k]).getD i 0=(dK P k).getD i 0:=by simp only [Ng];rw [Ny (by omega)]
   rw [e1];by_cases e : j<(dK P k).length
   ·have e2 : (dK P k ++ [k]).getD j 0=(dK P k).getD j 0:=by simp only [Ng];rw [Ny e]
    rw [e2];exact ih e
   ·have e2 : (dK P k ++ [k]).getD j 0=k:=by
     have ej : j=(dK P k).length:=by omega
     simp only [Ng];rw [NY (by omega)];simp [ej]
    rw [e2];exact (gC (k:=k) (j:=i) (by omega)).1
theorem iR (F : bF O El) {R : ZZ} {P : Lz} (hR : bp El m R) (hP : mg R P m) (hl : nQ R P) (hlen : R.length=P.length) {f : Nat->Int} (hf : ∀x,x<m->El (f x)) :
  ((∀i,i<R.length->dotN O f (λp=>nth (ai R i) p) m=0)->RS O El m (cZ O m R P m) f)/\((∀i,i<(cZ O m R P m).length->dotN O f (λp=>nth (ai (cZ O m R P m) i) p) m=0)->RS O El m R f):=by
 have hK:=dz F hR hP hlen;have hO:=jf F hR hP hl hlen;have hkl:=fS O m R P m;have hι : ∀j,j<R.length->(nth P j).toNat<m:=λj hj=>by have:=hP.lt j (by omega);omega
 have h1 : ∀i j,i<R.length->j<R.length->nth (ai R i) (nth P j).toNat=if i=j then 1 else 0:=λi j hi hj=>hP.one j i (by omega) hi
 have hκ : ∀i,i<(cZ O m R P m).length->(dK P m).getD i 0<m:=λi hi=>(gC (by omega)).1;have h2 : ∀i j,i<(cZ O m R P m).length->j<(cZ O m R P m).length->nth (ai (cZ O m R P m) i) ((dK P m).getD j 0)=if i=j then 1 else 0:=λi j hi hj=>by
  rw [hkl] at hi hj;obtain ⟨a1,a2⟩:=gC (P:=P) hi;obtain ⟨b1,b2⟩:=gC (P:=P) hj;rw [jP O m R P m hi];by_cases e : i=j
  ·subst e;rw [Nd rfl];exact iU hP a1 a2 _ (Na _)
  ·rw [Nf e];refine iG hP b1 (λe2=>?_) _ (Na _) λq hq e2=>?_
   ·rcases P6 e with h | h
    ·have:=gL P m i j h hj;omega
    ·have:=gL P m j i h hi;omega
   ·apply b2;have hq2:=hP.lt q hq;rw [<- e2,Oc hq2.1];exact aH hq
 have hall : ∀x,x<m->(∃j,j<R.length/\(nth P j).toNat=x)\/∃i,i<(cZ O m R P m).length/\(dK P m).getD i 0=x:=λx hx=>by
  by_cases hc : (x : Int) ∈ P
  ·obtain ⟨j,hj,e⟩:=List.mem_iff_getElem.1 hc;exact .inl ⟨j,by omega,by rw [aj hj,e];simp⟩
  ·obtain ⟨j,hj,e⟩:=List.mem_iff_getElem.1 ((jK (P:=P) m).2 ⟨hx,hc⟩);exact .inr ⟨j,by rw [hkl];exact hj,by rw [Ng,NQ hj];exact e⟩
 exact ⟨fs F hK hR hκ h2 hι h1 (λx hx=>(hall x hx).symm) (Su F hR hK hO) hf,fs F hR hK hι h1 hκ h2 hall hO hf⟩
theorem iz (F : bF O El) (hL : bp El m L) {f : Nat->Int} (hf : ∀x,x<m->El (f x)) : RS O El m (dx O m L) f ↔ ∀i,i<L.length->dotN O f (λp=>nth (ai L i) p) m=0:=by
 obtain ⟨hP,hl⟩:=bG F hL;have hlen:=bQ F hL;have hR:=bL F hL;have hK:=dz F hR hP hlen;obtain ⟨s1,s2⟩:=cB F hK;obtain ⟨t1,t2⟩:=cB F hL;have hO:=Su F hR hK (jf F hR hP hl hlen);constructor
 ·intro h i hi;exact fC F hR hf (λj hj=>SB F hK hR hO (s1.rs h) hj) (t2 i hi)
 ·intro h;refine s2.rs ((iR F hR hP hl hlen hf).1 λi hi=>?_);exact fC F hL hf h (t1 i hi)
theorem jO (F : bF O El) (hL : bp El m L) {f : Nat->Int} (hf : ∀x,x<m->El (f x)) : (∀i,i<(dx O m L).length->dotN O f (λp=>nth (ai (dx O m L) i) p) m=0) ↔ RS O El m L f:=by
 obtain ⟨hP,hl⟩:=bG F hL;have hlen:=bQ F hL;have hR:=bL F hL;have hK:=dz F hR hP hlen;obtain ⟨s1,s2⟩:=cB F hK;obtain ⟨t1,t2⟩:=cB F hL;have hN:=fV F hL;constructor
 ·intro h;exact t1.rs ((iR F hR hP hl hlen hf).2 λi hi=>fC F hN hf h (s2 i hi))
 ·intro h i hi;have hfn : ∀p,p<m->El (nth (ai (dx O m L) i) p):=λp hp=>Sc (hN.row hi) hp;rw [eY F m hf hfn];exact fC F hL hfn ((iz F hL hfn).1 (Sg F hi)) h
def kQ (O : aL) (m : Nat) (L : ZZ) (Z : Lz) : ZZ:=dx O m (dx O m L ++ Z.map (bs m))
theorem fg {m : Nat} {z : Int} (hz : z.toNat<m) (i : Nat) : nth (bs m z) i=if i=z.toNat then 1 else 0:=by
 unfold bs;rw [eh _ _ _ _ (by simpa using hz)];split
 ·rfl
 ·simp [nth,Ng,NI];split <;> rfl
theorem gw (F : bF O El) {f : Nat->Int} (hf : ∀x,x<m->El (f x)) {z : Int} (hz : z.toNat<m) : dotN O f (λp=>nth (bs m z) p) m=f z.toNat:=by
 have h1:=iO F (a:=f) (b:=λp=>nth (bs m z) p) (x:=z.toNat) (by show El (O.mul (f z.toNat) (nth (bs m z) z.toNat));rw [fg hz,Nd rfl,F.ie (hf _ hz)];exact hf _ hz) m λp hp hne=>by show O.mul (f p) (nth (bs m z) p)=0;rw [fg hz,Nf hne,F.cQ (hf p hp)]
 rw [h1,Nd hz];show O.mul (f z.toNat) (nth (bs m z) z.toNat)=_;rw [fg hz,Nd rfl,F.ie (hf _ hz)]
def J5 (m : Nat) (Z : Lz) : Prop:=∀z ∈ Z,0<=z/\z<(m : Int)
theorem pR (F : bF O El) (hL : bp El m L) {Z : Lz} (hZ : J5 m Z) {f : Nat->Int} (hf : ∀x,x<m->El (f x)) : RS O El m (kQ O m L Z) f ↔ RS O El m L f/\∀z ∈ Z,f z.toNat=0:=by
 have hN:=fV F hL;have hU : bp El m (dx O m L ++ Z.map (bs m)):=λr hr=>by
  rcases List.mem_append.1 hr with h | h
  ·exact hN r h
  ·obtain ⟨z,_,rfl⟩:=List.mem_map.1 h;exact fN F m z
 have key : RS O El m (kQ O m L Z) f ↔ ∀r ∈ dx O m L ++ Z.map (bs m),dotN O f (λp=>nth r p) m=0:=by refine (iz F hU hf).trans ⟨λh r hr=>?_,λh i hi=>h _ (dN hi)⟩;obtain ⟨j,hj,rfl⟩:=ei hr;exact h j hj
 rw [key];constructor
 ·intro h;refine ⟨(jO F hL hf).1 λi hi=>h _ (List.mem_append.2 (.inl (dN hi))),λz hz=>?_⟩;have hzb:=hZ z hz;rw [<- gw F hf (z:=z) (by omega)];exact h _ (List.mem_append.2 (.inr (List.mem_map.2 ⟨z,hz,rfl⟩)))
 ·rintro ⟨h1,h2⟩ r hr;rcases List.mem_append.1 hr with h | h
  ·obtain ⟨j,hj,rfl⟩:=ei h;exact (jO F hL hf).2 h1 j hj
  ·obtain ⟨z,hz,rfl⟩:=List.mem_map.1 h;have hzb:=hZ z hz;rw [gw F hf (by omega)];exact h2 z hz
end
section
variable {O : aL} {El : Int->Prop} {m : Nat} {L : ZZ}
theorem CI (F : bF O El) {A : ZZ} (hA : bp El m A) : ∀ {Z : Lz} {f : Nat->Int},RS O El m (A ++ (Z.map (bs m)).reverse) f->J5 m Z->∃g,RS O El m A g/\∀j : Nat,j<m->¬ (j : Int) ∈ Z->f j=g j
 | [],f,h,_=>⟨f,by simpa using h,λ_ _ _=>rfl⟩
 | z :: Z,f,h,hZ=>by
  rw [Qj,List.reverse_cons,<- NX] at h;have hA2 : bp El m (A ++ (Z.map (bs m)).reverse):=λr hr=>by
   rcases List.mem_append.1 hr with h | h
   ·exact hA r h
   ·obtain ⟨y,_,rfl⟩:=List.mem_map.1 (List.mem_reverse.1 h);exact fN F m y
  obtain ⟨s,g,hs,hg,h2⟩:=Kk F hA2 (fN F m z) h;obtain ⟨g',hg',h3⟩:=CI F hA hg λy hy=>hZ y (NS _ hy);refine ⟨g',hg',λj hj hn=>?_⟩;have hzb:=hZ z (by simp);have hne : j ≠ z.toNat:=λe=>hn (by rw [e,Oc hzb.1];simp);rw [h2 j hj,fg (by omega),Nf hne,F.cQ hs,F.add_zero _ (hg.el F hA2 hj)];exact h3 j hj λhm=>hn (NS _ hm)
theorem Gh (F : bF O El) (hL : bp El m L) {l : Z6} (hl : ∀y ∈ l,y<m) {x : Nat} (hx : x<m) (hxl : ¬ x ∈ l) (h : jE O El L.length (aR L) l x) :
  ∃y,Vc El m y/\RS O El m (dx O m L) (λj=>nth y j)/\nth y x=1/\∀j,j<m->j ≠ x->¬ j ∈ l->nth y j=0:=by
 have hN:=fV F hL;obtain ⟨Z,hZ⟩ : ∃Z : Lz,l.map Int.ofNat=Z:=⟨_,rfl⟩
 have hZm : J5 m Z:=λz hz=>by rw [<- hZ] at hz;obtain ⟨y,hy,rfl⟩:=List.mem_map.1 hz;have:=hl y hy;show 0<=(y : Int)/\(y : Int)<(m : Int);omega
 have hZr : J5 m Z.reverse:=λz hz=>hZm z (List.mem_reverse.1 hz);have hU : bp El m (dx O m L ++ Z.map (bs m)):=λr hr=>by
  rcases List.mem_append.1 hr with h | h
  ·exact hN r h
  ·obtain ⟨z,_,rfl⟩:=List.mem_map.1 h;exact fN F m z
 obtain ⟨f,hf⟩ : ∃f : Nat->Int,(λp=>nth (bs m (x : Int)) p)=f:=⟨_,rfl⟩
 have hfe : ∀p,p<m->El (f p):=λp hp=>by rw [<- hf];exact Sc (fN F m _) hp
 have hfx : ∀p : Nat,f p=if p=x then 1 else 0:=λp=>by rw [<- hf];exact fg (by simpa using hx) p
 have h1 : RS O El m (dx O m L ++ Z.map (bs m)) f:=by
  refine (jO F hU hfe).1 λi hi=>?_;have hW : bp El m (kQ O m L Z):=fV F hU;obtain ⟨r,hr⟩ : ∃r,ai (kQ O m L Z) i=r:=⟨_,rfl⟩
  have hre : ∀p,p<m->El (nth r p):=λp hp=>by rw [<- hr];exact Sc (hW.row hi) hp
  have h2 : RS O El m (kQ O m L Z) (λp=>nth r p):=by rw [<- hr];exact Sg F hi
  obtain ⟨h3,h4⟩:=(pR F hL hZm hre).1 h2;have h5 : nth r x=0:=(FK hl hx).1 h _ h3 λy hy=>by have:=h4 (y : Int) (by rw [<- hZ];exact List.mem_map.2 ⟨y,hy,rfl⟩);simpa using this
  show dotN O f (λp=>nth (ai (kQ O m L Z) i) p) m=0;rw [hr,eY F m hfe hre,<- hf];rw [gw F hre (z:=(x : Int)) (by simpa using hx)];exact h5
 have h6 : RS O El m (dx O m L ++ (Z.reverse.map (bs m)).reverse) f:=by rw [List.map_reverse,List.reverse_reverse];exact h1
 obtain ⟨g,hg,h7⟩:=CI F hN h6 hZr;have hnZ : ∀j : Nat,¬ j ∈ l->¬ (j : Int) ∈ Z.reverse:=λj hj hm=>hj (by rw [PY,<- hZ] at hm;obtain ⟨y,hy,e⟩:=List.mem_map.1 hm;have e' : (y : Int)=(j : Int):=e;rw [show j=y by omega];exact hy);have hnth : ∀j,j<m->nth ((List.range m).map g) j=g j:=λj hj=>eO _ _ _ hj;refine ⟨(List.range m).map g,⟨by simp,λy hy=>?_⟩,hg.congr hnth,?_,λj hj hne hn=>?_⟩
 ·obtain ⟨j,hj,rfl⟩:=List.mem_map.1 hy;exact hg.el F hN (List.mem_range.1 hj)
 ·rw [hnth x hx,<- h7 x hx (hnZ x hxl),hfx,Nd rfl]
 ·rw [hnth j hj,<- h7 j hj (hnZ j hn),hfx,Nf hne]
theorem IX (F : bF O El) (hL : bp El m L) {f g : Nat->Int} (hf : RS O El m L f) (hg : RS O El m (dx O m L) g) : dotN O f g m=0:=by have hN:=fV F hL;refine fC F hN (λx hx=>hf.el F hL hx) (λi hi=>?_) hg;exact (jO F hL λx hx=>hf.el F hL hx).2 hf i hi
theorem xl (F : bF O El) (hL : bp El m L) {l : Z6} (hl : ∀y ∈ l,y<m) {x : Nat} (hx : x<m) {y : Lz} (hy : RS O El m (dx O m L) (λj=>nth y j)) (h1 : nth y x=1)
  (h0 : ∀j,j<m->j ≠ x->¬ j ∈ l->nth y j=0) : jE O El L.length (aR L) l x:=by
 refine (FK hl hx).2 λf hf hz=>?_;have hN:=fV F hL;have hd:=IX F hL hf hy;have hfe : ∀p,p<m->El (f p):=λp hp=>hf.el F hL hp;have hye : ∀p,p<m->El (nth y p):=λp hp=>hy.el F hN hp;have e:=iO F (a:=f) (b:=λp=>nth y p) (x:=x) (F.cl.mul _ _ (hfe x hx) (hye x hx)) m λp hp hne=>by
  by_cases hpl : p ∈ l
  ·show O.mul (f p) (nth y p)=0;rw [hz p hpl,F.mul_comm _ _ F.zero (hye p hp),F.cQ (hye p hp)]
  ·show O.mul (f p) (nth y p)=0;rw [h0 p hp hne hpl,F.cQ (hfe p hp)]
 rw [hd,Nd hx] at e;have e2 : O.mul (f x) (nth y x)=0:=e.symm;rw [h1,F.ie (hfe x hx)] at e2;exact e2
end
section
variable {O : aL} {El : Int->Prop} {m : Nat} {L V : ZZ}
def Ot (O : aL) (El : Int->Prop) (m : Nat) (L V : ZZ) (i : Nat) : Prop:=bp El m V/\∀f : Nat->Int,(∀x,x<m->El (f x))->(RS O El m V f ↔ RS O El m (dx O m L) f/\f i=0)
theorem Hi (F : bF O El) (hL : bp El m L) {i : Nat} (hi : i<m) (hV : Ot O El m L V i) {y : Lz} (hy : Vc El m y) (hrs : RS O El m (dx O m L) (λj=>nth y j)) (h1 : nth y i=1) {ts : ZZ}
  (hp : provS O V m ⟨0,fB y - 1,true,y⟩ ts=0) {z : Lz} (hz : Vc El m z) (hzr : RS O El m (dx O m L) (λj=>nth z j)) (hz1 : nth z i=1) : fB y<=fB z:=by
 have hN:=fV F hL;have hC : JY O El m V y z:=by
  refine ⟨hz,λx=>O.add (nth z x) (O.neg (nth y x)),?_,λx hx=>F.cl.add _ _ (hz.at hx) (F.cl.neg _ (hy.at hx)),λx hx=>?_⟩
  ·refine (hV.2 _ λx hx=>F.cl.add _ _ (hz.at hx) (F.cl.neg _ (hy.at hx))).2 ⟨?_,?_⟩
   ·refine (RS.comb F hzr hrs F.one).congr λx hx=>?_;show _=O.add (nth z x) (O.neg (O.mul (nth y x) 1));rw [F.ie (hy.at hx)]
   ·show O.add (nth z i) (O.neg (nth y i))=0;rw [hz1,h1,F.add_neg 1 F.one]
  ·have a:=hy.at hx;have b:=hz.at hx;show nth z x=O.add (nth y x) (O.add (nth z x) (O.neg (nth y x)));rw [F.add_comm _ _ b (F.cl.neg _ a),<- F.add_assoc _ _ _ a (F.cl.neg _ a) b,F.add_neg _ a,F.tI b]
 have h2:=k8 F hV.1 (C:=⟨0,fB y - 1,true,y⟩) rfl hy hp hC;have h3 : fB y - 1<fB z:=h2;omega
theorem Gk (F : bF O El) (hL : bp El m L) {i : Nat} (hi : i<m) (hV : Ot O El m L V i) {y : Lz} (hy : Vc El m y) (hrs : RS O El m (dx O m L) (λj=>nth y j)) (h1 : nth y i=1) {ts : ZZ}
  (hp : provS O V m ⟨0,fB y - 1,true,y⟩ ts=0) {l : Z6} (hl : ∀x ∈ l,x<m) (hil : ¬ i ∈ l) (hn : l.length+1<fB y) : ¬ jE O El L.length (aR L) l i:=λh=>by
 obtain ⟨z,hz,hzr,hz1,h0⟩:=Gh F hL hl hi hil h;have h2:=Hi F hL hi hV hy hrs h1 hp hz hzr hz1;have h3 : fB z<=l.length+1:=by
  rw [<- rM hz.1];have hnd : (oZ z m).Nodup:=by unfold oZ List.Nodup;rw [O6];exact Qb (λh e=>h (Int.ofNat.inj e)) (Oy _ QJ)
  have h4:=j9 (T:=(i : Int) :: l.map Int.ofNat) hnd λx hx=>by
   obtain ⟨j,hj,h5,rfl⟩:=cX.1 hx;by_cases e : j=i
   ·subst e;simp
   ·refine NS _ (List.mem_map.2 ⟨j,OJ λhc=>h5 (h0 j hj e hc),rfl⟩)
  simpa using h4
 omega
theorem H4 (F : bF O El) (hL : bp El m L) {i : Nat} (hi : i<m) {y : Lz} (hrs : RS O El m (dx O m L) (λj=>nth y j)) (h1 : nth y i=1) {l : Z6} (hl : ∀x ∈ l,x<m)
  (h : ∀j,j<m->j ≠ i->nth y j ≠ 0->j ∈ l) : jE O El L.length (aR L) l i :=
 xl F hL hl hi hrs h1 λj hj hne hn=>OJ λh0=>hn (h j hj hne h0)
end
section
variable {P M : Int} {mod : Lz} {m : Nat} {L : ZZ}
end
section
variable {O : aL} {El : Int->Prop} {m : Nat} {R : ZZ} {Q : Lz}
theorem mM {l : Lz} : mw l=true ↔ ∀k,k<l.length->nth l k=0:=by
 rw [wi];constructor
 ·intro h k hk;exact h _ (aH hk)
 ·intro h y hy;obtain ⟨k,hk,rfl⟩:=List.mem_iff_getElem.1 hy;have h1:=h k hk;rwa [aj hk] at h1
theorem pG (F : bF O El) (hR : bp El m R) (hOk : BS.Ok El m ⟨R,Q⟩) {v : Lz} (hv : Vc El m v) : ∀k,k<=R.length->RS O El m R (λx=>nth (redTo O R Q v k) x)->RS O El m R (λx=>nth v x)
 | 0,_,h=>h
 | k+1,hk,h=>by have hu : Vc El m (redTo O R Q v k):=Sr F hOk hv k (show k<=R.length by omega);have hp : (nth Q k).toNat<m:=hOk.pl (show k<R.length by omega);have hr : Vc El m (ai R k):=hOk.row (show k<R.length by omega);refine pG F hR hOk hv k (by omega) ((SK F hR h (.row F (i:=k) (by omega)) (hu.at hp)).congr λx hx=>?_);have h1:=hu.at hx;have h2:=F.cl.mul _ _ (hu.at hp) (hr.at hx);rw [redTo,fP F hu hr hp hx,F.mul_comm _ _ (hr.at hx) (hu.at hp),F.add_assoc _ _ _ h1 (F.cl.neg _ h2) h2,F.lB h2,F.add_zero _ h1]
end
section
variable {P M : Int} {mod : Lz} {m : Nat} {L : ZZ}
theorem qj (hE : aF P M mod m L=0) : mg L (bw (af P M.toNat mod) L m) m/\nQ L (bw (af P M.toNat mod) L m)/\L.length=(bw (af P M.toNat mod) L m).length:=by
 obtain ⟨N',e,hm1,hm64,F,hR⟩:=aM hE;obtain rfl : m=N':=by omega
 have h6:=(eS (aG hE).2.2.2).2;rw [Nb] at h6;have hcan : bZ (af P M.toNat mod).ops m L=L:=h6;obtain ⟨hPv,hLd⟩:=bG F hR;have hcl:=bQ F hR;rw [hcan] at hPv hcl hLd;exact ⟨hPv,hLd,hcl⟩
theorem wz (hE : aF P M mod m L=0) {x : Lz} (hx : Vc (af P M.toNat mod).El m x) : hasB P M mod m L x=true ↔ RS (af P M.toNat mod).ops (af P M.toNat mod).El m L (λi=>nth x i):=by
 obtain ⟨N',e,hm1,hm64,F,hR⟩:=aM hE;obtain rfl : m=N':=by omega
 obtain ⟨hP,hl,hlen⟩:=qj hE;have hI:=oE hR hP hlen;have hvc : Vc (af P M.toNat mod).El m (redTo (af P M.toNat mod).ops L (bw (af P M.toNat mod) L m) x L.length):=Sr F hI.ok hx L.length (Na _);unfold hasB;rw [mM,hvc.1];constructor
 ·intro h;exact pG F hR hI.ok hx L.length (Na _) (SD F h)
 ·intro h;exact vL F hR hP hlen hx h
end
section
variable {O : aL} {El : Int->Prop} {m : Nat} {L : ZZ}
theorem zS (F : bF O El) {B : ZZ} (hB : bp El m B) {f : Nat->Int} (hf : ∀x,x<m->El (f x)) : RS O El m (dx O m (bZ O m B)) f ↔ ∀r ∈ B,dotN O f (λp=>nth r p) m=0:=by
 have hC:=bL F hB;obtain ⟨s1,s2⟩:=cB F hB;rw [iz F hC hf];constructor
 ·intro h r hr;obtain ⟨i,hi,rfl⟩:=ei hr;exact fC F hC hf h (s2 i hi)
 ·intro h i hi;exact fC F hB hf (λj hj=>h _ (dN hj)) (s1 i hi)
theorem nj (F : bF O El) (hL : bp El m L) (i : Int) : bp El m (L ++ [bs m i]):=λr hr=>by
 rcases List.mem_append.1 hr with h | h
 ·exact hL r h
 ·rw [List.mem_singleton.1 h];exact fN F m i
theorem A2 (F : bF O El) (hL : bp El m L) {i : Nat} (hi : i<m) {f : Nat->Int} (hf : ∀x,x<m->El (f x)) : RS O El m (dx O m (bZ O m (L ++ [bs m (i : Int)]))) f ↔ RS O El m (dx O m L) f/\f i=0:=by
 rw [zS F (nj F hL i) hf,iz F hL hf];constructor
 ·intro h;refine ⟨λj hj=>h _ (List.mem_append.2 (.inl (dN hj))),?_⟩;have h1:=h (bs m (i : Int)) (List.mem_append.2 (.inr (List.mem_singleton.2 rfl)));rw [gw F hf (z:=(i : Int)) (by simpa using hi)] at h1;simpa using h1
 ·rintro ⟨h1,h2⟩ r hr;rcases List.mem_append.1 hr with h | h
  ·obtain ⟨j,hj,rfl⟩:=ei h;exact h1 j hj
  ·rw [List.mem_singleton.1 h,gw F hf (z:=(i : Int)) (by simpa using hi)];simpa using h2
end
section
variable {P M : Int} {mod : Lz} {m : Nat} {L : ZZ}
theorem zO (i : Int) : bW P M mod m L i=dx (af P M.toNat mod).ops m (bZ (af P M.toNat mod).ops m (L ++ [bs m i])):=by unfold bW aS dx bw;rfl
theorem SX (hE : aF P M mod m L=0) {i : Nat} (hi : i<m) : Ot (af P M.toNat mod).ops (af P M.toNat mod).El m L (bW P M mod m L i) i:=by
 obtain ⟨N',e,hm1,hm64,F,hR⟩:=aM hE;obtain rfl : m=N':=by omega
 rw [zO];exact ⟨fV F (bL F (nj F hR i)),λf hf=>A2 F hR hi hf⟩
end
def da (p : Nat->Bool) (k : Nat) : Lz:=((List.range k).filter p).map Int.ofNat
theorem zd (p : Nat->Bool) (k : Nat) : da p (k+1)=if p k=true then da p k ++ [(k : Int)] else da p k:=by
 unfold da;rw [Ou,Pe,NM];by_cases h : p k=true
 ·simp [h]
 ·simp [h]
theorem xg (p : Nat->Bool) (k : Nat) : (da p k).length<=k:=by unfold da;rw [Nq];have:=Pk p (List.range k);rwa [N7] at this
theorem pU {p : Nat->Bool} {k : Nat} {x : Int} : x ∈ da p k ↔ ∃j : Nat,j<k/\p j=true/\x=j:=by
 unfold da;rw [Pp];constructor
 ·rintro ⟨j,hj,rfl⟩;obtain ⟨h1,h2⟩:=List.mem_filter.1 hj;exact ⟨j,List.mem_range.1 h1,h2,rfl⟩
 ·rintro ⟨j,h1,h2,rfl⟩;exact ⟨j,List.mem_filter.2 ⟨List.mem_range.2 h1,h2⟩,rfl⟩
theorem vi (p : Nat->Bool) (k : Nat) : (da p k).Pairwise (λx y=>x<y):=by unfold da;rw [O6];exact Qb (λh=>Int.ofNat_lt.2 h) (Oy _ QP)
theorem mK {N : Int} {l : Lz} : ∀k,(∀i,i<k->fb N l i=true)->nM N l k=true
 | 0,_=>rfl
 | k+1,h=>fH (mK k λi hi=>h i (by omega)) (h k (by omega))
theorem rD (p : Nat->Bool) (m : Nat) : dk m (da p m)=true:=by
 unfold dk;refine mK _ λi hi=>?_;obtain ⟨j,hj,_,e⟩:=pU.1 (aH hi);have hp:=vi p m;rw [OY] at hp;unfold fb;have h2 : 0<i->nth (da p m) (i - 1)<nth (da p m) i:=λh0=>by rw [aj hi,aj (show i - 1<_ by omega)];exact hp (i - 1) i (by omega) hi (by omega)
 rw [e] at h2 ⊢;simp;omega
theorem e9 {p p' : Nat->Bool} {i : Nat} (hpi : p i=false) (hp' : ∀k,p' k=true ↔ p k=true\/k=i) : ∀k,(da p' k).length=(da p k).length+(if i<k then 1 else 0)
 | 0=>rfl
 | k+1=>by
  rw [zd,zd];have ih:=e9 hpi hp' k;by_cases h : p k=true
  ·have hne : ¬ k=i:=λe=>by rw [e,hpi] at h;cases h
   rw [Nd h,Nd ((hp' k).2 (.inl h)),Nl,Nl,ih];simp only [ND];split <;> split <;> omega
  ·by_cases e : k=i
   ·rw [Nf h,Nd ((hp' k).2 (.inr e)),Nl,ih];simp only [ND];split <;> split <;> omega
   ·rw [Nf h,Nf (λh1=>by rcases (hp' k).1 h1 with h2 | h2;exact h h2;exact e h2),ih];split <;> split <;> omega
theorem uV {p : Nat->Bool} {m x : Nat} : x ∈ gA (da p m) ↔ x ∈ (List.range m).filter p:=by
 rw [jq,OG,PQ];constructor
 ·rintro ⟨y,hy,rfl⟩;obtain ⟨j,h1,h2,rfl⟩:=pU.1 hy;rw [Nb];exact ⟨h1,h2⟩
 ·rintro ⟨h1,h2⟩;exact ⟨(x : Int),pU.2 ⟨x,h1,h2,rfl⟩,Nb x⟩
section
variable {P M : Int} {mod : Lz} {m : Nat} {L : ZZ}
theorem Jc (hE : aF P M mod m L=0) {i : Nat} (hi : i<m) {p p' : Nat->Bool} (hp' : ∀k,p' k=true ↔ p k=true\/k=i) :
  (gk (af P M.toNat mod).ops L (da p' m)=gk (af P M.toNat mod).ops L (da p m)+1/\¬ jE (af P M.toNat mod).ops (af P M.toNat mod).El L.length (aR L) ((List.range m).filter p) i) \/
  (gk (af P M.toNat mod).ops L (da p' m)=gk (af P M.toNat mod).ops L (da p m)/\jE (af P M.toNat mod).ops (af P M.toNat mod).El L.length (aR L) ((List.range m).filter p) i):=by
 obtain ⟨N',e,hm1,hm64,F,hR⟩:=aM hE;obtain rfl : m=N':=by omega
 have hC:=fM F hR;have h1:=fu F hR (da p m);have h2:=fu F hR (da p' m);have hs : ∀y,y ∈ gA (da p' m) ↔ y ∈ i :: gA (da p m):=λy=>by
  rw [List.mem_cons,uV,uV,OG,OG,PQ,hp'];constructor
  ·rintro ⟨h3,h4 | h4⟩
   ·exact .inr ⟨h3,h4⟩
   ·exact .inl h4
  ·rintro (h4 | ⟨h3,h4⟩)
   ·exact ⟨by omega,.inr h4⟩
   ·exact ⟨h3,.inl h4⟩
 by_cases hc : jE (af P M.toNat mod).ops (af P M.toNat mod).El L.length (aR L) ((List.range m).filter p) i
 ·exact .inr ⟨SC hC h2 (Rk.dep i (hC.sub (λx hx=>uV.2 hx) hc) h1) hs,hc⟩
 ·exact .inl ⟨SC hC h2 (Rk.ind i (λh=>hc (hC.sub (λx hx=>uV.1 hx) h)) h1) hs,hc⟩
theorem rk {WW : ZZ} {TT : List ZZ} : ∀ {k : Nat},lkTo P M mod m L WW TT k=true->∀j,j<k->s9 P M mod m L j (ai WW j) (nK TT j)=true
 | 0,_,j,hj=>absurd hj (RJ j)
 | k+1,h,j,hj=>by
  rw [lkTo,NK] at h;rcases N3 j k with h1 | h1
  ·exact rk h.1 j h1
  ·obtain rfl : j=k:=by omega
   exact h.2
theorem Of (hE : aF P M mod m L=0) {WW : ZZ} {TT : List ZZ} (h : oT P M mod m L WW TT=0) : WW.length=m/\∀i,i<m->(ai WW i).length=m /\
  nth (pP WW m) i=(fB (ai WW i) : Int) - 1 /\
  (∀p p' : Nat->Bool,p i=false->(∀k,p' k=true ↔ p k=true\/k=i)->((da p m).length : Int)<(fB (ai WW i) : Int) - 1->gk (af P M.toNat mod).ops L (da p' m)=gk (af P M.toNat mod).ops L (da p m)+1) /\
  (∀p p' : Nat->Bool,(∀k,p k=true ↔ k ≠ i/\nth (ai WW i) k ≠ 0)->(∀k,p' k=true ↔ p k=true\/k=i)->gk (af P M.toNat mod).ops L (da p' m)=gk (af P M.toNat mod).ops L (da p m) /\
   (da p' m).length=(da p m).length+1/\((da p m).length : Int)=(fB (ai WW i) : Int) - 1):=by
 obtain ⟨N',e,hm1,hm64,F,hR⟩:=aM hE;obtain rfl : m=N':=by omega
 unfold oT at h;rw [Nd hE] at h;by_cases hc : (WW.length : Int)=m/\(TT.length : Int)=m/\lkTo P M mod (m : Int).toNat L WW TT (m : Int).toNat=true;rotate_left
 ·rw [Nf hc] at h;exact absurd h (by decide)
 obtain ⟨h1,h2,h3⟩:=hc;rw [Nb] at h3;refine ⟨by omega,λi hi=>?_⟩;have h4:=rk h3 i hi;unfold s9 at h4;simp only [NK,N8] at h4;obtain ⟨⟨⟨h5,h6⟩,h7⟩,h8⟩:=h4;obtain ⟨y,hy⟩ : ∃y,ai WW i=y:=⟨_,rfl⟩
 rw [hy] at h5 h6 h7 h8 ⊢;have hD:=(gY hE).1;have hV:=(qh h5).2;rw [Nb] at hV;have hrs : RS (af P M.toNat mod).ops (af P M.toNat mod).El m (dx (af P M.toNat mod).ops m L) (λj=>nth y j):=by unfold mI at h6;rw [Nd h5,Nb] at h6;rw [<- Jk hE];exact (wz hD hV).1 h6
 have hps : provS (af P M.toNat mod).ops (bW P M mod m L i) m ⟨0,fB y - 1,true,y⟩ (nK TT i)=0:=by
  unfold jU at h8;by_cases h0 : dU P M mod m (bW P M mod m L i) y ((fB y : Int) - 1)=0
  ·rw [Nd h0,Nb,show ((fB y : Int) - 1).toNat=fB y - 1 by omega] at h8;exact h8
  ·rw [Nf h0] at h8;exact absurd h8 h0
 have hsl:=xE hV.1 hi (by rw [h7];decide);refine ⟨hV.1,?_,λp p' hpi hp' hlt=>?_,λp p' hp hp'=>?_⟩
 ·unfold pP;rw [No (by omega),aj (by rw [Nq];omega),NZ,<- aC (by omega),hy]
 ·rcases Jc hE hi hp' with ⟨h,_⟩ | ⟨h,hc⟩
  ·exact h
  ·refine absurd hc (Gk F hR hi (SX hE hi) hV hrs h7 hps (λx hx=>List.mem_range.1 (List.mem_filter.1 hx).1) (λh3=>by rw [(List.mem_filter.1 h3).2] at hpi;cases hpi) ?_);unfold da at hlt;rw [Nq] at hlt;omega
 ·have hpi : p i=false:=by
   cases h : p i
   ·rfl
   ·exact absurd rfl ((hp i).1 h).1
  refine ⟨?_,?_,?_⟩
  ·rcases Jc hE hi hp' with ⟨_,hc⟩ | ⟨h,_⟩
   ·exact absurd (H4 F hR hi hrs h7 (λx hx=>List.mem_range.1 (List.mem_filter.1 hx).1) λj hj hne h0=>List.mem_filter.2 ⟨List.mem_range.2 hj,(hp j).2 ⟨hne,h0⟩⟩) hc
   ·exact h
  ·rw [e9 hpi hp' m,Nd hi]
  ·have e : da p m=bI y m i:=by
    unfold da bI;congr 1;refine QD λj hj=>?_;have h9:=hp j;cases h : p j
    ·rw [h] at h9;have h10 : ¬ (j ≠ i/\nth y j ≠ 0):=λhc=>by have:=h9.2 hc;cases this
     symm;rw [Bool.and_eq_false_iff];by_cases hji : j=i
     ·right;simp [hji]
     ·left;have h11 : nth y j=0:=OJ λh0=>h10 ⟨hji,h0⟩;simp [h11]
    ·obtain ⟨h11,h12⟩:=h9.1 h;symm;rw [NK];exact ⟨by simpa using h12,by simp;omega⟩
   rw [e];omega
end
def ak (w : World) (B : Nat) (a : OA) (c : Nat) (l : Lz) : Prop:=w.ownsRow B 3 1 (.slice a l.length c) l.length (l.map (Value.int .i64))
theorem ak.ah {w w' : World} {B : Nat} {a : OA} {c : Nat} {l : Lz} (h : ak w B a c l) (hb : SW w w') : ak w' B a c l:=bd h hb
theorem ak.ints {w : World} {B : Nat} {a : OA} {c : Nat} {l : Lz} (h : ak w B a c l) : Ints w a l.length l:=(R6 h).1
theorem q8 {X U w5 : World} {ar a5 : OA} {cr c5 : Nat} {R : Lz} {k : Int} (hX : 0<X.heap.size) (hbr : SW X U) (hor : ak U X.heap.size ar cr R)
  (hown : w5.ownsRow X.heap.size 3 1 (.slice a5 (R.length+1) c5) (R.length+1) (R.map (Value.int .i64) ++ [.int .i64 k])) (hgr : (U.alloc (.cells #[.int .i64 k] 3)).grownBy w5 (Value.slice ar R.length cr).ownBlock)
  (hap : ∀b,b<(U.alloc (.cells #[.int .i64 k] 3)).heap.size->gE ar b->gE a5 b) :
  ak w5 X.heap.size a5 c5 (R ++ [k])/\SW X w5/\∀ax cx S,ak U X.heap.size ax cx S->Il ar ax->ak w5 X.heap.size ax cx S/\Il a5 ax:=by
 have hbn:=an U (.cells #[.int .i64 k] 3);have hszU:=hbr.size;refine ⟨?_,Sa (N2 hbr (hbn.mono hszU)) (World.ownsRow.alloc hor _) hgr (Na _) (Nr hszU hbn.size),λax cx S hox htw=>⟨gO (World.ownsRow.alloc hox _) hgr (htw.sL hor hX),Il.new λh=>hap _ ?_ (htw.sL hor hX)⟩⟩
 ·unfold ak;rw [Nl,ND,NM];exact hown
 ·rcases lE hox with h2 | h2
  ·exact absurd h2.1 h
  ·have h3:=hbn.size;omega
def SY (a b c d : OA) : Prop:=Il a b/\Il a c/\Il a d/\Il b c/\Il b d/\Il c d
def uB (B : Nat->Bool) (i k : Nat) : Bool:=!decide (k=i) && B k
def u5 (B : Nat->Bool) (i k : Nat) : Bool:=decide (k=i) || B k
theorem Lq (B : Nat->Bool) (i : Nat) : uB B i i=false:=by simp [uB]
theorem Le (B : Nat->Bool) (i k : Nat) : u5 B i k=true ↔ uB B i k=true\/k=i:=by
 unfold u5 uB;by_cases h : k=i
 ·simp [h]
 ·simp [h]
theorem J3 (B : Nat->Bool) {i k : Nat} (h : k ≠ i) : uB B i k=B k:=by simp [uB,h]
theorem IU (B : Nat->Bool) {i k : Nat} (h : k ≠ i) : u5 B i k=B k:=by simp [u5,h]
theorem MF (B : Nat->Bool) (i : Nat) : u5 B i i=true:=by simp [u5]
theorem vA {p : Nat->Bool} {k : Nat} (h : p k=true) : da p (k+1)=da p k ++ [(k : Int)]:=by rw [zd,Nd h]
theorem zH {p : Nat->Bool} {k : Nat} (h : p k=false) : da p (k+1)=da p k:=by rw [zd,Nf (by rw [h];decide)]
theorem Dt (as' : OA) (ns cs : Nat) (SS : ZZ) (at' : OA) (nt ct : Nat) (TT : List ZZ) (w : World) (h1 : br w as' ns SS) (h2 : gJ w at' nt TT) :
  Calls prog 33 #[.agg #[.slice as' ns cs,.slice at' nt ct]] w (dO w):=by
 have hpl:=h2.pl;have hmax:=h2.max;unfold maxLen at hmax;have HR : Hid (∀V,SW w V->Calls prog 83 #[.agg #[.int .i64 0,.slice as' ns cs],.int .i64 1000] V (dO V)):=λV hV=>tj as' ns cs 1000 SS V (h1.ah hV) (by omega);have HT : Hid (∀k,k<nt->∃b1 m1 c1,∀V,SW w V->V.cell? ⟨ablk at',aK at'+k,none⟩=some (.slice b1 m1 c1) /\
   Calls prog 83 #[.agg #[.int .i64 0,.slice b1 m1 c1],.int .i64 2000] V (dO V)):=λk hk=>by obtain ⟨b1,m1,c1,x1,x2,_⟩:=h2.cell k hk;exact ⟨b1,m1,c1,λV hV=>⟨aB hV x1,tj b1 m1 c1 2000 _ V (x2.ah hV) (by omega)⟩⟩
 clear h1 h2;go_enter func33,ntmps33;go_upto_region 1 with fail;obtain ⟨W,hW⟩ : ∃W : World,W=w.alloc (.cells #[.slice as' ns cs,.slice at' nt ct] 48):=⟨_,rfl⟩
 rw [<- hW];have hbW : SW w W:=by rw [hW];exact an _ _
 have x0 : aN W w.heap.size [.slice as' ns cs,.slice at' nt ct]:=by rw [hW];exact R9 _ _ _ rfl
 have HS : Hid (∀V,SW W V->V.cell? ⟨w.heap.size,0,none⟩=some (.slice as' ns cs)/\V.cell? ⟨w.heap.size,1,none⟩=some (.slice at' nt ct)):=λV hV=>by have x1:=x0.ah hV;exact ⟨x1.cell 0 rfl,x1.cell 1 rfl⟩
 have HbW:=Z5 hbW;clear hW x0;have Hc:=Z5 (HR.out W hbW);obtain ⟨c0,c1⟩:=HS.out W (Nc _ _);clear hbW HR;go_wp2_with fail;refine Hc.out.mono ?_;rintro e w1 ⟨z,rfl,hb1⟩;clear c0 c1 Hc;obtain ⟨c0,c1⟩:=HS.out w1 hb1;have hF1:=RZ HbW.out hb1;cases z
 ·go_wp2_with fail;go_ret;exact ⟨_,rfl,hF1⟩
 by_cases h70 : 70<nt
 ·have h70' : (70 : Int)<(nt : Int):=by omega
  have d1 : decide ((70 : Int)<(nt : Int))=true:=by simpa using h70'
  clear h70 h70';go_wp2_with fail;go_ret;exact ⟨_,rfl,hF1⟩
 have h70' : ¬ (70 : Int)<(nt : Int):=by omega
 have d1 : decide ((70 : Int)<(nt : Int))=false:=by simpa using h70'
 clear h70 h70';go_wp2_with fail;go_loopw [3] (λiv wr=>∃k : Nat,k<=nt/\iv = .int .i64 k/\SW W wr) (λi _=>nt - (intOf i).toNat);case atStart=>exact ⟨0,Ni _,rfl,hb1⟩
 case round =>
  obtain ⟨k,hk,rfl,hbr⟩:=hrel
  clear c0 c1
  obtain ⟨c0,c1⟩:=HS.out wr hbr
  by_cases hlt : k<nt
  ·obtain ⟨b1,m1,d2,hk2⟩:=HT.out k hlt
   obtain ⟨q0,hca⟩:=hk2 wr (RZ HbW.out hbr)
   have Hca:=Z5 hca
   clear hk2 hca
   go_wp2_with fail
   refine Hca.out.mono ?_
   rintro e w6 ⟨z,rfl,hb6⟩
   have hbV:=RZ hbr hb6
   have hF:=RZ HbW.out hbV
   clear q0 c0 c1
   cases z
   ·go_wp2_with fail
    go_ret
    exact ⟨_,rfl,hF⟩
   go_wp2_with fail
   go_roundw
   case rel=>exact ⟨k+1,by omega,by go_num,hbV⟩
   case measure=>simp [intOf] <;> omega
  ·obtain rfl : k=nt:=by omega
   have hF:=RZ HbW.out hbr
   go_wp2_with fail
   go_ret
   exact ⟨_,rfl,hF⟩
theorem yG (P M : Int) (am : OA) (mn cm : Nat) (mod : Lz) (m : Nat) (a : OA) (n c : Nat) (L : ZZ) (p : Nat->Bool) (ao : OA) (co : Nat) (w : World)
  (hmod : Ints w am mn mod) (hi : br w a n L) (hE : aF P M mod m L=0) (hq : Ints w ao (da p m).length (da p m)) :
  Calls prog 39 #[.agg #[.int .i64 P,.int .i64 M,.slice am mn cm,.int .i64 m,.slice a n c],.slice ao (da p m).length co] w λe w'=>e = .returned (.tuple #[.int .i64 (gk (af P M.toNat mod).ops L (da p m) : Nat),.int .i64 0])/\SW w w':=by
 refine (IY P M am mn cm mod m a n c L ao _ co _ w hmod hi hq).mono ?_;have h0 : pI P M mod m L (da p m)=0:=by rw [pI,Nd hE,yS,Nd (rD p m)]
 rintro e w' ⟨hb,⟨h1,_⟩ | ⟨_,rfl⟩⟩
 ·exact absurd h0 h1
 ·exact ⟨rfl,hb⟩
theorem ee (P M : Int) (am : OA) (mn cm : Nat) (mod : Lz) (N : Int) (a : OA) (n c : Nat) (L : ZZ) (as' : OA) (ns cs : Nat) (SS : ZZ) (at' : OA) (nt ct : Nat) (TT : List ZZ) (z : Int) (w : World) (hmod : Ints w am mn mod) (hi : br w a n L) (hSS : br w as' ns SS) (hTT : gJ w at' nt TT) (hz : 0<=z/\z<=4294967295) :
  Calls prog 10 #[.agg #[.int .i64 P,.int .i64 M,.slice am mn cm,.int .i64 N,.slice a n c],.agg #[.slice as' ns cs,.slice at' nt ct],.int .u32 z] w λe w'=>e = .returned (.bool true)/\SW w w':=by
 have HF1 : Hid (∀V,SW w V->Calls prog 32 #[.agg #[.int .i64 P,.int .i64 M,.slice am mn cm,.int .i64 N,.slice a n c],.int .i64 120] V (dO V)):=λV hV=>lY P M am mn cm N a n c 120 L V (hi.ah hV) (by omega);have HF2 : Hid (∀V,SW w V->Calls prog 33 #[.agg #[.slice as' ns cs,.slice at' nt ct]] V (dO V)):=λV hV=>Dt as' ns cs SS at' nt ct TT V (hSS.ah hV) (hTT.ah hV);have HCk : Hid (∀V,SW w V->Calls prog 35 #[.agg #[.int .i64 P,.int .i64 M,.slice am mn cm,.int .i64 N,.slice a n c]] V λe w'=>e = .returned (.int .i64 (aF P M mod N L))/\SW V w'):=λV hV=>lh P M am mn cm mod N a n c L V (hmod.ah hV) (hi.ah hV);have HCh:=Z5 (λV (hV : SW w V)=>o6 P M am mn cm mod N a n c L as' ns cs SS at' nt ct TT V (hmod.ah hV) (hi.ah hV) (hSS.ah hV) (hTT.ah hV));have Hmi:=Z5 (Np hmod (Np hi hSS));have HzR:=Z5 hz;unfold lC at HCh;clear hmod hi hSS hTT hz;go_enter func10,ntmps10;go_wp2_with fail;obtain ⟨W,hW⟩ : ∃W : World,W=((w.alloc (.cells #[.int .i64 P,.int .i64 M,.slice am mn cm,.int .i64 N,.slice a n c] 27)).alloc (.cells #[.slice as' ns cs,.slice at' nt ct] 48)):=⟨_,rfl⟩
 rw [<- hW];have hbW : SW w W:=by rw [hW];exact bN _ _ _
 have x0 : aN W w.heap.size [.int .i64 P,.int .i64 M,.slice am mn cm,.int .i64 N,.slice a n c]:=by rw [hW];exact (R9 _ _ _ (by simp)).alloc _
 have y0 : aN W (w.heap.size+1) [.slice as' ns cs,.slice at' nt ct]:=by rw [hW];exact R9 _ _ _ (by simp)
 have hpos : 0<W.heap.size:=by rw [hW];simp
 have HS : Hid (∀V,SW W V->V.cell? ⟨w.heap.size,0,none⟩=some (.int .i64 P)/\V.cell? ⟨w.heap.size,1,none⟩=some (.int .i64 M)/\V.cell? ⟨w.heap.size,2,none⟩=some (.slice am mn cm)/\V.cell? ⟨w.heap.size,3,none⟩=some (.int .i64 N)/\V.cell? ⟨w.heap.size,4,none⟩=some (.slice a n c)/\V.cell? ⟨w.heap.size+1,0,none⟩=some (.slice as' ns cs)/\V.cell? ⟨w.heap.size+1,1,none⟩=some (.slice at' nt ct)):=λV hV=>by have x1:=x0.ah hV;have y1:=y0.ah hV;exact ⟨x1.cell 0 rfl,x1.cell 1 rfl,x1.cell 2 rfl,x1.cell 3 rfl,x1.cell 4 rfl,y1.cell 0 rfl,y1.cell 1 rfl⟩
 have HbW:=Z5 hbW;have Hpos:=Z5 hpos;clear hW hbW x0 y0 hpos;refine (bU W).mono ?_;rintro e w1 ⟨rfl,hB1⟩;obtain ⟨c0,c1,c2,c3,c4,c5,c6⟩:=HS.out w1 hB1;go_wp2_with fail;refine (HF1.out w1 (RZ HbW.out hB1)).mono ?_;rintro e w2 ⟨z,rfl,hbx⟩;have hB2:=RZ hB1 hbx;clear c0 c1 c2 c3 c4 c5 c6;cases z
 ·go_wp2_with fail;refine (bU w2).mono ?_;rintro e w9 ⟨rfl,hb9⟩;have hF:=RZ HbW.out (RZ hB2 hb9);go_wp2_with fail;go_ret;exact ⟨rfl,hF⟩
 obtain ⟨c0,c1,c2,c3,c4,c5,c6⟩:=HS.out w2 hB2;by_cases h9 : 9<N
 ·have d1 : decide (9<N)=true:=by simpa using h9
  clear h9;go_wp2_with fail;refine (bU w2).mono ?_;rintro e w9 ⟨rfl,hb9⟩;have hF:=RZ HbW.out (RZ hB2 hb9);go_wp2_with fail;go_ret;exact ⟨rfl,hF⟩
 have d1 : decide (9<N)=false:=by simpa using h9
 have H9 : Hid (N<=9):=by show N<=9;omega
 clear h9;go_wp2_with fail;refine (HCk.out w2 (RZ HbW.out hB2)).mono ?_;rintro e w3 ⟨rfl,hb3⟩;have hB3:=RZ hB2 hb3;clear c0 c1 c2 c3 c4 c5 c6 HCk d1;by_cases hE : aF P M mod N L=0;rotate_left
 ·have e1 : (aF P M mod N L != 0)=true:=by simpa using hE
  clear hE;generalize aF P M mod N L=er at *;go_wp2_with fail;refine (bU w3).mono ?_;rintro e w9 ⟨rfl,hb9⟩;have hF:=RZ HbW.out (RZ hB3 hb9);go_wp2_with fail;go_ret;exact ⟨rfl,hF⟩
 rw [hE];obtain ⟨m,rfl,hm1,hm64,F,hR⟩:=aM hE;have hm9 : m<=9:=by have:=H9.out;omega
 have HE:=Z5 hE;clear hE F hR;obtain ⟨c0,c1,c2,c3,c4,c5,c6⟩:=HS.out w3 hB3;go_wp2_with fail;refine (HF2.out w3 (RZ HbW.out hB3)).mono ?_;rintro e w4 ⟨z,rfl,hbx⟩;have hB4:=RZ hB3 hbx;clear c0 c1 c2 c3 c4 c5 c6;cases z
 ·go_wp2_with fail;refine (bU w4).mono ?_;rintro e w9 ⟨rfl,hb9⟩;have hF:=RZ HbW.out (RZ hB4 hb9);go_wp2_with fail;go_ret;exact ⟨rfl,hF⟩
 obtain ⟨c0,c1,c2,c3,c4,c5,c6⟩:=HS.out w4 hB4;go_wp2_with fail;refine (HCh.out w4 (RZ HbW.out hB4)).mono ?_;rw [Nb];rintro e w5 ⟨hb5,hcase⟩;have hB5:=RZ hB4 hb5;clear c0 c1 c2 c3 c4 c5 c6 HCh;rcases hcase with ⟨hne,rfl⟩ | ⟨h0,al,kl,rfl,hl⟩
 ·have hF:=RZ HbW.out hB5;generalize oT P M mod m L SS TT=er at *;have e1 : (er != 0)=true:=by simpa using hne
  clear hne;go_wp2_with fail;go_ret;exact ⟨rfl,hF⟩
 obtain ⟨hwl,hlaw⟩:=Of HE.out h0;have hns : ns=m:=by rw [<- Hmi.out.2.2.len];exact hwl
 subst hns;have HLaw : Hid (∀i,i<ns->(ai SS i).length=ns/\nth (pP SS ns) i=(fB (ai SS i) : Int) - 1/\(∀p p' : Nat->Bool,p i=false->(∀k,p' k=true ↔ p k=true\/k=i)->((da p ns).length : Int)<(fB (ai SS i) : Int) - 1->gk (af P M.toNat mod).ops L (da p' ns)=gk (af P M.toNat mod).ops L (da p ns)+1)/\(∀p p' : Nat->Bool,(∀k,p k=true ↔ k ≠ i/\nth (ai SS i) k ≠ 0)->(∀k,p' k=true ↔ p k=true\/k=i)->gk (af P M.toNat mod).ops L (da p' ns)=gk (af P M.toNat mod).ops L (da p ns)/\(da p' ns).length=(da p ns).length+1/\((da p ns).length : Int)=(fB (ai SS i) : Int) - 1)):=hlaw;have Hl:=Z5 hl;have hpll:=hl.pl;have e3 : ((ns : Int) != (ns : Int))=false:=by simp
 clear hwl hlaw h0 hl;obtain ⟨B,hB⟩ : ∃B : Nat->Bool,B=λk=>bits .and .u32 (z / 2 ^ k) 1 == 1:=⟨_,rfl⟩
 have HB : Hid (∀k,B k=(bits .and .u32 (z / 2 ^ k) 1 == 1)):=λk=>by rw [hB]
 clear hB;obtain ⟨c0,c1,c2,c3,c4,c5,c6⟩:=HS.out w5 hB5;go_wp2_with fail;go_loopw [72] (λiv wr=>∃i : Nat,i<=ns/\iv = .int .i64 i/\SW w5 wr) (λiv _=>ns - (intOf iv).toNat);case atStart=>exact ⟨0,Ni _,rfl,Nc _ _⟩
 case round =>
  clear c0 c1 c2 c3 c4 c5 c6
  obtain ⟨i,hin,rfl,hbX⟩:=hrel
  generalize wr=X at *
  have hBX:=RZ hB5 hbX
  obtain ⟨c0,c1,c2,c3,c4,c5,c6⟩:=HS.out X hBX
  by_cases hlt : i<ns
  rotate_left
  ·obtain rfl : i=ns:=by omega
   have hF:=RZ HbW.out hBX
   go_wp2_with fail
   go_ret
   exact ⟨rfl,hF⟩
  have hX0 : 0<X.heap.size:=NR Hpos.out hBX.size
  obtain ⟨ra,rn,rc,hcS,hrow⟩:=Hmi.out.2.2.cell i hlt
  obtain ⟨hy1,hy2,hy3,hy4⟩:=HLaw.out i hlt
  obtain ⟨y,hy⟩ : ∃y,ai SS i=y:=⟨_,rfl⟩
  rw [hy] at hrow hy1 hy2 hy3 hy4
  have hrn : rn=ns:=by rw [<- hrow.len];exact hy1
  subst hrn
  have hplS:=Hmi.out.2.2.pl
  have hplr:=hrow.pl
  have HRow : Hid (∀V,SW w V->V.cell? ⟨ablk as',aK as'+i,none⟩=some (.slice ra rn rc)/\∀k,k<rn->V.cell? ⟨ablk ra,aK ra+k,none⟩=some (.int .i64 (nth y k))):=λV hV=>⟨aB hV hcS,λk hk=>(hrow.ah hV).cell k hk⟩
  have HY3:=Z5 hy3
  have HY4:=Z5 hy4
  obtain ⟨t,ht⟩ : ∃t,(fB y : Int) - 1=t:=⟨_,rfl⟩
  rw [ht] at hy2 HY3 HY4
  have HL : Hid (∀V,SW w5 V->V.cell? ⟨ablk al,aK al+i,none⟩=some (.int .i64 t)):=λV hV=>by have h:=(Hl.out.ah hV).cell i hlt;rw [hy2] at h;exact h
  obtain ⟨Y,hYY⟩ : ∃Y : Nat->Bool,Y=λk=>(nth y k != 0):=⟨_,rfl⟩
  have HYY : Hid (∀k,Y k=(nth y k != 0)):=λk=>by rw [hYY]
  have HLs : Hid (∀k,uB Y i k=true ↔ k ≠ i/\nth y k ≠ 0):=λk=>by unfold uB;rw [HYY.out];simp
  clear hYY hy hy1 hy2 hy3 hy4 ht hcS hrow
  go_wp2_with fail
  go_loopw [10,11,12,13,77] (λv0 v1 v2 v3 iv wr=>∃(k : Nat) (b0 b1 b2 b3 : OA) (d0 d1 d2 d3 : Nat),k<=rn/\iv = .int .i64 k/\v0 = .slice b0 (da (uB B i) k).length d0/\v1 = .slice b1 (da (u5 B i) k).length d1/\v2 = .slice b2 (da (uB Y i) k).length d2/\v3 = .slice b3 (da (u5 Y i) k).length d3/\ak wr X.heap.size b0 d0 (da (uB B i) k)/\ak wr X.heap.size b1 d1 (da (u5 B i) k)/\ak wr X.heap.size b2 d2 (da (uB Y i) k)/\ak wr X.heap.size b3 d3 (da (u5 Y i) k)/\Hid (SY b0 b1 b2 b3)/\SW X wr) (λ_ _ _ _ iv _=>rn - (intOf iv).toNat)
  case atStart=>exact ⟨0,none,none,none,none,0,0,0,0,Ni _,rfl,rfl,rfl,rfl,rfl,by simpa [da,ak] using bV,by simpa [da,ak] using bV,by simpa [da,ak] using bV,by simpa [da,ak] using bV,⟨.inl rfl,.inl rfl,.inl rfl,.inl rfl,.inl rfl,.inl rfl⟩,Nc _ _⟩
  case round =>
   clear c0 c1 c2 c3 c4 c5 c6
   obtain ⟨k,b0,b1,b2,b3,d0,d1,d2,d3,hkm,rfl,rfl,rfl,rfl,rfl,ho0,ho1,ho2,ho3,hap,hbr⟩:=hrel
   generalize wr=U at *
   have hBU:=RZ hBX hbr
   obtain ⟨c0,c1,c2,c3,c4,c5,c6⟩:=HS.out U hBU
   have hl0:=xg (uB B i) k
   have hl1:=xg (u5 B i) k
   have hl2:=xg (uB Y i) k
   have hl3:=xg (u5 Y i) k
   by_cases hkr : k<rn
   ·obtain ⟨t01,t02,t03,t12,t13,t23⟩:=hap.out
    clear hap
    go_upto_region 15 with fail
    go_cut [89] (λv wx=>v = .bool (u5 B i k)/\wx=U)
    case first =>
     by_cases hki : k=i
     ·have e1 : ((k : Int) == (i : Int))=true:=by simp;omega
      have Hv : Hid (u5 B i k=true):=by show _=_;rw [hki];exact MF B i
      go_wp2_with fail
      go_meet
      exact ⟨by rw [Hv.out],rfl⟩
     ·have e1 : ((k : Int) == (i : Int))=false:=by simp;omega
      have Hv : Hid (u5 B i k=(bits .and .u32 (z / 2 ^ k) 1 == 1)):=by show _=_;rw [IU B hki];exact HB.out k
      cases hbit : (bits .and .u32 (z / 2 ^ k) 1 == 1)
      ·rw [hbit] at Hv
       go_wp2_with fail
       go_meet
       exact ⟨by rw [Hv.out],rfl⟩
      ·rw [hbit] at Hv
       go_wp2_with fail
       go_meet
       exact ⟨by rw [Hv.out],rfl⟩
    obtain ⟨rfl,rfl⟩:=hcut
    go_upto_if 89 with fail
    go_cut [11] (λv wx=>∃(e : OA) (f : Nat),v = .slice e (da (u5 B i) (k+1)).length f/\ak wx X.heap.size e f (da (u5 B i) (k+1))/\ak wx X.heap.size b0 d0 (da (uB B i) k)/\ak wx X.heap.size b2 d2 (da (uB Y i) k)/\ak wx X.heap.size b3 d3 (da (u5 Y i) k)/\Il e b0/\Il e b2/\Il e b3/\SW X wx)
    case first =>
     cases hcv : u5 B i k
     ·have H1:=Z5 (zH hcv)
      go_wp2_with fail
      go_meet
      exact ⟨b1,d1,by rw [H1.out],by rw [H1.out];exact ho1,ho0,ho2,ho3,t01.symm,t12,t13,hbr⟩
     ·have H1:=Z5 (vA hcv)
      have hcn:=ba wc (.int .i64 k) 3
      have hszU:=hbr.size
      go_wp2_with (at_builtin;refine aO rfl _ _ 22 3 rfl (.int .i64 0) 8 underlying22 aU rfl X.heap.size b1 (da (u5 B i) k).length d1 _ rfl (World.ownsRow.alloc ho1 _) ⟨wc.heap.size,0,none⟩ 1 (.int .i64 k) rfl hcn rfl (by omega) (by unfold maxLen;omega) (by simp;omega) ?_;intro a5 c5 w5 hown5 hgr5 hap5)
      go_meet
      obtain ⟨q1,hbq,hk⟩:=q8 hX0 hbr ho1 hown5 hgr5 hap5
      obtain ⟨q0,s0⟩:=hk _ _ _ ho0 t01.symm
      obtain ⟨q2,s2⟩:=hk _ _ _ ho2 t12
      obtain ⟨q3,s3⟩:=hk _ _ _ ho3 t13
      exact ⟨a5,c5,by rw [H1.out,Nl];rfl,by rw [H1.out];exact q1,q0,q2,q3,s0,s2,s3,hbq⟩
    clear ho0 ho1 ho2 ho3 hbr t01 t12 t13
    obtain ⟨b1,d1,rfl,ho1,ho0,ho2,ho3,h0,h2,h3,hbr⟩:=hcut
    have t01:=h0.symm
    have t12:=h2
    have t13:=h3
    clear h0 h2 h3
    generalize wc=U1 at *
    go_upto_region 17 with fail
    go_cut [103] (λv wx=>v = .bool (uB B i k)/\wx=U1)
    case first =>
     by_cases hki : k=i
     ·have e1 : ((k : Int) != (i : Int))=false:=by simp;omega
      have Hv : Hid (uB B i k=false):=by show _=_;rw [hki];exact Lq B i
      go_wp2_with fail
      go_meet
      exact ⟨by rw [Hv.out],rfl⟩
     ·have e1 : ((k : Int) != (i : Int))=true:=by simp;omega
      have Hv : Hid (uB B i k=(bits .and .u32 (z / 2 ^ k) 1 == 1)):=by show _=_;rw [J3 B hki];exact HB.out k
      cases hbit : (bits .and .u32 (z / 2 ^ k) 1 == 1)
      ·rw [hbit] at Hv
       go_wp2_with fail
       go_meet
       exact ⟨by rw [Hv.out],rfl⟩
      ·rw [hbit] at Hv
       go_wp2_with fail
       go_meet
       exact ⟨by rw [Hv.out],rfl⟩
    obtain ⟨rfl,rfl⟩:=hcut
    go_upto_if 103 with fail
    go_cut [10] (λv wx=>∃(e : OA) (f : Nat),v = .slice e (da (uB B i) (k+1)).length f/\ak wx X.heap.size e f (da (uB B i) (k+1))/\ak wx X.heap.size b1 d1 (da (u5 B i) (k+1))/\ak wx X.heap.size b2 d2 (da (uB Y i) k)/\ak wx X.heap.size b3 d3 (da (u5 Y i) k)/\Il e b1/\Il e b2/\Il e b3/\SW X wx)
    case first =>
     cases hcv : uB B i k
     ·have H1:=Z5 (zH hcv)
      go_wp2_with fail
      go_meet
      exact ⟨b0,d0,by rw [H1.out],by rw [H1.out];exact ho0,ho1,ho2,ho3,t01,t02,t03,hbr⟩
     ·have H1:=Z5 (vA hcv)
      have hcn:=ba wc (.int .i64 k) 3
      have hszU:=hbr.size
      go_wp2_with (at_builtin;refine aO rfl _ _ 22 3 rfl (.int .i64 0) 8 underlying22 aU rfl X.heap.size b0 (da (uB B i) k).length d0 _ rfl (World.ownsRow.alloc ho0 _) ⟨wc.heap.size,0,none⟩ 1 (.int .i64 k) rfl hcn rfl (by omega) (by unfold maxLen;omega) (by simp;omega) ?_;intro a5 c5 w5 hown5 hgr5 hap5)
      go_meet
      obtain ⟨q0,hbq,hk⟩:=q8 hX0 hbr ho0 hown5 hgr5 hap5
      obtain ⟨q1,s1⟩:=hk _ _ _ ho1 t01
      obtain ⟨q2,s2⟩:=hk _ _ _ ho2 t02
      obtain ⟨q3,s3⟩:=hk _ _ _ ho3 t03
      exact ⟨a5,c5,by rw [H1.out,Nl];rfl,by rw [H1.out];exact q0,q1,q2,q3,s1,s2,s3,hbq⟩
    clear ho0 ho1 ho2 ho3 hbr t01 t02 t03
    obtain ⟨b0,d0,rfl,ho0,ho1,ho2,ho3,h1,h2,h3,hbr⟩:=hcut
    have t01:=h1
    have t02:=h2
    have t03:=h3
    clear h1 h2 h3
    generalize wc=U2 at *
    have hBU2:=RZ hBX hbr
    obtain ⟨g0,g1⟩:=HRow.out U2 (RZ HbW.out hBU2)
    have gk:=g1 k hkr
    clear g1 c0 c1 c2 c3 c4 c5 c6
    obtain ⟨c0,c1,c2,c3,c4,c5,c6⟩:=HS.out U2 hBU2
    have em : ((rn : Int) == (rn : Int))=true:=by simp
    go_upto_region 19 with fail
    go_cut [132] (λv wx=>v = .bool (u5 Y i k)/\bf U2 wx)
    case first =>
     by_cases hki : k=i
     ·have e1 : ((k : Int) == (i : Int))=true:=by simp;omega
      have Hv : Hid (u5 Y i k=true):=by show _=_;rw [hki];exact MF Y i
      go_quiet (fail)
      all_goals (
       go_wp2_with fail
       go_meet
       exact ⟨by rw [Hv.out],⟨_,rfl⟩⟩)
     ·have e1 : ((k : Int) == (i : Int))=false:=by simp;omega
      have Hv : Hid (u5 Y i k=Y k):=IU Y hki
      have HYk:=Z5 (HYY.out k)
      by_cases hy0 : nth y k=0
      ·rw [hy0] at gk HYk
       have HYv : Hid (Y k=false):=by show _=_;rw [HYk.out];rfl
       clear HYk
       go_quiet (fail)
       all_goals (
        go_wp2_with fail
        go_meet
        exact ⟨by rw [Hv.out,HYv.out] <;> rfl,⟨_,rfl⟩⟩)
      ·have e2 : (nth y k != 0)=true:=by simpa using hy0
       have HYv : Hid (Y k=true):=by show _=_;rw [HYk.out,e2]
       clear HYk hy0
       go_quiet (fail)
       all_goals (
        go_wp2_with fail
        go_meet
        exact ⟨by rw [Hv.out,HYv.out] <;> rfl,⟨_,rfl⟩⟩)
    obtain ⟨rfl,hd⟩:=hcut
    generalize wc=U3 at *
    have hb3:=hd.below
    have ho0:=ho0.ah hb3
    have ho1:=ho1.ah hb3
    have ho2:=ho2.ah hb3
    have ho3:=ho3.ah hb3
    have hbr:=RZ hbr hb3
    clear hd hb3 gk g0 c0 c1 c2 c3 c4 c5 c6
    cases hcv : u5 Y i k
    ·have H1:=Z5 (zH hcv)
     have hcp : uB Y i k=false:=by
      cases h : uB Y i k
      ·rfl
      ·have h2:=(Le Y i k).2 (.inl h);rw [hcv] at h2;cases h2
     have H2:=Z5 (zH hcp)
     clear hcv hcp
     go_wp2_with fail
     go_roundw
     case rel=>exact ⟨k+1,b0,b1,b2,b3,d0,d1,d2,d3,by omega,by go_num,rfl,rfl,by rw [H2.out],by rw [H1.out],ho0,ho1,by rw [H2.out];exact ho2,by rw [H1.out];exact ho3,⟨t01,t02,t03,t12,t13,t23⟩,hbr⟩
     case measure=>simp [intOf] <;> omega
    ·have H1:=Z5 (vA hcv)
     have hcn:=ba U3 (.int .i64 k) 3
     have hszU:=hbr.size
     go_upto_region 21 with (at_builtin;refine aO rfl _ _ 22 3 rfl (.int .i64 0) 8 underlying22 aU rfl X.heap.size b3 (da (u5 Y i) k).length d3 _ rfl (World.ownsRow.alloc ho3 _) ⟨U3.heap.size,0,none⟩ 1 (.int .i64 k) rfl hcn rfl (by omega) (by unfold maxLen;omega) (by simp;omega) ?_;intro a5 c5 w5 hown5 hgr5 hap5)
     obtain ⟨q3,hbq,hk⟩:=q8 hX0 hbr ho3 hown5 hgr5 hap5
     obtain ⟨q0,s0⟩:=hk _ _ _ ho0 t03.symm
     obtain ⟨q1,s1⟩:=hk _ _ _ ho1 t13.symm
     obtain ⟨q2,s2⟩:=hk _ _ _ ho2 t23.symm
     clear hk hown5 hgr5 hap5 ho0 ho1 ho2 ho3 hcn
     by_cases hki : k=i
     ·have e1 : ((k : Int) != (i : Int))=false:=by simp;omega
      have H2:=Z5 (zH (show uB Y i k=false by rw [hki];exact Lq Y i))
      clear hcv
      go_wp2_with fail
      go_roundw
      case rel=>exact ⟨k+1,b0,b1,b2,a5,d0,d1,d2,c5,by omega,by go_num,rfl,rfl,by rw [H2.out],by rw [H1.out,Nl];rfl,q0,q1,by rw [H2.out];exact q2,by rw [H1.out];exact q3,⟨t01,t02,s0.symm,t12,s1.symm,s2.symm⟩,hbq⟩
      case measure=>simp [intOf] <;> omega
     ·have e1 : ((k : Int) != (i : Int))=true:=by simp;omega
      have H2:=Z5 (vA (show uB Y i k=true by rw [J3 Y hki,<- IU Y hki];exact hcv))
      have hcn5:=ba w5 (.int .i64 k) 3
      have hsz5:=hbq.size
      clear hcv
      go_wp2_with (at_builtin;refine aO rfl _ _ 22 3 rfl (.int .i64 0) 8 underlying22 aU rfl X.heap.size b2 (da (uB Y i) k).length d2 _ rfl (World.ownsRow.alloc q2 _) ⟨w5.heap.size,0,none⟩ 1 (.int .i64 k) rfl hcn5 rfl (by omega) (by unfold maxLen;omega) (by simp;omega) ?_;intro a6 c6 w6 hown6 hgr6 hap6)
      go_roundw
      case rel =>
       obtain ⟨r2,hbq6,hk⟩:=q8 hX0 hbq q2 hown6 hgr6 hap6
       obtain ⟨r0,z0⟩:=hk _ _ _ q0 t02.symm
       obtain ⟨r1,z1⟩:=hk _ _ _ q1 t12.symm
       obtain ⟨r3,z3⟩:=hk _ _ _ q3 s2.symm
       exact ⟨k+1,b0,b1,a6,a5,d0,d1,c6,c5,by omega,by go_num,rfl,rfl,by rw [H2.out,Nl];rfl,by rw [H1.out,Nl];rfl,r0,r1,by rw [H2.out];exact r2,by rw [H1.out];exact r3,⟨t01,z0.symm,s0.symm,z1.symm,s1.symm,z3⟩,hbq6⟩
      case measure=>simp [intOf] <;> omega
   ·obtain rfl : k=rn:=by omega
    have HR0:=Z5 (λV (hV : SW U V)=>yG P M am mn cm mod k a n c L (uB B i) b0 d0 V (Hmi.out.1.ah (RZ HbW.out (RZ hBU hV))) (Hmi.out.2.1.ah (RZ HbW.out (RZ hBU hV))) HE.out (ho0.ints.ah hV))
    have HR1:=Z5 (λV (hV : SW U V)=>yG P M am mn cm mod k a n c L (u5 B i) b1 d1 V (Hmi.out.1.ah (RZ HbW.out (RZ hBU hV))) (Hmi.out.2.1.ah (RZ HbW.out (RZ hBU hV))) HE.out (ho1.ints.ah hV))
    have HR2:=Z5 (λV (hV : SW U V)=>yG P M am mn cm mod k a n c L (uB Y i) b2 d2 V (Hmi.out.1.ah (RZ HbW.out (RZ hBU hV))) (Hmi.out.2.1.ah (RZ HbW.out (RZ hBU hV))) HE.out (ho2.ints.ah hV))
    have HR3:=Z5 (λV (hV : SW U V)=>yG P M am mn cm mod k a n c L (u5 Y i) b3 d3 V (Hmi.out.1.ah (RZ HbW.out (RZ hBU hV))) (Hmi.out.2.1.ah (RZ HbW.out (RZ hBU hV))) HE.out (ho3.ints.ah hV))
    have l3:=HY3.out (uB B i) (u5 B i) (Lq B i) (Le B i)
    obtain ⟨l4,l5,l6⟩:=HY4.out (uB Y i) (u5 Y i) HLs.out (Le Y i)
    have hg0:=ry (af P M.toNat mod).ops L (da (uB B i) k)
    rw [l4] at HR3
    generalize gk (af P M.toNat mod).ops L (da (uB B i) k)=g0 at *
    generalize gk (af P M.toNat mod).ops L (da (u5 B i) k)=g1 at *
    generalize gk (af P M.toNat mod).ops L (da (uB Y i) k)=g2 at *
    generalize (da (uB B i) k).length=r0 at *
    generalize (da (u5 B i) k).length=r1 at *
    generalize (da (uB Y i) k).length=r2 at *
    generalize (da (u5 Y i) k).length=r3 at *
    have f1 : ((r3 : Int) != (r2 : Int)+1)=false:=by simp;omega
    have f2 : ((r2 : Int) != t)=false:=by simp;omega
    have f3 : ((g2 : Int) != (g2 : Int))=false:=by simp
    have f4 : decide ((r0 : Int)<t)=false\/(decide ((r0 : Int)<t)=true/\((g1 : Int) != (g0 : Int)+1)=false):=by
     by_cases h : (r0 : Int)<t
     ·exact .inr ⟨by simpa using h,by have:=l3 h;simp;omega⟩
     ·exact .inl (by simpa using h)
    clear ho0 ho1 ho2 ho3 hap l3 l4 l5 l6 hkr
    go_wp2_with fail
    refine (HR0.out U (Nc _ _)).mono ?_
    rintro e v1 ⟨rfl,hb1⟩
    clear c0 c1 c2 c3 c4 c5 c6
    obtain ⟨c0,c1,c2,c3,c4,c5,c6⟩:=HS.out v1 (RZ hBU hb1)
    go_wp2_with fail
    refine (HR1.out v1 hb1).mono ?_
    rintro e v2 ⟨rfl,hb2⟩
    have hb2:=RZ hb1 hb2
    clear c0 c1 c2 c3 c4 c5 c6
    obtain ⟨c0,c1,c2,c3,c4,c5,c6⟩:=HS.out v2 (RZ hBU hb2)
    go_wp2_with fail
    refine (HR2.out v2 hb2).mono ?_
    rintro e v3 ⟨rfl,hb3⟩
    have hb3:=RZ hb2 hb3
    clear c0 c1 c2 c3 c4 c5 c6
    obtain ⟨c0,c1,c2,c3,c4,c5,c6⟩:=HS.out v3 (RZ hBU hb3)
    go_wp2_with fail
    refine (HR3.out v3 hb3).mono ?_
    rintro e v4 ⟨rfl,hb4⟩
    have hb4:=RZ hb3 hb4
    have cl4:=HL.out v4 (RZ hbX (RZ hbr hb4))
    clear c0 c1 c2 c3 c4 c5 c6 HR0 HR1 HR2 HR3
    rcases f4 with f4 | ⟨f4,f5⟩
    all_goals (
     go_wp2_with fail
     go_roundw
     case rel=>exact ⟨i+1,by omega,by go_num,RZ hbX (RZ hbr hb4)⟩
     case measure=>simp [intOf] <;> omega)
section
open Go.ChangeShapes Go.WideShapes Go.ChangeAt Go.RowKit
section
variable {H : Type} {enc : TypeId × Value->H} {W : World} {held : Bool} {fuel : Nat} {cs : List Value} {x : DataW H × List MemPlace}
theorem Ch (h : DataW.trod enc prog W 0 (λ_=>true) held fuel 25 cs=some x) : ∃a n c L,cs=[.slice a n c]/\br W a n L/\n<=c:=by
 obtain ⟨a,n,c,L,e,hL⟩:=rB h;refine ⟨a,n,c,L,e,hL,?_⟩;rcases Go.Deep.open_int_rows underlying25 underlying22 underlying3 (by kernel_rfl) (by kernel_rfl) h with ⟨hcs,_⟩ | ⟨a',len,cap,_,_,_,_,hcs,_,hl,_⟩
 ·rw [hcs] at e;simp at e;omega
 ·rw [hcs] at e;simp at e;omega
end
section
variable {H : Type} {enc : TypeId × Value->H} {W : World} {held : Bool} {b0 : Nat} {v : Value} {d : DataW H} {p : List MemPlace}
end
end
section
open Go.ChangeShapes Go.WideShapes Go.ChangeAt Go.RowKit
section
variable {H : Type} {enc : TypeId × Value->H} {W : World} {held : Bool} {fuel : Nat} {cs : List Value} {x : DataW H × List MemPlace}
theorem CF {v0 : Value} (hf : DataW.trod enc prog W 0 (λ_=>true) held fuel 103 [v0]=some x) : ∃(b : OA) (m c : Nat) (ts : ZZ),v0 = .slice b m c/\br W b m ts/\m<=c:=by
 obtain ⟨xs,n0,_,_,_,hlen,hfs⟩:=Qa underlying103 hf;obtain ⟨y0,rfl⟩ : ∃y0,xs=[y0]:=by
  match xs,hlen with
  | [y0],_=>exact ⟨y0,rfl⟩
 have k25 : prog.cellsOf 25 = 1:=by kernel_rfl
 have g0 : DataW.trod enc prog W 0 (λ_=>true) held n0 25 [v0]=some y0:=by simpa [Value.cells,k25] using hfs 0 _ rfl
 obtain ⟨ax,nx,cx,ts,e,hM,hc⟩:=Ch g0;simp at e;exact ⟨ax,nx,cx,ts,e,hM,hc⟩
theorem AG (h : DataW.trod enc prog W 0 (λ_=>true) held fuel 46 cs=some x) : ∃a n c TT,cs=[.slice a n c]/\gJ W a n TT:=by
 rcases Go.Deep.open_slice1 underlying46 (by kernel_rfl) h with ⟨hcs,_⟩ | ⟨a,len,cap,m,n,V,D,Pl',hcs,hb,hl,hm,hmm,_,hx⟩
 ·exact ⟨none,0,0,[],hcs,⟨rfl,λh0=>by omega,by unfold maxLen;omega,λi hi=>by omega⟩⟩
 ·simp only [if_true] at hmm;subst hmm;have each : ∀r,r<len->∃T : ZZ,∃b k c,W.cell? (a.add r)=some (.slice b k c)/\br W b k T/\k<=c:=λr hr=>by obtain ⟨h1,h2⟩:=hx r (by omega);obtain ⟨b,k,c,ts,e,hM,hc⟩:=CF h2;exact ⟨ts,b,k,c,by rw [h1,e],hM,hc⟩
  obtain ⟨T,hT⟩:=Go.Deep.choose_lt each;refine ⟨some a,len,m,(List.range len).map T,hcs,⟨by simp,λh0=>?_,by omega,λi hi=>?_⟩⟩
  ·obtain ⟨b,k,c,h1,_⟩:=hT 0 h0;exact congrArg some (sN h1)
  ·obtain ⟨b,k,c,h1,h2,h3⟩:=hT i hi;have e : nK ((List.range len).map T) i=T i:=by rw [oG (by simpa using hi)];simp
   exact ⟨b,k,c,sP h1,by rw [e];exact h2,h3⟩
end
section
variable {H : Type} {enc : TypeId × Value->H} {W : World} {held : Bool} {b0 : Nat} {v : Value} {d : DataW H} {p : List MemPlace}
theorem H7 (hv : Value.okWide prog W .any b0 48 v) (h : DataW.Trod enc prog W 0 (λ_=>true) held 48 v d p) :
  ∃(as' : OA) (ns cs : Nat) (SS : ZZ) (at' : OA) (nt ct : Nat) (TT : List ZZ),v = .agg #[.slice as' ns cs,.slice at' nt ct]/\br W as' ns SS/\gJ W at' nt TT:=by
 obtain ⟨cs,rfl,hsz⟩:=okWide_struct underlying48 hv;rw [show prog.cellsOf 48 = 2 by kernel_rfl] at hsz;obtain ⟨l⟩:=cs;match l,hsz with
 | [v0,v1],_ =>
 obtain ⟨fuel,hf⟩:=h;obtain ⟨xs,n0,_,_,_,hlen,hfs⟩:=Qa underlying48 hf;obtain ⟨y0,y1,rfl⟩ : ∃y0 y1,xs=[y0,y1]:=by
  match xs,hlen with
  | [y0,y1],_=>exact ⟨y0,y1,rfl⟩
 have k25 : prog.cellsOf 25 = 1:=by kernel_rfl
 have k57 : prog.cellsOf 46 = 1:=by kernel_rfl
 have g0 : DataW.trod enc prog W 0 (λ_=>true) held n0 25 [v0]=some y0:=by simpa [Value.cells,k25] using hfs 0 _ rfl
 have g1 : DataW.trod enc prog W 0 (λ_=>true) held n0 46 [v1]=some y1:=by simpa [Value.cells,k25,k57] using hfs 1 _ rfl
 obtain ⟨ax,nx,cx,ts,e,hM⟩:=rB g0;obtain ⟨ay,ny,cy,TT,e2,hT⟩:=AG g1;simp at e e2;subst e e2;exact ⟨ax,nx,cx,ts,ay,ny,cy,TT,rfl,hM,hT⟩
end
end
end Go.Proofs.YthglbncgemdcbaaGreat
