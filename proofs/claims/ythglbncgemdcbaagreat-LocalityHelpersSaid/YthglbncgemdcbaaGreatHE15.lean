import Derived.Test.YthglbncgemdcbaaGreatHE11
import Derived.Test.YthglbncgemdcbaaGreatHE13
import Derived.Test.YthglbncgemdcbaaGreatHE14
namespace Go.Proofs.YthglbncgemdcbaaGreat
set_option linter.all false
set_option maxRecDepth 100000
set_option maxHeartbeats 4000000
open Go.RowKit Go.Proofs.Tryz
section
variable {O : aM} {El : Int->Prop} {m n : Nat}
theorem jA.smul (F : bZ O El) {φ : LI->Int} (h : jA O El n φ) {s : Int} (hs : El s) : jA O El n (λv=>O.mul s (φ v)) :=
 ⟨λv hv=>F.cl.mul _ _ hs (h.el v hv),
  λv r x hv hr hx=>by show O.mul s (φ (dA O v x r))=O.add (O.mul s (φ v)) (O.neg (O.mul x (O.mul s (φ r))));have h1:=h.el v hv;have h2:=h.el r hr;rw [h.sub v r x hv hr hx,F.mul_add s _ _ hs h1 (F.cl.neg _ (F.cl.mul _ _ hx h2)),F.mul_neg hs (F.cl.mul _ _ hx h2),<- F.mul_assoc s x _ hs hx h2,F.mul_comm s x hs hx,F.mul_assoc x s _ hx hs h2],
  λr x hr hx=>by show O.mul s (φ (r.map (O.mul x)))=O.mul x (O.mul s (φ r));have h2:=h.el r hr;rw [h.Dy r x hr hx,<- F.mul_assoc s x _ hs hx h2,F.mul_comm s x hs hx,F.mul_assoc x s _ hx hs h2]⟩
theorem dC (g : Nat->Int) (k i : Nat) (hi : i<k) : nth ((List.range k).map g) i=g i:=by rw [aj (by simpa using hi)];simp
theorem jA.vec {k : Nat} {e : LI->Int} (he : jA O El k e) (g : Nat->LI->Int) (hg : ∀i,i<k->jA O El n (g i)) : jA O El n (λv=>e ((List.range k).map λi=>g i v)):=by
 have hv' : ∀v,Vc El n v->Vc El k ((List.range k).map λi=>g i v):=λv hv=>⟨by simp,λy hy=>by obtain ⟨i,hi,rfl⟩:=List.mem_map.1 hy;exact (hg i (List.mem_range.1 hi)).el v hv⟩
 refine ⟨λv hv=>he.el _ (hv' v hv),λv r x hv hr hx=>?_,λr x hr hx=>?_⟩
 ·show e _=_;rw [<- he.sub _ _ x (hv' v hv) (hv' r hr) hx];congr 1;refine gd (by rw [eD _ _ _ _ (by simp)];simp) λi hi=>?_;have hi' : i<k:=by simpa using hi
  rw [ek O _ x _ i (by simp) (by simpa using hi'),dC _ _ _ hi',dC _ _ _ hi',dC _ _ _ hi'];exact (hg i hi').sub v r x hv hr hx
 ·show e _=_;rw [<- he.Dy _ x (hv' r hr) hx];congr 1;refine gd (by simp) λi hi=>?_;have hi' : i<k:=by simpa using hi
  rw [kT O _ x (by simpa using hi'),dC _ _ _ hi',dC _ _ _ hi'];exact (hg i hi').Dy r x hr hx
def RS (O : aM) (El : Int->Prop) (m : Nat) (L : Ll) (f : Nat->Int) : Prop:=∃e,jA O El L.length e/\∀x,x<m->f x=e (bF L x)
theorem RS.row (F : bZ O El) {L : Ll} {i : Nat} (hi : i<L.length) : RS O El m L (λx=>nth (ai L i) x) :=
 ⟨λv=>nth v i,jA.zB F hi,λx _=>(dH L x i hi).symm⟩
theorem RS.comb (F : bZ O El) {L : Ll} {f g : Nat->Int} (hf : RS O El m L f) (hg : RS O El m L g) {s : Int} (hs : El s) : RS O El m L (λx=>O.add (f x) (O.neg (O.mul (g x) s))):=by obtain ⟨a,ha,ha2⟩:=hf;obtain ⟨b,hb,hb2⟩:=hg;exact ⟨_,ha.comb F hb hs,λx hx=>by show O.add (f x) _=_;rw [ha2 x hx,hb2 x hx]⟩
theorem RS.smul (F : bZ O El) {L : Ll} {f : Nat->Int} (hf : RS O El m L f) {s : Int} (hs : El s) : RS O El m L (λx=>O.mul s (f x)):=by obtain ⟨a,ha,ha2⟩:=hf;exact ⟨_,ha.smul F hs,λx hx=>by show O.mul s (f x)=_;rw [ha2 x hx]⟩
theorem RS.congr {L : Ll} {f g : Nat->Int} (hf : RS O El m L f) (h : ∀x,x<m->g x=f x) : RS O El m L g:=by obtain ⟨a,ha,ha2⟩:=hf;exact ⟨a,ha,λx hx=>by rw [h x hx,ha2 x hx]⟩
def eQ (O : aM) (El : Int->Prop) (m : Nat) (A B : Ll) : Prop:=∀i,i<A.length->RS O El m B (λx=>nth (ai A i) x)
theorem eQ.refl (F : bZ O El) (L : Ll) : eQ O El m L L:=λ_ hi=>.row F hi
theorem eQ.rs {A B : Ll} (h : eQ O El m A B) {f : Nat->Int} (hf : RS O El m A f) : RS O El m B f:=by
 obtain ⟨e,he,he2⟩:=hf;obtain ⟨g,hg⟩ : ∃g : Nat->LI->Int,∀i,i<A.length->jA O El B.length (g i)/\∀x,x<m->nth (ai A i) x=g i (bF B x):=by
  have h2 : ∀i,∃g : LI->Int,i<A.length->jA O El B.length g/\∀x,x<m->nth (ai A i) x=g (bF B x):=λi=>by
   by_cases hi : i<A.length
   ·obtain ⟨g,h1,h2⟩:=h i hi;exact ⟨g,λ_=>⟨h1,h2⟩⟩
   ·exact ⟨λ_=>0,λh=>absurd h hi⟩
  exact ⟨λi=>Classical.choose (h2 i),λi hi=>Classical.choose_spec (h2 i) hi⟩
 refine ⟨_,he.vec g λi hi=>(hg i hi).1,λx hx=>?_⟩;rw [he2 x hx];congr 1;refine gd (by simp [dZ]) λi hi=>?_;rw [dZ] at hi;rw [dC _ _ _ hi,dH A x i hi];exact (hg i hi).2 x hx
theorem eQ.trans {A B C : Ll} (h : eQ O El m A B) (h2 : eQ O El m B C) : eQ O El m A C:=λi hi=>h2.rs (h i hi)
theorem eQ.cl {A B : Ll} (h : eQ O El m A B) {l : LN} {x : Nat} (hl : ∀y ∈ l,y<m) (hx : x<m) (hc : oY O El B.length (bF B) l x) : oY O El A.length (bF A) l x:=by intro φ hφ h0;obtain ⟨e,he,he2⟩:=h.rs (f:=λx=>φ (bF A x)) ⟨φ,hφ,λ_ _=>rfl⟩;have e1 : φ (bF A x)=e (bF B x):=he2 x hx;rw [e1];refine hc e he λy hy=>?_;rw [<- he2 y (hl y hy)];exact h0 y hy
structure kN (L : Ll) (P : LI) (c : Nat) : Prop where
 le : P.length<=L.length
 lt : ∀j,j<P.length->0<=nth P j/\nth P j<c
 one : ∀j i,j<P.length->i<L.length->nth (ai L i) (nth P j).toNat=if i=j then 1 else 0
 zero : ∀i x,P.length<=i->i<L.length->x<c->nth (ai L i) x=0
def sw (t k i : Nat) : Nat:=if i=t then k else if i=k then t else i
theorem Gj {t k n i : Nat} (ht : t<n) (hk : k<n) (hi : i<n) : sw t k i<n:=by unfold sw;split;exact hk;split;exact ht;exact hi
theorem DC {L : Ll} {t k : Nat} (ht : t<L.length) (hk : k<L.length) (i : Nat) : ai (if k=t then L else aX L t k) i=ai L (sw t k i):=by
 unfold sw aX;split
 ·rename_i e;subst e;split
  ·rename_i e;rw [e]
  ·rfl
 ·rename_i hne;rw [fi _ _ _ _ (by simpa using hk),fi _ _ _ _ ht];by_cases h1 : i=t
  ·rw [GU (by omega),GV h1,GV h1]
  ·rw [GU h1,GU h1];by_cases h2 : i=k
   ·rw [GV h2,GV h2]
   ·rw [GU h2,GU h2]
theorem Cx (F : bZ O El) {L : Ll} (hL : bG El m L) {t c : Nat} (ht : t<L.length) {i x : Nat} (hx : x<m) :
  nth (ai (bw O L t c) i) x=if i=t then O.mul (O.inv (nth (ai L t) c)) (nth (ai L t) x) else nth (ai L i) x:=by
 have hr:=hL.row ht;have he : El (nth (ai L t) x):=hr.2 _ (aH (by rw [hr.1];exact hx));unfold bw;split
 ·rename_i h1;split
  ·rename_i e;rw [e,h1,F.one_mul _ he]
  ·rfl
 ·rw [fi _ _ _ _ ht];split
  ·exact kT O _ _ (by rw [hr.1];exact hx)
  ·rfl
theorem pI (O : aM) (t c : Nat) (L : Ll) : ∀i,i<=L.length->∀j,ai (clearTo O t c L i) j=if j<i/\j ≠ t then cH O (ai L t) c (ai L j) else ai L j
 | 0,_,j=>by rw [GU (by omega)];rfl
 | i+1,hi,j=>by
  have ih:=pI O t c L i (by omega);unfold clearTo;split
  ·rename_i e;rw [ih j];by_cases h : j<i/\j ≠ t
   ·rw [GV h,GV ⟨by omega,h.2⟩]
   ·rw [GU h,GU (by omega)]
  ·rename_i e;have e1 : ai (clearTo O t c L i) t=ai L t:=by rw [ih t,GU (by omega)]
   have e2 : ai (clearTo O t c L i) i=ai L i:=by rw [ih i,GU (by omega)]
   rw [fi _ _ _ _ (by rw [cZ];omega),e1,e2];by_cases h : j=i
   ·subst h;rw [GV rfl,GV ⟨by omega,e⟩]
   ·rw [GU h,ih j];by_cases h2 : j<i/\j ≠ t
    ·rw [GV h2,GV ⟨by omega,h2.2⟩]
    ·rw [GU h2,GU (by omega)]
theorem tW (F : bZ O El) {pv r : LI} {c x : Nat} (hp : Vc El m pv) (hr : Vc El m r) (hc : c<m) (hx : x<m) :
  nth (cH O pv c r) x=O.add (nth r x) (O.neg (O.mul (nth pv x) (nth r c))):=by
 have h1:=hp.at hx;have h2:=hr.at hx;have h3:=hr.at hc;unfold cH;split
 ·rename_i h0;rw [h0,F.dh h1,F.gr,F.add_zero _ h2]
 ·rw [fX O r _ pv x (by rw [hp.1,hr.1]) (by rw [hr.1];exact hx)];split
  ·rename_i h0;rw [h0,F.lC h3,F.gr,F.add_zero _ h2]
  ·rw [F.neg_mul h3 h1,F.mul_comm _ _ h3 h1]
section
variable {L : Ll} {t k c : Nat}
theorem ee (F : bZ O El) (hL : bG El m L) (ht : t<L.length) (hk : k<L.length) (hc : c<m) (h0 : nth (ai L k) c ≠ 0) {i x : Nat} (hi : i<L.length) (hx : x<m) :
  nth (ai (eO O L t k c) i) x=if i=t then O.mul (O.inv (nth (ai L k) c)) (nth (ai L k) x) else
   O.add (nth (ai L (sw t k i)) x) (O.neg (O.mul (O.mul (O.inv (nth (ai L k) c)) (nth (ai L k) x)) (nth (ai L (sw t k i)) c))):=by
 rw [gS];obtain ⟨L1,hL1⟩ : ∃L1,(if k=t then L else aX L t k)=L1:=⟨_,rfl⟩
 have hn1 : ∀i,ai L1 i=ai L (sw t k i):=λi=>by rw [<- hL1];exact DC ht hk i
 have hl1 : L1.length=L.length:=by rw [<- hL1];split <;> simp [bJ]
 have hR1 : bG El m L1:=by
  rw [<- hL1];split
  ·exact hL
  ·exact hL.swap ht hk
 have hswt : sw t k t=k:=by simp [sw]
 have h01 : nth (ai L1 t) c ≠ 0:=by rw [hn1,hswt];exact h0
 rw [hL1];have hR2 : bG El m (bw O L1 t c):=hR1.norm F.cl (by omega) hc h01;have hN : ∀ {i x : Nat},x<m->nth (ai (bw O L1 t c) i) x=if i=t then O.mul (O.inv (nth (ai L1 t) c)) (nth (ai L1 t) x) else nth (ai L1 i) x:=λhx=>Cx F hR1 (by omega) hx
 rw [pI O t c _ L.length (by rw [da];omega)];by_cases e : i=t
 ·rw [GU (by omega),GV e,hN hx,GV e,hn1,hswt]
 ·rw [GV ⟨hi,e⟩,GU e,tW F (hR2.row (by rw [da];omega)) (hR2.row (by rw [da];omega)) hc hx,hN hx,hN hx,hN hc,GU e,GU e,GV rfl,hn1,hn1,hswt]
variable (F : bZ O El) (hL : bG El m L) (ht : t<L.length) (hk : k<L.length) (hc : c<m) (h0 : nth (ai L k) c ≠ 0)
include F hL ht hk hc h0
theorem yZ : eQ O El m (eO O L t k c) L:=by
 intro i hi;rw [dN] at hi;have hp : El (nth (ai L k) c):=L8 (hL.row hk) hc;have hpi:=F.cl.inv _ hp h0;by_cases e : i=t
 ·exact ((RS.row F hk).smul F hpi).congr λx hx=>by rw [ee F hL ht hk hc h0 hi hx,GV e]
 ·have hs:=Gj ht hk hi;exact ((RS.row F hs).comb F ((RS.row F hk).smul F hpi) (s:=nth (ai L (sw t k i)) c) (L8 (hL.row hs) hc)).congr λx hx=>by rw [ee F hL ht hk hc h0 hi hx,GU e]
theorem xT : eQ O El m L (eO O L t k c):=by
 intro i hi;have hp : El (nth (ai L k) c):=L8 (hL.row hk) hc;have hpi:=F.cl.inv _ hp h0;have htB : t<(eO O L t k c).length:=by rw [dN];exact ht
 by_cases e : i=k
 ·refine ((RS.row F htB).smul F hp).congr λx hx=>?_;have hx1 : El (nth (ai L k) x):=L8 (hL.row hk) hx;rw [ee F hL ht hk hc h0 ht hx,GV rfl,<- F.mul_assoc _ _ _ hp hpi hx1,F.mul_inv _ hp h0,F.one_mul _ hx1,e]
 ·have hj : ∃j,j<L.length/\j ≠ t/\sw t k j=i:=by
   by_cases e2 : i=t
   ·exact ⟨k,hk,by omega,by unfold sw;rw [GU (by omega),GV rfl,e2]⟩
   ·exact ⟨i,hi,e2,by unfold sw;rw [GU e2,GU e]⟩
  obtain ⟨j,hj,hjt,hsw⟩:=hj;have hs : El (nth (ai L i) c):=L8 (hL.row hi) hc;refine ((RS.row F (i:=j) (by rw [dN];exact hj)).comb F (RS.row F htB) (s:=O.neg (nth (ai L i) c)) (F.cl.neg _ hs)).congr λx hx=>?_;have hx1 : El (nth (ai L k) x):=L8 (hL.row hk) hx;have hx2 : El (nth (ai L i) x):=L8 (hL.row hi) hx;have hy:=F.cl.mul _ _ hpi hx1;have hq:=F.cl.mul _ _ hy hs;rw [ee F hL ht hk hc h0 ht hx,GV rfl,ee F hL ht hk hc h0 hj hx,GU hjt,hsw,F.mul_neg hy hs,F.neg_neg hq,F.add_assoc _ _ _ hx2 (F.cl.neg _ hq) hq,F.nA hq,F.add_zero _ hx2]
end
theorem kN.next (F : bZ O El) {L : Ll} {P : LI} {c k : Nat} (h : kN L P c) (hL : bG El m L) (hc : c<m) (ht : P.length<L.length) (hk : k<L.length) (htk : P.length<=k) (h0 : nth (ai L k) c ≠ 0) :
  kN (eO O L P.length k c) (P ++ [(c : Int)]) (c+1):=by
 have hp : El (nth (ai L k) c):=L8 (hL.row hk) hc;have hpi:=F.cl.inv _ hp h0;have hsw : ∀i,P.length<=i->i<L.length->P.length<=sw P.length k i/\sw P.length k i<L.length:=λi h1 h2=>by unfold sw;split;omega;split <;> omega
 have hswl : ∀i,i<P.length->sw P.length k i=i:=λi h1=>by unfold sw;rw [GU (by omega),GU (by omega)]
 refine ⟨by rw [dN,H5];simp;omega,λj hj=>?_,λj i hj hi=>?_,λi x h1 h2 hx=>?_⟩
 ·rw [gq];rw [H5,Ij] at hj;by_cases e : j<P.length
  ·rw [GV e];have:=h.lt j e;omega
  ·rw [GU e,GV (by omega)];omega
 ·rw [H5,Ij] at hj;rw [dN] at hi;rw [gq];by_cases e : j<P.length
  ·rw [GV e];have hb:=h.lt j e;have hx : (nth P j).toNat<m:=by omega
   have hk0:=h.one j k e hk;rw [GU (by omega)] at hk0;rw [ee F hL ht hk hc h0 hi hx,hk0,F.dh hpi];by_cases e2 : i=P.length
   ·rw [GV e2,GU (by omega)]
   ·rw [GU e2];have hsl : sw P.length k i<L.length:=by unfold sw;split;omega;split <;> omega
    rw [F.lC (L8 (hL.row hsl) hc),F.gr,F.add_zero _ (L8 (hL.row hsl) hx),h.one j _ e hsl];by_cases e3 : i<P.length
    ·rw [hswl i e3]
    ·have:=(hsw i (by omega) hi).1;rw [GU (by omega),GU (by omega)]
  ·have ej : j=P.length:=by omega
   rw [GU e,GV ej,GW,ee F hL ht hk hc h0 hi hc,ej];by_cases e2 : i=P.length
   ·rw [GV e2,GV e2,F.mul_comm _ _ hpi hp,F.mul_inv _ hp h0]
   ·rw [GU e2,GU e2];have hsl : sw P.length k i<L.length:=by unfold sw;split;omega;split <;> omega
    have hq : El (nth (ai L (sw P.length k i)) c):=L8 (hL.row hsl) hc;rw [F.mul_comm _ _ hpi hp,F.mul_inv _ hp h0,F.one_mul _ hq,F.add_neg _ hq]
 ·rw [H5,Ij] at h1;rw [dN] at h2;have hxm : x<m:=by omega
  have hs:=hsw i (by omega) h2;have hq : El (nth (ai L (sw P.length k i)) c):=L8 (hL.row hs.2) hc;rw [ee F hL ht hk hc h0 h2 hxm,GU (by omega)];by_cases e : x=c
  ·subst e;rw [F.mul_comm _ _ hpi hp,F.mul_inv _ hp h0,F.one_mul _ hq,F.add_neg _ hq]
  ·rw [h.zero _ x hs.1 hs.2 (by omega),h.zero k x htk hk (by omega),F.dh hpi,F.lC hq,F.gr,F.add_zero 0 F.zero]
theorem ke (F : bZ O El) {L : Ll} (hL : bG El m L) (k : Nat) (hk : k<=m) : bG El m (aC O L k).1 :=
 (jq (O':=O) ⟨λ_ _ _ _=>rfl,λ_ _ _ _=>rfl,λ_ _=>rfl,λ_ _ _=>rfl⟩ F.cl hL k hk).2
theorem gU (F : bZ O El) {L : Ll} (hL : bG El m L) : ∀k,k<=m->kN (aC O L k).1 (aC O L k).2 k/\eQ O El m (aC O L k).1 L/\eQ O El m L (aC O L k).1
 | 0,_=>⟨⟨G0 _,λj hj=>by simp [aC] at hj,λj i hj=>by simp [aC] at hj,λi x _ _ hx=>by omega⟩,.refl F L,.refl F L⟩
 | k+1,hk=>by
  obtain ⟨h1,h2,h3⟩:=gU F hL k (by omega);have hR:=ke F hL k (by omega);have hb:=jw (L:=(aC O L k).1) (c:=k) (k:=(aC O L k).2.length) h1.le;by_cases hlt : (aC O L k).2.length<(aC O L k).1.length
  ·rw [dD (Lk:=(aC O L k).1) (P:=(aC O L k).2) rfl hlt];split
   ·rename_i hf;refine ⟨⟨h1.le,λj hj=>⟨(h1.lt j hj).1,Int.lt_trans (h1.lt j hj).2 (by omega)⟩,h1.one,λi x hi1 hi2 hx=>?_⟩,h2,h3⟩;by_cases e : x=k
    ·subst e;exact nT _ x ((aC O L x).1.length - (aC O L x).2.length) _ i hi1 (by show i<aT _ x _;rw [hf];exact hi2)
    ·exact h1.zero i x hi1 hi2 (by omega)
   ·rename_i hf;have hfl : aT (aC O L k).1 k (aC O L k).2.length<(aC O L k).1.length:=by omega
    have hne : nth (ai (aC O L k).1 (aT (aC O L k).1 k (aC O L k).2.length)) k ≠ 0:=gu _ k _ _ (by show aT _ k _<_;omega);exact ⟨h1.next F hR (by omega) hlt hfl hb.1 hne,(yZ F hR hlt hfl (by omega) hne).trans h2,h3.trans (xT F hR hlt hfl (by omega) hne)⟩
  ·have hfull : (aC O L k).2.length=L.length:=by have:=bV O L k;have:=h1.le;omega
   rw [fC hfull 1];have hl:=bV O L k;exact ⟨⟨h1.le,λj hj=>by have:=h1.lt j hj;omega,h1.one,λi x hi1 hi2 hx=>by omega⟩,h2,h3⟩
theorem kN.ind (F : bZ O El) {L : Ll} {P : LI} {c : Nat} (h : kN L P c) : ∀k,k<=P.length->Rk (oY O El L.length (bF L)) (rU P k) k
 | 0,_=>.nil
 | k+1,hk=>by
  rw [rU];refine .ind _ (λhc=>?_) (h.ind F k (by omega));have hkl:=h.le;have h1:=hc (λv=>nth v k) (jA.zB F (by omega)) λy hy=>by obtain ⟨j,hj,rfl⟩:=(jM P y k).1 hy;show nth (bF L _) k=0;rw [dH L _ k (by omega),h.one j k (by omega) (by omega),GU (by omega)]
  have h2 : nth (bF L (nth P k).toNat) k=0:=h1;rw [dH L _ k (by omega),h.one k k (by omega) (by omega),GV rfl] at h2;exact absurd h2 (by decide)
def gF (O : aM) (L : Ll) (P : LI) (v : LI) : Nat->LI
 | 0=>v
 | k+1=>dA O (gF O L P v k) (nth (gF O L P v k) k) (bF L (nth P k).toNat)
theorem kN.less (F : bZ O El) {L : Ll} {P : LI} {c : Nat} (h : kN L P c) (hL : bG El m L) {v : LI} (hv : Vc El L.length v) {φ : LI->Int} (hφ : jA O El L.length φ)
  (h0 : ∀j,j<P.length->φ (bF L (nth P j).toNat)=0) : ∀k,k<=P.length->Vc El L.length (gF O L P v k)/\φ (gF O L P v k)=φ v/\∀i,i<L.length->nth (gF O L P v k) i=if i<k then 0 else nth v i
 | 0,_=>⟨hv,rfl,λi _=>by rw [GU (by omega)];rfl⟩
 | k+1,hk=>by
  obtain ⟨h1,h2,h3⟩:=h.less F hL hv hφ h0 k (by omega);have hle:=h.le;have hcol:=dE hL F.zero (nth P k).toNat;have hx:=h1.at (i:=k) (by omega);refine ⟨h1.sub F hcol hx,?_,λi hi=>?_⟩
  ·rw [gF,hφ.sub _ _ _ h1 hcol hx,h0 k (by omega),F.dh hx,F.gr,F.add_zero _ (hφ.el _ h1),h2]
  ·rw [gF,ek O _ _ _ i (by rw [hcol.1,h1.1]) (by rw [h1.1];exact hi),dH L _ i hi,h.one k i (by omega) hi];by_cases e : i=k
   ·subst e;rw [GV rfl,F.kz hx,F.add_neg _ hx,GV (by omega)]
   ·rw [GU e,F.dh hx,F.gr,F.add_zero _ (h1.at hi),h3 i hi];by_cases e2 : i<k
    ·rw [GV e2,GV (by omega)]
    ·rw [GU e2,GU (by omega)]
theorem kN.all (F : bZ O El) {L : Ll} {P : LI} (h : kN L P m) (hL : bG El m L) {x : Nat} (hx : x<m) : oY O El L.length (bF L) (rU P P.length) x:=by
 intro φ hφ h0;obtain ⟨h1,h2,h3⟩:=h.less F hL (dE hL F.zero x) hφ (λj hj=>h0 _ ((jM P _ _).2 ⟨j,hj,rfl⟩)) _ (GQ _);rw [<- h2];refine hφ.zero F h1 λi hi=>?_;rw [h3 i hi];split
 ·rfl
 ·rw [dH L x i hi];exact h.zero i x (by omega) hi hx
theorem Rk.map {cl cl' : LN->Nat->Prop} (D : Nat->Prop) (f : Nat->Nat) (hc : ∀l x,(∀y ∈ l,D y)->D x->(cl l x ↔ cl' (l.map f) (f x))) {l : LN} {r : Nat} (h : Rk cl l r) : (∀y ∈ l,D y)->Rk cl' (l.map f) r:=by
 induction h with
 | nil=>intro _;exact .nil
 | dep x hx _ ih =>
  intro hD
  exact .dep _ ((hc _ _ (λy hy=>hD y (List.mem_cons.2 (.inr hy))) (hD x (by simp))).1 hx) (ih λy hy=>hD y (List.mem_cons.2 (.inr hy)))
 | ind x hx _ ih =>
  intro hD
  exact .ind _ (λh=>hx ((hc _ _ (λy hy=>hD y (List.mem_cons.2 (.inr hy))) (hD x (by simp))).2 h)) (ih λy hy=>hD y (List.mem_cons.2 (.inr hy)))
theorem FH (F : bZ O El) {L : Ll} (hL : bG El m L) : Rk (oY O El L.length (bF L)) (List.range m) (aC O L m).2.length:=by
 obtain ⟨h1,h2,h3⟩:=gU F hL m (GQ _);have hR:=ke F hL m (GQ _);have hC:=kX F hR;have k1:=(h1.ind F _ (GQ _)).yX hC (List.range m) λx hx=>h1.all F hR (List.mem_range.1 hx);have k2:=Rk.map (cl':=oY O El L.length (bF L)) (λy=>y<m) id (λl x hl hx=>by rw [K6];exact ⟨h3.cl hl hx,h2.cl hl hx⟩) k1 λy hy=>by
  rcases List.mem_append.1 hy with hy | hy
  ·exact List.mem_range.1 hy
  ·obtain ⟨j,hj,rfl⟩:=(jM _ _ _).1 hy;have:=h1.lt j hj;omega
 obtain ⟨r,hr⟩:=Rk.ex (oY O El L.length (bF L)) (List.range m);have e:=Rk.same (kX F hL) k2 hr λx=>by
  rw [K6,IS];constructor
  ·rintro (h | h)
   ·exact h
   ·obtain ⟨j,hj,rfl⟩:=(jM _ _ _).1 h;have:=h1.lt j hj;exact List.mem_range.2 (by omega)
  ·exact .inl
 rw [e];exact hr
def gI (Q : LI) (r : LI) : LI:=Q.map λq=>nth r q.toNat
theorem nL (Q r : LI) {i : Nat} (hi : i<Q.length) : nth (gI Q r) i=nth r (nth Q i).toNat:=by rw [aj (show i<(gI Q r).length by simpa [gI] using hi),aj hi];simp [gI]
end
theorem dK (a : OA) (n c : Nat) (l : LI) (a' : OA) (n' c' : Nat) (l' : LI) {w : World} (h : Ints w a n l) (h' : Ints w a' n' l') :
  Calls prog 19 #[.slice a n c,.slice a' n' c'] w (fR w (decide (l=l'))):=by
 have Hl:=Z5 h.len;have Hl':=Z5 h'.len;have hpl:=h.pl;have hpl':=h'.pl;have hmax:=h.max;unfold maxLen at hmax;by_cases hn : n=n'
 ·subst hn;have hnn : ((n : Int) != n)=false:=by simp
  go_enter func19,ntmps19;go_wp2_with fail;go_loopw [5] (λiv wr=>∃k : Nat,k<=n/\iv = .int .i64 k/\Hid (l.take k=l'.take k)/\aY w wr) (λi _=>n - (intOf i).toNat);case atStart=>exact ⟨0,G0 _,rfl,rfl,L7 _⟩
  case round =>
   obtain ⟨k,hk,rfl,htk,hd⟩:=hrel
   by_cases hlt : k<n
   ·have c1:=(h.drawn hd).cell k hlt
    have c2:=(h'.drawn hd).cell k hlt
    by_cases he : nth l k=nth l' k
    ·have he' : (nth l k != nth l' k)=false:=by simpa using he
     have Hs : Hid (l.take (k+1)=l'.take (k+1)):=nU htk.out (by rw [Hl.out];exact hlt) (by rw [Hl'.out];exact hlt) he
     clear he
     go_wp2_with fail
     go_quiet (fail)
     go_wp2
     go_roundw
     case rel=>exact ⟨k+1,by omega,by go_num,Hs.out,hd.drewN _⟩
     case measure=>simp [intOf] <;> omega
    ·have he' : (nth l k != nth l' k)=true:=by simpa using he
     have Hs : Hid (decide (l=l')=false):=by show _=_;simp;intro e;exact he (by rw [e])
     clear he
     go_wp2_with fail
     go_quiet (fail)
     go_wp2
     go_ret
     exact ⟨aR Hs.out.symm,hd.drewN _⟩
   ·obtain rfl : k=n:=by omega
    have Hs : Hid (decide (l=l')=true):=by show _=_;have:=htk.out;rw [H6 (by rw [Hl.out];exact GQ _),H6 (by rw [Hl'.out];exact GQ _)] at this;simpa using this
    go_wp2_with fail
    go_ret
    exact ⟨aR Hs.out.symm,hd⟩
 ·have hnn : ((n : Int) != n')=true:=by simp;omega
  have Hs : Hid (decide (l=l')=false):=by show _=_;simp;intro e;have e1:=Hl.out;have e2:=Hl'.out;rw [e] at e1;omega
  clear hn;go_enter func19,ntmps19;go_wp2_with fail;go_ret;exact ⟨aR Hs.out.symm,L7 _⟩
theorem lj (a : OA) (n c : Nat) (l : Ll) (a' : OA) (n' c' : Nat) (l' : Ll) {w : World} (h : bC w a n l) (h' : bC w a' n' l') :
  Calls prog 44 #[.slice a n c,.slice a' n' c'] w (fR w (decide (l=l'))):=by
 have Hl:=Z5 h.len;have Hl':=Z5 h'.len;have hpl:=h.pl;have hpl':=h'.pl;have hmax:=h.max;unfold maxLen at hmax;by_cases hn : n=n'
 ·subst hn;have hnn : ((n : Int) != n)=false:=by simp
  go_enter func44,ntmps44;go_wp2_with fail;go_loopw [5] (λiv wr=>∃k : Nat,k<=n/\iv = .int .i64 k/\Hid (l.take k=l'.take k)/\aY w wr) (λi _=>n - (intOf i).toNat);case atStart=>exact ⟨0,G0 _,rfl,rfl,L7 _⟩
  case round =>
   obtain ⟨k,hk,rfl,htk,hd⟩:=hrel
   by_cases hlt : k<n
   ·obtain ⟨b1,n1,d1,c1,i1⟩:=(h.drawn hd).cell k hlt
    obtain ⟨b2,n2,d2,c2,i2⟩:=(h'.drawn hd).cell k hlt
    have Hc:=Z5 (dK b1 n1 d1 _ b2 n2 d2 _ (i1.drawn (L7 wr).drew) (i2.drawn (L7 wr).drew))
    by_cases he : ai l k=ai l' k
    ·have he' : decide (ai l k=ai l' k)=true:=by simpa using he
     have Hs : Hid (l.take (k+1)=l'.take (k+1)):=mM htk.out (by rw [Hl.out];exact hlt) (by rw [Hl'.out];exact hlt) he
     rw [he'] at Hc
     clear he he'
     go_wp2_with fail
     go_region_held3 (λV=>V.cell? ⟨ablk a,aL a+k,none⟩=some (.slice b1 n1 d1)/\V.cell? ⟨ablk a',aL a'+k,none⟩=some (.slice b2 n2 d2)) (exact ⟨c1,c2⟩)
      (first | (go_at_call 19;((with_reducible refine Hc.out.mono ?_);rintro e w4 ⟨rfl,m4,rfl⟩)))
     go_wp2_with fail
     go_roundw
     case rel=>exact ⟨k+1,by omega,by go_num,Hs.out,hd.drewN (1+m4)⟩
     case measure=>simp [intOf] <;> omega
    ·have he' : decide (ai l k=ai l' k)=false:=by simpa using he
     have Hs : Hid (decide (l=l')=false):=by show _=_;simp;intro e;exact he (by rw [e])
     rw [he'] at Hc
     clear he he'
     go_wp2_with fail
     go_region_held3 (λV=>V.cell? ⟨ablk a,aL a+k,none⟩=some (.slice b1 n1 d1)/\V.cell? ⟨ablk a',aL a'+k,none⟩=some (.slice b2 n2 d2)) (exact ⟨c1,c2⟩)
      (first | (go_at_call 19;((with_reducible refine Hc.out.mono ?_);rintro e w4 ⟨rfl,m4,rfl⟩)))
     go_wp2_with fail
     go_ret
     exact ⟨aR Hs.out.symm,hd.drewN (1+m4)⟩
   ·obtain rfl : k=n:=by omega
    have Hs : Hid (decide (l=l')=true):=by show _=_;have:=htk.out;rw [H6 (by rw [Hl.out];exact GQ _),H6 (by rw [Hl'.out];exact GQ _)] at this;simpa using this
    go_wp2_with fail
    go_ret
    exact ⟨aR Hs.out.symm,hd⟩
 ·have hnn : ((n : Int) != n')=true:=by simp;omega
  have Hs : Hid (decide (l=l')=false):=by show _=_;simp;intro e;have e1:=Hl.out;have e2:=Hl'.out;rw [e] at e1;omega
  clear hn;go_enter func44,ntmps44;go_wp2_with fail;go_ret;exact ⟨aR Hs.out.symm,L7 _⟩
theorem ml (P M : Int) (am : OA) (mn cm : Nat) (a : OA) (n c : Nat) (l : LI) (w : World) (hi : Ints w a n l) :
  Calls prog 87 #[.agg #[.int .i64 P,.int .i64 M,.slice am mn cm],.slice a n c] w λe w'=>e = .returned (.int .i64 (iU (aI P M) l))/\Mv w w':=by
 have Hlen:=Z5 hi.len;have hpl:=hi.pl;have hmax:=hi.max;unfold maxLen at hmax;go_enter func87,ntmps87;go_wp2_with fail;obtain ⟨W,hW⟩ : ∃W : World,W=w.alloc (.cells #[.int .i64 P,.int .i64 M,.slice am mn cm] 24):=⟨_,rfl⟩
 rw [<- hW];have hbW : Mv w W:=by rw [hW];exact an _ _
 have x0 : aO W w.heap.size [.int .i64 P,.int .i64 M,.slice am mn cm]:=by rw [hW];exact LZ _ _ _ rfl
 have hiW:=hi.af hbW;have hS : ∀k,k<n->∀V,Mv W V->V.cell? ⟨w.heap.size,0,none⟩=some (.int .i64 P)/\V.cell? ⟨w.heap.size,1,none⟩=some (.int .i64 M)/\V.cell? ⟨w.heap.size,2,none⟩=some (.slice am mn cm)/\V.cell? ⟨ablk a,aL a+k,none⟩=some (.int .i64 (nth l k))/\Mv W V:=by intro k hk V hV;have x1:=x0.af hV;exact ⟨x1.cell 0 rfl,x1.cell 1 rfl,x1.cell 2 rfl,(hiW.af hV).cell k hk,hV⟩
 have HS:=Z5 hS;clear hW x0 hS;go_loopw [5] (λiv wr=>∃k : Nat,k<=n/\iv = .int .i64 k/\Hid ((l.take k).all (gE (aI P M))=true)/\Mv W wr) (λiv _=>n - (intOf iv).toNat);case atStart=>exact ⟨0,G0 _,rfl,by show _=_;simp,GS _ _⟩
 case round =>
  obtain ⟨k,hk,rfl,hall,hbr⟩:=hrel
  by_cases hlt : k<n
  ·have HSk : Hid (∀V,Mv W V->V.cell? ⟨w.heap.size,0,none⟩=some (.int .i64 P)/\V.cell? ⟨w.heap.size,1,none⟩=some (.int .i64 M)/\V.cell? ⟨w.heap.size,2,none⟩=some (.slice am mn cm)/\V.cell? ⟨ablk a,aL a+k,none⟩=some (.int .i64 (nth l k))/\Mv W V):=HS.out k hlt
   have hkl : k<l.length:=by rw [Hlen.out];exact hlt
   have Hbr:=Z5 hbr
   have Hq:=Z5 (zA P M am mn cm (nth l k))
   clear hbr
   by_cases hq : gE (aI P M) (nth l k)=true
   ·have Hs : Hid ((l.take (k+1)).all (gE (aI P M))=true):=dp hkl hall.out (by rw [<- aj hkl];exact hq)
    rw [hq] at Hq
    clear hq
    go_wp2_with fail
    go_region_held3 (λV=>V.cell? ⟨w.heap.size,0,none⟩=some (.int .i64 P)/\V.cell? ⟨w.heap.size,1,none⟩=some (.int .i64 M)/\V.cell? ⟨w.heap.size,2,none⟩=some (.slice am mn cm)/\V.cell? ⟨ablk a,aL a+k,none⟩=some (.int .i64 (nth l k))/\Mv W V)
     ((refine HSk.out _ ?_;first | exact Hbr.out.drew | exact LY Hbr.out.drew hb4))
     (first | (go_at_call 141;((with_reducible refine (Hq.out _).mono ?_);rintro e w4 ⟨rfl,hb4⟩)))
    go_wp2_with fail
    go_roundw
    case rel=>exact ⟨k+1,by omega,by go_num,Hs.out,LY Hbr.out.drew hb4⟩
    case measure=>simp [intOf] <;> omega
   ·have hq' : gE (aI P M) (nth l k)=false:=by simpa using hq
    have Hs : Hid (iU (aI P M) l=2):=by show _=_;rw [iU,dR,dm hkl (by rw [<- aj hkl];exact hq')];rfl
    rw [hq'] at Hq
    clear hq hq'
    go_wp2_with fail
    go_region_held3 (λV=>V.cell? ⟨w.heap.size,0,none⟩=some (.int .i64 P)/\V.cell? ⟨w.heap.size,1,none⟩=some (.int .i64 M)/\V.cell? ⟨w.heap.size,2,none⟩=some (.slice am mn cm)/\V.cell? ⟨ablk a,aL a+k,none⟩=some (.int .i64 (nth l k))/\Mv W V)
     ((refine HSk.out _ ?_;first | exact Hbr.out.drew | exact LY Hbr.out.drew hb4))
     (first | (go_at_call 141;((with_reducible refine (Hq.out _).mono ?_);rintro e w4 ⟨rfl,hb4⟩)))
    go_wp2_with fail
    go_ret
    exact ⟨aK Hs.out.symm,LY hbW (LY Hbr.out.drew hb4)⟩
  ·obtain rfl : k=n:=by omega
   have Hs : Hid (iU (aI P M) l=0):=by have:=hall.out;rw [H6 (by rw [Hlen.out];exact GQ _)] at this;show _=_;rw [iU,dR,this];rfl
   go_wp2_with fail
   go_ret
   exact ⟨aK Hs.out.symm,LY hbW hbr⟩
section
variable {O : aM} {El : Int->Prop} {m n : Nat}
def dotN (O : aM) (a b : Nat->Int) : Nat->Int
 | 0=>0
 | t+1=>O.add (dotN O a b t) (O.mul (a t) (b t))
theorem oZ (F : bZ O El) {a b : Nat->Int} : ∀t,(∀p,p<t->El (a p))->(∀p,p<t->El (b p))->El (dotN O a b t)
 | 0,_,_=>F.zero
 | t+1,ha,hb=>F.cl.add _ _ (oZ F t (λp hp=>ha p (by omega)) λp hp=>hb p (by omega)) (F.cl.mul _ _ (ha t (by omega)) (hb t (by omega)))
theorem kK (F : bZ O El) {a b : Nat->Int} : ∀t,(∀p,p<t->El (a p))->(∀p,p<t->El (b p))->dotN O a b t=dotN O b a t
 | 0,_,_=>rfl
 | t+1,ha,hb=>by rw [dotN,dotN,kK F t (λp hp=>ha p (by omega)) λp hp=>hb p (by omega),F.mul_comm _ _ (ha t (by omega)) (hb t (by omega))]
theorem iA {a b a' b' : Nat->Int} : ∀t,(∀p,p<t->a p=a' p/\b p=b' p)->dotN O a b t=dotN O a' b' t
 | 0,_=>rfl
 | t+1,h=>by rw [dotN,dotN,iA t λp hp=>h p (by omega),(h t (by omega)).1,(h t (by omega)).2]
theorem vz (F : bZ O El) {a b : Nat->Int} {x : Nat} (hx : El (O.mul (a x) (b x))) : ∀t,(∀p,p<t->p ≠ x->O.mul (a p) (b p)=0)->dotN O a b t=if x<t then O.mul (a x) (b x) else 0
 | 0,_=>rfl
 | t+1,h=>by
  rw [dotN,vz F hx t λp hp=>h p (by omega)];by_cases e : t=x
  ·subst e;rw [GU (by omega),GV (by omega),F.tR hx]
  ·rw [h t (by omega) e];by_cases e2 : x<t
   ·rw [GV e2,GV (by omega),F.add_zero _ hx]
   ·rw [GU e2,GU (by omega),F.add_zero 0 F.zero]
theorem vE (F : bZ O El) {a b : Nat->Int} {x y : Nat} (hxy : x ≠ y) (hx : El (O.mul (a x) (b x))) (hy : El (O.mul (a y) (b y))) : ∀t,(∀p,p<t->p ≠ x->p ≠ y->O.mul (a p) (b p)=0) ->
  dotN O a b t=O.add (if x<t then O.mul (a x) (b x) else 0) (if y<t then O.mul (a y) (b y) else 0)
 | 0,_=>by rw [GU (by omega),GU (by omega)];exact (F.add_zero 0 F.zero).symm
 | t+1,h=>by
  rw [dotN,vE F hxy hx hy t λp hp=>h p (by omega)];by_cases e : t=x
  ·subst e;rw [GU (KE t),GV (Nat.lt_succ_self t)];by_cases e2 : y<t
   ·rw [GV e2,GV (show y<t+1 by omega),F.tR hy,F.add_comm _ _ hy hx]
   ·rw [GU e2,GU (show ¬ y<t+1 by omega),F.tR F.zero,F.tR hx,F.add_zero _ hx]
  ·by_cases e1 : t=y
   ·subst e1;by_cases e2 : x<t
    ·rw [GV e2,GU (by omega),GV (by omega),GV (by omega),F.add_zero _ hx]
    ·rw [GU e2,GU (by omega),GU (by omega),GV (by omega),F.add_zero 0 F.zero]
   ·rw [h t (by omega) e e1];by_cases e2 : x<t
    ·by_cases e3 : y<t
     ·rw [GV e2,GV e3,GV (by omega),GV (by omega),F.add_zero _ (F.cl.add _ _ hx hy)]
     ·rw [GV e2,GU e3,GV (by omega),GU (by omega),F.add_zero _ (F.cl.add _ _ hx F.zero)]
    ·by_cases e3 : y<t
     ·rw [GU e2,GV e3,GU (by omega),GV (by omega),F.add_zero _ (F.cl.add _ _ F.zero hy)]
     ·rw [GU e2,GU e3,GU (by omega),GU (by omega),F.add_zero _ (F.cl.add _ _ F.zero F.zero)]
def uJ (O : aM) (r : Nat->Int) (K : Ll) : Nat->LI
 | 0=>List.replicate K.length 0
 | t+1=>dA O (uJ O r K t) (O.neg (r t)) (bF K t)
theorem mh (F : bZ O El) {r : Nat->Int} {K : Ll} (hK : bG El m K) : ∀t,(∀p,p<t->El (r p))->Vc El K.length (uJ O r K t)
 | 0,_=>⟨by simp [uJ],λy hy=>by have:=IL hy;rw [this];exact F.zero⟩
 | t+1,hr=>(mh F hK t λp hp=>hr p (by omega)).sub F (dE hK F.zero t) (F.cl.neg _ (hr t (by omega)))
theorem Am (F : bZ O El) {r : Nat->Int} {K : Ll} (hK : bG El m K) {j : Nat} (hj : j<K.length) : ∀t,t<=m->(∀p,p<t->El (r p))->nth (uJ O r K t) j=dotN O r (λp=>nth (ai K j) p) t
 | 0,_,_=>by simp [uJ,dotN,nth,GY,Ik,hj]
 | t+1,ht,hr=>by have hv:=mh F hK t λp hp=>hr p (by omega);have hc:=dE hK F.zero t;have hrt:=hr t (by omega);have hx : El (nth (ai K j) t):=L8 (hK.row hj) (by omega);rw [uJ,ek O _ _ _ j (by rw [hc.1,hv.1]) (by rw [hv.1];exact hj),Am F hK hj t (by omega) λp hp=>hr p (by omega),dH K t j hj,F.neg_mul hrt hx,F.neg_neg (F.cl.mul _ _ hrt hx)];rfl
theorem sx (F : bZ O El) {r : Nat->Int} {K : Ll} (hK : bG El m K) {φ : LI->Int} (hφ : jA O El K.length φ) : ∀t,(∀p,p<t->El (r p))->φ (uJ O r K t)=dotN O r (λp=>φ (bF K p)) t
 | 0,_=>hφ.zero F (mh F hK 0 λp hp=>by omega) λi hi=>by simp [uJ,nth,GY,Ik,hi]
 | t+1,hr=>by have hv:=mh F hK t λp hp=>hr p (by omega);have hc:=dE hK F.zero t;have hrt:=hr t (by omega);have hx:=hφ.el _ hc;rw [uJ,hφ.sub _ _ _ hv hc (F.cl.neg _ hrt),sx F hK hφ t λp hp=>hr p (by omega),F.neg_mul hrt hx,F.neg_neg (F.cl.mul _ _ hrt hx)];rfl
theorem lT (F : bZ O El) {r : Nat->Int} {K : Ll} (hK : bG El m K) {φ : LI->Int} (hφ : jA O El K.length φ) (hr : ∀p,p<m->El (r p)) (h : ∀j,j<K.length->dotN O r (λp=>nth (ai K j) p) m=0) :
  dotN O r (λp=>φ (bF K p)) m=0:=by rw [<- sx F hK hφ m hr];exact hφ.zero F (mh F hK m hr) λi hi=>by rw [Am F hK hi m (GQ _) hr];exact h i hi
def rH (O : aM) (m : Nat) (G K : Ll) : Prop:=∀i j,i<G.length->j<K.length->dotN O (λp=>nth (ai G i) p) (λp=>nth (ai K j) p) m=0
variable {G K : Ll}
theorem rH.symm (F : bZ O El) (hG : bG El m G) (hK : bG El m K) (h : rH O m G K) : rH O m K G:=λi j hi hj=>by rw [kK F m (λp hp=>L8 (hK.row hi) hp) λp hp=>L8 (hG.row hj) hp];exact h j i hj hi
theorem rH.Gc (F : bZ O El) (hG : bG El m G) (hK : bG El m K) (h : rH O m G K) {φ ψ : LI->Int} (hφ : jA O El K.length φ) (hψ : jA O El G.length ψ) :
  dotN O (λp=>φ (bF K p)) (λp=>ψ (bF G p)) m=0:=by have hcφ : ∀p,p<m->El (φ (bF K p)):=λp _=>hφ.el _ (dE hK F.zero p);refine lT F hG hψ hcφ λi hi=>?_;rw [kK F m hcφ λp hp=>L8 (hG.row hi) hp];exact lT F hK hφ (λp hp=>L8 (hG.row hi) hp) λj hj=>h i j hi hj
theorem rH.cl (F : bZ O El) (hG : bG El m G) (hK : bG El m K) (h : rH O m G K) {A B : LN} {x : Nat} (hx : x<m) (hAB : ∀p,p<m->p ≠ x->p ∈ A\/p ∈ B) (hn : ¬ oY O El G.length (bF G) A x) :
  oY O El K.length (bF K) B x:=by
 intro φ hφ h0;apply Iv;intro hne;apply hn;intro ψ hψ hA;have hd:=h.Gc F hG hK hφ hψ;have e1:=hφ.el _ (dE hK F.zero x);have e2:=hψ.el _ (dE hG F.zero x);rw [vz F (x:=x) (F.cl.mul _ _ e1 e2) m λp hp hpx=>?_,GV hx] at hd
 ·exact F.th e1 e2 hne hd
 ·rcases hAB p hp hpx with h1 | h1
  ·show O.mul (φ (bF K p)) (ψ (bF G p))=0;rw [hA p h1,F.dh (hφ.el _ (dE hK F.zero p))]
  ·show O.mul (φ (bF K p)) (ψ (bF G p))=0;rw [h0 p h1,F.lC (hψ.el _ (dE hG F.zero p))]
theorem EC {cl : LN->Nat->Prop} {l : LN} {x n n' : Nat} (h : Rk cl l n) (h' : Rk cl (x :: l) n') : n'<=n+1/\(cl l x->n'=n):=by
 cases h' with
 | dep _ hx h2=>exact ⟨by rw [h.uniq h2];omega,λ_=>(h.uniq h2).symm⟩
 | ind _ hx h2=>exact ⟨by rw [h.uniq h2];omega,λhc=>absurd hc hx⟩
theorem jL {cl cl' : LN->Nat->Prop} {m : Nat} (h : ∀A B x,x<m->(∀p,p<m->p ≠ x->p ∈ A\/p ∈ B)->¬ cl A x->cl' B x) :
  ∀(l acc : LN) {a b c : Nat},(∀x ∈ l,x<m)->(∀p,p<m->p ∈ l\/p ∈ acc)->Rk cl l a->Rk cl' acc b->Rk cl' (l.reverse ++ acc) c->a+c<=l.length+b
 | [],acc,a,b,c,_,_,ha,hb,hc=>by
  cases ha
  have e : c=b:=Rk.uniq hc hb;simp;omega
 | x :: l,acc,a,b,c,hl,hp,ha,hb,hc=>by
  have hx:=hl x (by simp);obtain ⟨b',hb'⟩:=Rk.ex cl' (x :: acc);have hst:=EC hb hb';have hc' : Rk cl' (l.reverse ++ (x :: acc)) c:=by simpa using hc
  have hp' : ∀p,p<m->p ∈ l\/p ∈ x :: acc:=λp hpm=>by
   rcases hp p hpm with h1 | h1
   ·rcases List.mem_cons.1 h1 with rfl | h1
    ·exact .inr (by simp)
    ·exact .inl h1
   ·exact .inr (List.mem_cons.2 (.inr h1))
  cases ha with
  | dep _ hcl ha' =>
   have ih:=jL h l (x :: acc) (λy hy=>hl y (List.mem_cons.2 (.inr hy))) hp' ha' hb' hc'
   simp only [Io];omega
  | ind _ hcl ha' =>
   have ih:=jL h l (x :: acc) (λy hy=>hl y (List.mem_cons.2 (.inr hy))) hp' ha' hb' hc'
   have:=hst.2 (h l acc x hx (λp hpm hpx=>by
    rcases hp p hpm with h1 | h1
    ·rcases List.mem_cons.1 h1 with h2 | h1
     ·exact absurd h2 hpx
     ·exact .inl h1
    ·exact .inr h1) hcl)
   simp only [Io];omega
theorem zP (F : bZ O El) (hG : bG El m G) (hK : bG El m K) (h : rH O m G K) (hkm : G.length+K.length=m)
  (hg : Rk (oY O El G.length (bF G)) (List.range m) G.length) (hk : Rk (oY O El K.length (bF K)) (List.range m) K.length)
  {S C : LN} (hS : ∀x ∈ S,x<m) (hC : ∀x ∈ C,x<m) (hSC : ∀p,p<m->p ∈ S\/p ∈ C) (hlen : S.length+C.length=m) {a b : Nat} (ha : Rk (oY O El G.length (bF G)) C a) (hb : Rk (oY O El K.length (bF K)) S b) :
  (b : Int)=S.length - G.length+a:=by
 have cG:=kX F hG;have cK:=kX F hK;have all : ∀ {cl : LN->Nat->Prop} (hc : zI cl) {r : Nat} (_ : Rk cl (List.range m) r) (l acc : LN),(∀x ∈ l,x<m)->(∀x ∈ acc,x<m)->(∀p,p<m->p ∈ l\/p ∈ acc)->Rk cl (l.reverse ++ acc) r:=λhc r hr l acc h1 h2 h3=>by
  obtain ⟨r',hr'⟩:=Rk.ex _ (l.reverse ++ acc);have e:=Rk.same hc hr hr' λx=>by rw [Kr,IS,Kb];exact ⟨λhx=>h3 x hx,λhx=>by rcases hx with hx | hx;exact h1 x hx;exact h2 x hx⟩
  rw [e];exact hr'
 have i1:=jL (m:=m) (λA B x hx hAB hn=>h.cl F hG hK hx hAB hn) C S hC (λp hp=>(hSC p hp).symm) ha hb (all cK hk C S hC hS λp hp=>(hSC p hp).symm);have i2:=jL (m:=m) (λA B x hx hAB hn=>(h.symm F hG hK).cl F hK hG hx hAB hn) S C hS hSC hb ha (all cG hg S C hS hC hSC);omega
end
def e9 (P M : Int) (mod : LI) (cols : Int) (L : Ll) : Int:=if br P M mod=true then eU (aI P M) cols L else 1
theorem rC (P M : Int) (am : OA) (mn cm : Nat) (mod : LI) (cols : Int) (a : OA) (n c : Nat) (L : Ll) (w : World) (hmod : Ints w am mn mod) (hi : bC w a n L) :
  Calls prog 140 #[.agg #[.int .i64 P,.int .i64 M,.slice am mn cm],.agg #[.int .i64 cols,.slice a n c]] w λe w'=>e = .returned (.int .i64 (e9 P M mod cols L))/\Mv w w':=by
 have Hlen:=Z5 hi.len;have hpl:=hi.pl;have hmax:=hi.max;unfold maxLen at hmax;go_enter func140,ntmps140;go_wp2_with fail;obtain ⟨W,hW⟩ : ∃W : World,W=(w.alloc (.cells #[.int .i64 P,.int .i64 M,.slice am mn cm] 24)).alloc (.cells #[.int .i64 cols,.slice a n c] 94):=⟨_,rfl⟩
 rw [<- hW];have hbW : Mv w W:=by rw [hW];exact du _ _ _
 have x0 : aO W w.heap.size [.int .i64 P,.int .i64 M,.slice am mn cm]:=by rw [hW];exact (LZ _ _ _ rfl).alloc _
 have y0 : aO W (w.heap.size+1) [.int .i64 cols,.slice a n c]:=by rw [hW];exact LZ _ _ _ (by simp)
 have hS : ∀V,Mv W V->V.cell? ⟨w.heap.size,0,none⟩=some (.int .i64 P)/\V.cell? ⟨w.heap.size,1,none⟩=some (.int .i64 M)/\V.cell? ⟨w.heap.size,2,none⟩=some (.slice am mn cm) /\
   V.cell? ⟨w.heap.size+1,0,none⟩=some (.int .i64 cols)/\V.cell? ⟨w.heap.size+1,1,none⟩=some (.slice a n c)/\Mv W V:=by intro V hV;have x1:=x0.af hV;have y1:=y0.af hV;exact ⟨x1.cell 0 rfl,x1.cell 1 rfl,x1.cell 2 rfl,y1.cell 0 rfl,y1.cell 1 rfl,hV⟩
 have HS:=Z5 hS;have hiW:=hi.af hbW;clear hW x0 y0 hS;refine (jT P M am mn cm mod W (hmod.af hbW)).mono ?_;rintro e w1 ⟨rfl,hb1⟩;have hbw1:=LY hbW hb1;by_cases hB : br P M mod=true
 ·have HB : Hid (e9 P M mod cols L=eU (aI P M) cols L):=by show _=_;rw [e9,GV hB]
  have hE : bT (br P M mod)=0:=by rw [hB];rfl
  rw [hE];obtain ⟨q,hq⟩ : ∃q,aI P M=q:=⟨_,rfl⟩
  have Hq:=Z5 hq;rw [hq] at HB;obtain ⟨d0,d1,d2,d3,d4,_⟩:=HS.out w1 hb1;clear hB hE hq;by_cases b1 : cols<0
  ·have Hf : Hid (e9 P M mod cols L=3):=by show _=_;rw [HB.out,eU,GV (.inl b1)]
   have t1 : decide (cols<0)=true:=by simpa using b1
   go_wp2_with fail;go_ret;exact ⟨aK Hf.out.symm,hbw1⟩
  have t1 : decide (cols<0)=false:=by simpa using b1
  by_cases b2 : 256<cols
  ·have Hf : Hid (e9 P M mod cols L=3):=by show _=_;rw [HB.out,eU,GV (.inr (.inl b2))]
   have t2 : decide (256<cols)=true:=by simpa using b2
   go_wp2_with fail;go_ret;exact ⟨aK Hf.out.symm,hbw1⟩
  have t2 : decide (256<cols)=false:=by simpa using b2
  by_cases b3 : 256<n
  ·have Hf : Hid (e9 P M mod cols L=3):=by show _=_;rw [HB.out,eU,GV (.inr (.inr (by rw [Hlen.out];exact b3)))]
   have t3 : decide (256<(n : Int))=true:=by simp;omega
   go_wp2_with fail;go_ret;exact ⟨aK Hf.out.symm,hbw1⟩
  have t3 : decide (256<(n : Int))=false:=by simp;omega
  have Hm : Hid (e9 P M mod cols L=if gW cols L=false then 3 else if L.all (dR q) then 0 else 2):=by show _=_;rw [HB.out,eU,GU (by rw [Hlen.out];omega)]
  have hi1:=hiW.af hb1;clear b1 b2;go_wp2_with fail;go_loopw [6] (λiv wr=>∃k : Nat,k<=n/\iv = .int .i64 k/\Hid ((L.take k).all (λr=>decide ((r.length : Int)=cols))=true)/\aY w1 wr) (λiv _=>n - (intOf iv).toNat);case atStart=>exact ⟨0,G0 _,rfl,by show _=_;simp,L7 _⟩
  case round =>
   obtain ⟨k,hk,rfl,hall,hd⟩:=hrel
   have hir:=hi1.drawn hd
   have e3:=hd.cell d3
   have e4:=hd.cell d4
   by_cases hlt : k<n
   ·obtain ⟨ra,rn,rc,hcell,hrow⟩:=hir.cell k hlt
    have hkL : k<L.length:=by rw [Hlen.out];exact hlt
    have hrl:=hrow.len
    rw [aD hkL] at hrl
    have Hrl:=Z5 hrl
    clear hrl
    by_cases he : (rn : Int)=cols
    ·have he' : ((rn : Int) != cols)=false:=by simpa using he
     have Hs : Hid ((L.take (k+1)).all (λr=>decide ((r.length : Int)=cols))=true):=dp hkL hall.out (by rw [Hrl.out];simpa using he)
     clear he
     go_wp2_with fail
     go_quiet (fail)
     go_wp2
     go_roundw
     case rel=>exact ⟨k+1,by omega,by go_num,Hs.out,hd.drewN _⟩
     case measure=>simp [intOf] <;> omega
    ·have he' : ((rn : Int) != cols)=true:=by simpa using he
     have Hs : Hid (e9 P M mod cols L=3):=by show _=_;rw [Hm.out,GV];exact dm hkL (by simp only [Hrl.out];simpa using he)
     clear he
     go_wp2_with fail
     go_quiet (fail)
     go_wp2
     go_ret
     exact ⟨aK Hs.out.symm,LY hbw1 (hd.drewN _).below⟩
   ·obtain rfl : k=n:=by omega
    have Hm2 : Hid (e9 P M mod cols L=if L.all (dR q) then 0 else 2):=by have:=hall.out;rw [H6 (by rw [Hlen.out];exact GQ _)] at this;show _=_;rw [Hm.out,GU (by rw [gW,this];simp)]
    have hbr : Mv W wr:=LY hb1 hd.below
    have hir2:=hir
    clear d0 d1 d2 d3 d4 hall
    go_wp2_with fail
    clear e3 e4
    go_loopw [7] (λiv wx=>∃j : Nat,j<=k/\iv = .int .i64 j/\Hid ((L.take j).all (dR q)=true)/\Mv W wx) (λiv _=>k - (intOf iv).toNat)
    case atStart=>exact ⟨0,G0 _,rfl,by show _=_;simp,hbr⟩
    case round =>
     obtain ⟨j,hj,rfl,hall2,hbx⟩:=hrel
     obtain ⟨d0,d1,d2,d3,d4,_⟩:=HS.out _ hbx
     by_cases hlt : j<k
     ·have hiX:=hiW.af hbx
      obtain ⟨ra,rn,rc,hcell,hrow⟩:=hiX.cell j hlt
      have hjL : j<L.length:=by rw [Hlen.out];exact hlt
      have HC:=Z5 (ml P M am mn cm ra rn rc (ai L j) _ (hrow.af (GS _ _).drew))
      have hSj : ∀V,Mv wr V->V.cell? ⟨w.heap.size,0,none⟩=some (.int .i64 P)/\V.cell? ⟨w.heap.size,1,none⟩=some (.int .i64 M)/\V.cell? ⟨w.heap.size,2,none⟩=some (.slice am mn cm) /\
        V.cell? ⟨w.heap.size+1,1,none⟩=some (.slice a k c)/\V.cell? ⟨ablk a,aL a+j,none⟩=some (.slice ra rn rc):=λV hV=>by obtain ⟨f0,f1,f2,f3,f4,_⟩:=HS.out V (LY hbx hV);exact ⟨f0,f1,f2,f4,ak hV hcell⟩
      have HSj:=Z5 hSj
      have Hbx:=Z5 hbx
      rw [Hq.out] at HC
      clear hSj hbx
      by_cases he : dR q (ai L j)=true
      ·have he2 : iU q (ai L j)=0:=by rw [iU,he];rfl
       rw [he2] at HC
       rw [aD hjL] at he
       have Hs : Hid ((L.take (j+1)).all (dR q)=true):=dp hjL hall2.out he
       clear he he2
       go_wp2_with fail
       go_region_held3 (λV=>V.cell? ⟨w.heap.size,0,none⟩=some (.int .i64 P)/\V.cell? ⟨w.heap.size,1,none⟩=some (.int .i64 M)/\V.cell? ⟨w.heap.size,2,none⟩=some (.slice am mn cm) /\
         V.cell? ⟨w.heap.size+1,1,none⟩=some (.slice a k c)/\V.cell? ⟨ablk a,aL a+j,none⟩=some (.slice ra rn rc))
        ((refine HSj.out _ ?_;first | exact (GS _ _).drew | exact LY (GS _ _).drew hb4))
        (first | (go_at_call 87;((with_reducible refine HC.out.mono ?_);rintro e w4 ⟨rfl,hb4⟩)))
       go_wp2_with fail
       go_roundw
       case rel=>exact ⟨j+1,by omega,by go_num,Hs.out,LY Hbx.out (LY (GS _ _).drew hb4)⟩
       case measure=>simp [intOf] <;> omega
      ·have he2 : iU q (ai L j)=2:=by rw [iU,GU he]
       rw [he2] at HC
       rw [aD hjL] at he
       have Hs : Hid (e9 P M mod cols L=2):=by show _=_;rw [Hm2.out,dm hjL (by simpa using he)];rfl
       clear he he2
       go_wp2_with fail
       go_region_held3 (λV=>V.cell? ⟨w.heap.size,0,none⟩=some (.int .i64 P)/\V.cell? ⟨w.heap.size,1,none⟩=some (.int .i64 M)/\V.cell? ⟨w.heap.size,2,none⟩=some (.slice am mn cm) /\
         V.cell? ⟨w.heap.size+1,1,none⟩=some (.slice a k c)/\V.cell? ⟨ablk a,aL a+j,none⟩=some (.slice ra rn rc))
        ((refine HSj.out _ ?_;first | exact (GS _ _).drew | exact LY (GS _ _).drew hb4))
        (first | (go_at_call 87;((with_reducible refine HC.out.mono ?_);rintro e w4 ⟨rfl,hb4⟩)))
       go_wp2_with fail
       go_ret
       exact ⟨aK Hs.out.symm,LY hbW (LY Hbx.out (LY (GS _ _).drew hb4))⟩
     ·obtain rfl : j=k:=by omega
      have Hs : Hid (e9 P M mod cols L=0):=by have:=hall2.out;rw [H6 (by rw [Hlen.out];exact GQ _)] at this;show _=_;rw [Hm2.out,this];rfl
      go_wp2_with fail
      go_ret
      exact ⟨aK Hs.out.symm,LY hbW hbx⟩
 ·have hB' : br P M mod=false:=by simpa using hB
  have Hf : Hid (e9 P M mod cols L=1):=by show _=_;rw [e9,GU hB]
  have hE : bT (br P M mod)=1:=by rw [hB'];rfl
  rw [hE];clear hB hB' hE;go_wp2_with fail;go_ret;exact ⟨aK Hf.out.symm,hbw1⟩
theorem Du : cR 5 2 25 tQ 0 25=true:=by decide +kernel
theorem FY : eE 5 2 25 tQ:=aF (bR 5 2 25 tQ) Du
theorem Cf : cR 5 3 125 kP 0 32=true:=by decide +kernel
theorem Bp : cR 5 3 125 kP 32 32=true:=by decide +kernel
theorem Bi : cR 5 3 125 kP 64 32=true:=by decide +kernel
theorem As : cR 5 3 125 kP 96 29=true:=by decide +kernel
theorem Fi : eE 5 3 125 kP:=aF (aF (aF (aF (bR 5 3 125 kP) Cf) Bp) Bi) As
theorem CV : cR 7 2 49 ur 0 49=true:=by decide +kernel
theorem FZ : eE 7 2 49 ur:=aF (bR 7 2 49 ur) CV
theorem Bt : cR 11 2 121 ji 0 32=true:=by decide +kernel
theorem xM : cR 11 2 121 ji 32 32=true:=by decide +kernel
theorem yH : cR 11 2 121 ji 64 32=true:=by decide +kernel
theorem xj : cR 11 2 121 ji 96 25=true:=by decide +kernel
theorem DQ : eE 11 2 121 ji:=aF (aF (aF (aF (bR 11 2 121 ji) Bt) xM) yH) xj
theorem Ax : cR 13 2 169 gC 0 32=true:=by decide +kernel
theorem yz : cR 13 2 169 gC 32 32=true:=by decide +kernel
theorem yr : cR 13 2 169 gC 64 32=true:=by decide +kernel
theorem xK : cR 13 2 169 gC 96 32=true:=by decide +kernel
theorem u4 : cR 13 2 169 gC 128 32=true:=by decide +kernel
theorem xc : cR 13 2 169 gC 160 9=true:=by decide +kernel
theorem D1 : eE 13 2 169 gC:=aF (aF (aF (aF (aF (aF (bR 13 2 169 gC) Ax) yz) yr) xK) u4) xc
def Gn (c : Nat × Nat) : Bool:=vK (cI c.1 1 []) c.1 c.2 && decide (0<c.2) && decide (c.2<c.1)
theorem Gv : roots.all Gn=true:=by decide +kernel
theorem Dd : ((List.range 257).all λp=>p<2 || !fy p || roots.any λc=>c.1 == p)=true:=by decide +kernel
section
variable {P : Int} {M : Nat} {mod : LI} {q : Nat} {x : Int}
theorem xI (h : jP P M) (hx : eo P M x) : pw P M mod x 1=x:=by show cI P M mod (pw P M mod x 0) x=x;rw [pw,gw h hx]
theorem FI (h : jP P M) (hx : eo P M x) : pw P M mod x 2=cI P M mod x x:=by show cI P M mod (pw P M mod x 1) x=_;rw [xI h hx]
theorem Fe (h : jP P M) (hx : eo P M x) : ∀k,pw P M mod (cI P M mod x x) k=pw P M mod x (2 * k)
 | 0=>rfl
 | k+1=>by rw [pw,Fe h hx k,<- FI h hx,gG h];rfl
theorem yW (h : jP P M) : ∀(f n : Nat) (x : Int),eo P M x->n<2 ^ f->fpw (cI P M mod) f x n=pw P M mod x n
 | 0,n,x,hx,hn=>by
  have : n=0:=by simpa using hn
  subst this;rfl
 | f+1,n,x,hx,hn=>by
  have ih:=yW h f (n / 2) (cI P M mod x x) (e8 h x x) (by rw [Jt] at hn;omega);unfold fpw;split
  ·rename_i h0;subst h0;rfl
  ·rw [ih,Fe h hx];split
   ·rename_i h1;have e : n=2 * (n / 2)+1:=by omega
    have e2 : pw P M mod x n=pw P M mod x (2 * (n / 2)+1):=congrArg _ e;rw [e2];rfl
   ·rename_i h1;have e : n=2 * (n / 2):=by omega
    exact (congrArg _ e).symm
structure Ord (P : Int) (M : Nat) (mod : LI) (q : Nat) (x : Int) : Prop where
 one : pw P M mod x (q - 1)=1
 ne : ∀k,0<k->k<q - 1->pw P M mod x k ≠ 1
theorem zZ (h : jP P M) {a : Nat} (h1 : pw P M mod x a=1) : ∀n,pw P M mod x (a * n)=1
 | 0=>rfl
 | n+1=>by rw [JU,<- gG h,zZ h h1 n,h1,gw h (sX h)]
theorem DY (h : jP P M) {a b : Nat} (ha : pw P M mod x a=1) (hb : pw P M mod x b=1) : pw P M mod x (a % b)=1:=by have e : a=b * (a / b)+a % b:=(Jq a b).symm;rw [e,<- gG h,zZ h hb,gw h (nS h x _)] at ha;exact ha
theorem Fl (h : jP P M) : ∀(b a : Nat),pw P M mod x a=1->pw P M mod x b=1->pw P M mod x (Nat.gcd b a)=1:=by
 intro b;induction b using Nat.strongRecOn with
 | ind b ih =>
  intro a ha hb
  by_cases h0 : b=0
  ·subst h0;rw [Nat.gcd_zero_left];exact ha
  ·rw [Nat.gcd_rec]
   exact ih (a % b) (Jm _ (by omega)) b hb (DY h ha hb)
theorem Ord.of (h : jP P M) (hx : eo P M x) (hq : q<=256) (ho : vK (cI P M mod) q x=true) : Ord P M mod q x:=by
 unfold vK at ho;rw [Ib] at ho;obtain ⟨h1,h2⟩:=ho;have h1':=eq_of_beq h1;rw [yW h 8 _ x hx (by omega)] at h1';refine ⟨h1',λk hk0 hk1 hk=>?_⟩;have hg:=Fl h k (q - 1) h1' hk;have hgd : Nat.gcd k (q - 1) ∣ q - 1:=Nat.gcd_dvd_right _ _;have hgl : Nat.gcd k (q - 1)<=k:=Nat.gcd_le_left _ hk0;have hg0 : 0<Nat.gcd k (q - 1):=Nat.gcd_pos_of_pos_left _ hk0;have h3:=List.all_eq_true.1 h2 (Nat.gcd k (q - 1)) (List.mem_range.2 (by omega));have h4 : (q - 1) % Nat.gcd k (q - 1)=0:=Nat.mod_eq_zero_of_dvd hgd;simp only [Kj,beq_iff_eq,bne_iff_ne,ne_eq] at h3;rcases h3 with (h3 | h3) | h3
 ·omega
 ·exact h3 h4
 ·rw [yW h 8 _ x hx (by omega)] at h3;exact h3 hg
theorem Ord.nz (h : jP P M) (o : Ord P M mod q x) {k : Nat} (hk : k<q - 1) : pw P M mod x k ≠ 0:=by intro h0;have h1:=gG (mod:=mod) h x k (q - 1 - k);rw [h0,gQ h,nH h,show k+(q - 1 - k)=q - 1 by omega,o.one] at h1;omega
theorem Ord.inj (h : jP P M) (o : Ord P M mod q x) {i j : Nat} (hij : i<j) (hj : j<q - 1) : pw P M mod x i ≠ pw P M mod x j:=by
 intro e;have h1:=gG (mod:=mod) h x i (q - 1 - i);have h2:=gG (mod:=mod) h x j (q - 1 - i);rw [show i+(q - 1 - i)=q - 1 by omega,o.one,e,h2] at h1;have h3 : pw P M mod x (j - i)=1:=by have h4:=gG (mod:=mod) h x (j - i) (q - 1);rw [o.one,gQ h,gw h (nS h x _),show j - i+(q - 1)=j+(q - 1 - i) by omega,h1] at h4;exact h4
 exact o.ne (j - i) (by omega) (by omega) h3
theorem pN (h : jP P M) (hx : eo P M x) (o : Ord P M mod q x) : ∀(n k : Nat),k<=q - 1->q - 1 - k<n->0<k ->
  powTo (λz=>cI P M mod z x) n ((List.range k).map λi=>pw P M mod x i) (pw P M mod x k)=(List.range (q - 1)).map λi=>pw P M mod x i
 | 0,k,_,hn,_=>by omega
 | n+1,k,hk,hn,h0=>by
  by_cases hke : k=q - 1
  ·subst hke;refine ij _ _ _ _ (.inr ?_);rw [o.one,Kq];exact ⟨0,List.mem_range.2 h0,rfl⟩
  ·rw [pH]
   ·have e : (List.range k).map (λi=>pw P M mod x i) ++ [pw P M mod x k]=(List.range (k+1)).map λi=>pw P M mod x i:=by rw [I7,II];rfl
    rw [e];exact pN h hx o n (k+1) (by omega) (by omega) (by omega)
   ·rintro (h1 | h1)
    ·exact o.nz h (by omega) h1
    ·obtain ⟨i,hi,e⟩:=List.mem_map.1 h1;exact o.inj h (List.mem_range.1 hi) (by omega) e
theorem Ord.fo (h : jP P M) (hx : eo P M x) (hq : 2<=q) (o : Ord P M mod q x) : fo P M mod q x=true:=by
 have hl : et P M mod q x=(List.range (q - 1)).map λi=>pw P M mod x i:=by
  by_cases h2 : q=2
  ·subst h2;have : x=1:=by have:=o.one;rwa [show 2 - 1=1 from rfl,xI h hx] at this
   subst this;rw [et,ij _ _ _ _ (.inr (by simp))];rfl
  ·have:=pN h hx o q 1 (by omega) (by omega) (by omega);rw [xI h hx] at this;exact this
 unfold Proofs.YthglbncgemdcbaaGreat.fo;rw [hl,Ib];refine ⟨by simp,?_⟩;have e : nth ((List.range (q - 1)).map λi=>pw P M mod x i) (q - 2)=pw P M mod x (q - 2):=by rw [aj (by simp;omega)];simp
 rw [e];have : cI P M mod (pw P M mod x (q - 2)) x=pw P M mod x (q - 1):=by rw [show q - 1=(q - 2)+1 by omega];rfl
 rw [this,o.one];rfl
theorem pF : ∀(n x y : Nat),2<=q->x<=y->y<x+n->fo P M mod q y=true->genTo P M mod q n x ≠ []
 | 0,x,y,_,h1,h2,_=>by omega
 | n+1,x,y,hq,h1,h2,hg=>by
  rw [genTo];by_cases hx : fo P M mod q x=true
  ·rw [GV hx];intro e;simp only [fo,Ib,beq_iff_eq] at hx;rw [e] at hx;simp at hx;omega
  ·rw [GU hx];refine pF n (x+1) y hq ?_ (by omega) hg;rcases Lg h1 with h3 | h3
   ·subst h3;exact absurd hg hx
   ·exact h3
theorem vr {ex : LI} {y a b : Int} (g : qZ P M mod q y ex) (ha : eo P M a) (hb : eo P M b) (ha0 : a ≠ 0) (hb0 : b ≠ 0) : cI P M mod a b ≠ 0:=by obtain ⟨i,_,rfl,_⟩:=g.log ha ha0;obtain ⟨j,_,rfl,_⟩:=g.log hb hb0;rw [gG g.res];exact g.E6 _
end
theorem AK {P : Int} {M q : Nat} {l : List (Nat × Nat)} (h : eE P M q l) {v : Nat} (hv : v<q) : ∃c,xx P M q v c=true:=⟨_,h v hv⟩
theorem Gq (p m : Nat) (hp : fy p=true) (h2 : 2<=p) (hm : 2<=m) (hm8 : m<=8) (hpw : (p : Int) ^ m<=256) : ∃l,eE p m (((p : Int) ^ m).toNat) l:=by
 have hp16 : p<=16:=by
  have h1:=df (P:=(p : Int)) (by omega) hm;have h3 : (p : Int) ^ 2=p * p:=by rw [IE,IE,Ju,J2]
  rcases ID 16 p with h4 | h4
  ·have h5 : 17 * 17<=p * p:=JR h4 h4;have h6 : ((17 * 17 : Nat) : Int)<=((p * p : Nat) : Int):=Int.ofNat_le.2 h5;rw [KS] at h6;omega
  ·exact h4
 have hc : p=2\/p=3\/p=4\/p=5\/p=6\/p=7\/p=8\/p=9\/p=10\/p=11\/p=12\/p=13\/p=14\/p=15\/p=16:=by omega
 have hd : m=2\/m=3\/m=4\/m=5\/m=6\/m=7\/m=8:=by omega
 rcases hc with rfl | rfl | rfl | rfl | rfl | rfl | rfl | rfl | rfl | rfl | rfl | rfl | rfl | rfl | rfl
 ·rcases hd with rfl | rfl | rfl | rfl | rfl | rfl | rfl
  ·exact ⟨_,FB⟩
  ·exact ⟨_,Fp⟩
  ·exact ⟨_,FN⟩
  ·exact ⟨_,F2⟩
  ·exact ⟨_,FJ⟩
  ·exact ⟨_,Fw⟩
  ·exact ⟨_,FK⟩
 ·rcases hd with rfl | rfl | rfl | rfl | rfl | rfl | rfl
  ·exact ⟨_,F6⟩
  ·exact ⟨_,FT⟩
  ·exact ⟨_,FF⟩
  ·exact ⟨_,Fu⟩
  ·exact absurd hpw (by decide)
  ·exact absurd hpw (by decide)
  ·exact absurd hpw (by decide)
 ·exact absurd hp (by decide)
 ·rcases hd with rfl | rfl | rfl | rfl | rfl | rfl | rfl
  ·exact ⟨_,FY⟩
  ·exact ⟨_,Fi⟩
  ·exact absurd hpw (by decide)
  ·exact absurd hpw (by decide)
  ·exact absurd hpw (by decide)
  ·exact absurd hpw (by decide)
  ·exact absurd hpw (by decide)
 ·exact absurd hp (by decide)
 ·rcases hd with rfl | rfl | rfl | rfl | rfl | rfl | rfl
  ·exact ⟨_,FZ⟩
  ·exact absurd hpw (by decide)
  ·exact absurd hpw (by decide)
  ·exact absurd hpw (by decide)
  ·exact absurd hpw (by decide)
  ·exact absurd hpw (by decide)
  ·exact absurd hpw (by decide)
 ·exact absurd hp (by decide)
 ·exact absurd hp (by decide)
 ·exact absurd hp (by decide)
 ·rcases hd with rfl | rfl | rfl | rfl | rfl | rfl | rfl
  ·exact ⟨_,DQ⟩
  ·exact absurd hpw (by decide)
  ·exact absurd hpw (by decide)
  ·exact absurd hpw (by decide)
  ·exact absurd hpw (by decide)
  ·exact absurd hpw (by decide)
  ·exact absurd hpw (by decide)
 ·exact absurd hp (by decide)
 ·rcases hd with rfl | rfl | rfl | rfl | rfl | rfl | rfl
  ·exact ⟨_,D1⟩
  ·exact absurd hpw (by decide)
  ·exact absurd hpw (by decide)
  ·exact absurd hpw (by decide)
  ·exact absurd hpw (by decide)
  ·exact absurd hpw (by decide)
  ·exact absurd hpw (by decide)
 ·exact absurd hp (by decide)
 ·exact absurd hp (by decide)
 ·exact absurd hp (by decide)
theorem EG {P : Int} {m : Nat} (hf : RF P m) {mod : LI} (hd : dg P mod) (hl : mod.length=m) : 0<=valu P mod/\valu P mod<P ^ m:=by have:=l5 (P:=P) (by have:=hf.p2;omega) mod hd;rwa [hl] at this
theorem cU (P M : Int) (mod : LI) : br P M mod=ba P M mod:=by
 by_cases hs : bM P M mod=true
 ·unfold br ba;rw [hs,JY,JY];have hs2:=hs;unfold bM at hs2;simp only [Ib,bne_iff_ne,ne_eq] at hs2;obtain ⟨⟨h1,h2⟩,h3⟩:=hs2;obtain ⟨m,rfl,hrf⟩:=RF.of h1;obtain ⟨p,rfl⟩ : ∃p : Nat,P=p:=⟨P.toNat,by have:=hrf.p2;omega⟩
  rw [GW] at h2 ⊢;have hp2 : 2<=p:=by have:=hrf.p2;omega
  have hp256 : p<=256:=by have:=hrf.p256;omega
  have hord:=hrf.order;have hres:=hrf.res;obtain ⟨q,hq⟩ : ∃q : Nat,(p : Int) ^ m=q:=⟨((p : Int) ^ m).toNat,by have:=one_lt_pow hres;omega⟩
  have hq2 : 2<=q:=by have:=one_lt_pow hres;omega
  have hq256 : q<=256:=by have:=hrf.pw;omega
  rw [hord,hq,GW];have hgen : ∀x : Nat,0<x->x<q->vK (cI p m mod) q x=true->(fg p m mod q).isEmpty=false:=λx hx0 hx1 ho=>by
   have hel : eo (p : Int) m x:=⟨by omega,by rw [hq];omega⟩
   have hg:=(Ord.of hres hel hq256 ho).fo hres hel hq2;have:=pF (P:=p) (M:=m) (mod:=mod) (q - 1) 1 x hq2 (by omega) (by omega) hg;unfold fg;cases h : genTo p m mod q (q - 1) 1 with
   | nil=>exact absurd h this
   | cons y l=>rfl
  by_cases hm : m=1
  ·subst hm;have hmod : mod=[]:=by rw [GV (by simp)] at h3;exact Iq (by simpa using h3)
   subst hmod;have hr:=List.all_eq_true.1 Dd p (List.mem_range.2 (by omega));have hp2' : decide (p<2)=false:=by simp;omega
   rw [hp2',h2] at hr;simp only [Bool.not_true,Bool.false_or,JV] at hr;obtain ⟨c,hc,hcp⟩:=hr;have hck:=List.all_eq_true.1 Gv c hc;have hcp2 : c.1=p:=by simpa using hcp
   unfold Gn at hck;rw [hcp2] at hck;simp only [Ib,Iy] at hck;have hqp : q=p:=by
    have : (p : Int) ^ 1=p:=by rw [IE,Ju,J2]
    omega
   rw [hgen c.2 hck.1.2 (by omega) (by rw [hqp];exact hck.1.1)];rfl
  ·have hM : ¬ (m : Int)=1:=by omega
   rw [GU hM] at h3;simp only [Ib,Iy] at h3;have hlen : mod.length=m:=by omega
   have hdig : dg (p : Int) mod:=Mo (by omega) λx hx=>by have:=List.all_eq_true.1 h3.2 x hx;simpa using this
   have hv:=EG hrf hdig hlen;obtain ⟨v,hvv⟩ : ∃v : Nat,valu p mod=v:=⟨(valu p mod).toNat,by omega⟩
   have hdv : digs v p m=mod:=by rw [<- hvv,<- hlen];exact kM mod hdig
   obtain ⟨l,hl⟩:=Gq p m h2 hp2 (by have:=hrf.m1;omega) hrf.m8 hrf.pw;rw [hq,GW] at hl;obtain ⟨c,hc⟩:=AK hl (v:=v) (by omega);have hM' : ((m : Int) == 1)=false:=by simpa using hM
   rw [hM',Bool.false_or];unfold xx at hc;rw [hdv] at hc;split at hc
   ·simp only [Ib,Iy] at hc;rw [hc.1.1.1,hgen c.1 hc.1.2 hc.2 hc.1.1.2];rfl
   ·rename_i hc2;simp only [Ib,Iy,Bool.not_eq_true',beq_iff_eq] at hc;rw [hc.1.1.1.1];cases h : (fg p m mod q).isEmpty with
    | true=>rfl
    | false =>
     exfalso
     have hne : fg p m mod q ≠ []:=λe=>by rw [e] at h;cases h
     obtain ⟨y,hy1,hy2,hy3,hy4⟩:=nJ hne
     have g:=qZ.xe (mod:=mod) hres hq.symm ⟨by omega,by omega⟩ hy3
     exact vr g (a:=(c.1 : Int)) (b:=(c.2 : Int)) ⟨by omega,by omega⟩ ⟨by omega,by omega⟩ (by omega) (by omega) hc.1.1.1.2
 ·have hs' : bM P M mod=false:=by simpa using hs
  simp [br,ba,hs']
def tb (O : aM) (L : Ll) (cols : Nat) : Ll:=(aC O L cols).1.take (aC O L cols).2.length
def pQ (O : aM) (L : Ll) (cols : Nat) (w : World) (e : Ending) (w' : World) : Prop :=
 ∃a c ap cp,e = .returned (.tuple #[.slice a (aC O L cols).2.length c,.slice ap (aC O L cols).2.length cp])/\bQ w.heap.size w' a (aC O L cols).2.length (tb O L cols) /\
  bA w.heap.size w' ap (aC O L cols).2.length (aC O L cols).2/\Mv w w'
theorem qu (P : Int) (m : Nat) (am : OA) (mn cm : Nat) (mod : LI) (a : OA) (n c cols : Nat) (L : Ll) (w : World) (hf : ru w P m am mn mod) (hi : bC w a n L)
  (hR : bG (eo P m) cols L) (hlen : cols<=1000000) (hn : n<=1000000) (hinv : ∀p,eo P m p->p ≠ 0->(fP P m mod p=1 ↔ p=1)) :
  Calls prog 124 #[.agg #[.int .i64 P,.int .i64 m,.slice am mn cm],.slice a n c,.int .i64 cols] w (pQ (jF P m mod) L cols w):=by
 have Hlen:=Z5 hi.len;have Hc : Hid (∀V,Mv w V->Calls prog 179 #[.agg #[.int .i64 P,.int .i64 m,.slice am mn cm],.slice a n c,.int .i64 cols] V (jc (jF P m mod) L cols V)) :=
  λV hV=>se P m am mn cm mod a n c cols cols L V (hf.af hV) (hi.af hV) hR (GQ _) hlen hn hinv
 obtain ⟨O,hO⟩ : ∃O,jF P m mod=O:=⟨_,rfl⟩
 rw [hO] at Hc ⊢;clear hO hinv hR;go_enter func124,ntmps124;go_wp2_with fail;obtain ⟨W,hW⟩ : ∃W : World,W=w.alloc (.cells #[.int .i64 P,.int .i64 m,.slice am mn cm] 24):=⟨_,rfl⟩
 rw [<- hW];have hbW : Mv w W:=by rw [hW];exact an _ _
 clear hW;refine (Hc.out W hbW).mono ?_;rintro e w1 ⟨a1,c1,R1,ap,cp,rfl,hO1,hp1,hb1⟩;have hpl:=ef O L cols;have hcap:=mP hO1.own;have hpv:=(Mt hp1).mono hbW.size;have hmt:=((Mp hO1).take (k:=(aC O L cols).2.length) hpl.2).mono hbW.size;have hF : pQ O L cols w (.returned (.tuple #[.slice a1 (aC O L cols).2.length c1,.slice ap (aC O L cols).2.length cp])) w1:=⟨a1,_,ap,cp,rfl,hmt,hpv,LY hbW hb1⟩
 have HF:=Z5 hF;have hle : (aC O L cols).2.length<=c1:=H7 hpl.2 hcap;clear hF hpv hmt hp1 hcap hpl;generalize (aC O L cols).2.length=k at *;go_wp2_with fail;go_ret2;simpa using HF.out
def fs (P M : Int) (mod : LI) (cols : Int) (L : Ll) : Int :=
 if e9 P M mod cols L=0 then (if tb (jF P M.toNat mod) L cols.toNat=L then 0 else 5) else e9 P M mod cols L
theorem en {P M : Int} {mod : LI} (h : br P M mod=true) : ∃m : Nat,M=m/\RF P m/\(∀(w : World) am mn,Ints w am mn mod->vG w P m am mn mod):=by
 unfold br bM at h;simp only [Ib,bne_iff_ne,ne_eq] at h;obtain ⟨⟨⟨h1,h2⟩,h3⟩,h4⟩:=h;obtain ⟨m,rfl,hrf⟩:=RF.of h1;refine ⟨m,rfl,hrf,λw am mn hi=>⟨hi,λhm=>?_,?_⟩⟩
 ·rw [GU (by omega)] at h3;simp only [Ib,Iy] at h3;have:=hi.len;omega
 ·by_cases hm : (m : Int)=1
  ·rw [GV hm] at h3;have : mod=[]:=Iq (by simpa using h3);subst this;exact Mo (by have:=hrf.p2;omega) (by simp)
  ·rw [GU hm] at h3;simp only [Ib] at h3;refine Mo (by have:=hrf.p2;omega) λx hx=>?_;have:=List.all_eq_true.1 h3.2 x hx;simpa using this
theorem yu {P M : Int} {mod : LI} {cols : Int} {L : Ll} (h : e9 P M mod cols L=0) : br P M mod=true/\eU (aI P M) cols L=0:=by
 unfold e9 at h;split at h
 ·rename_i h1;exact ⟨h1,h⟩
 ·omega
theorem ow (P M : Int) (am : OA) (mn cm : Nat) (mod : LI) (cols : Int) (a : OA) (n c : Nat) (L : Ll) (w : World) (hmod : Ints w am mn mod) (hi : bC w a n L)
  (hinv : br P M mod=true->∀p,eo P M.toNat p->p ≠ 0->(fP P M.toNat mod p=1 ↔ p=1)) :
  Calls prog 86 #[.agg #[.int .i64 P,.int .i64 M,.slice am mn cm],.agg #[.int .i64 cols,.slice a n c]] w λe w'=>e = .returned (.int .i64 (fs P M mod cols L))/\Mv w w':=by
 have Hlen:=Z5 hi.len;have Hinv:=Z5 hinv;clear hinv;go_enter func86,ntmps86;go_wp2_with fail;obtain ⟨W,hW⟩ : ∃W : World,W=(w.alloc (.cells #[.int .i64 P,.int .i64 M,.slice am mn cm] 24)).alloc (.cells #[.int .i64 cols,.slice a n c] 94):=⟨_,rfl⟩
 rw [<- hW];have hbW : Mv w W:=by rw [hW];exact du _ _ _
 have x0 : aO W w.heap.size [.int .i64 P,.int .i64 M,.slice am mn cm]:=by rw [hW];exact (LZ _ _ _ rfl).alloc _
 have y0 : aO W (w.heap.size+1) [.int .i64 cols,.slice a n c]:=by rw [hW];exact LZ _ _ _ (by simp)
 have HX:=Z5 (Hi x0 y0);have hiW:=hi.af hbW;have hmW:=hmod.af hbW;clear hW x0 y0;refine (rC P M am mn cm mod cols a n c L W hmW hiW).mono ?_;rintro e w1 ⟨rfl,hb1⟩;have hbw1:=LY hbW hb1;by_cases hE : e9 P M mod cols L=0
 ·obtain ⟨hB,hm⟩:=yu hE;obtain ⟨m,rfl,hrf,hmods⟩:=en hB;obtain ⟨k,rfl,hk,hl,hR⟩:=kG hm;have HE : Hid (fs P m mod k L=if tb (jF P m mod) L k=L then 0 else 5):=by show _=_;rw [fs,GV hE,GW,GW]
  rw [hE];have hinv:=Hinv.out hB;rw [GW] at hinv;have hRw : bG (eo P m) k L:=λr hr=>⟨(hR r hr).1,λx hx=>by have:=(hR r hr).2 x hx;rw [hrf.order] at this;exact this⟩
  have x1:=HX.out.1.af hb1;have y1:=HX.out.2.af hb1;have d0:=x1.cell 0 rfl;have d1:=x1.cell 1 rfl;have d2:=x1.cell 2 rfl;have d3:=y1.cell 0 rfl;have d4:=y1.cell 1 rfl;have hm1:=hmW.af hb1;have hi1:=hiW.af hb1;have hn : n<=1000000:=by rw [<- Hlen.out];omega
  have HC:=Z5 (qu P m am mn cm mod a n c k L w1 ⟨hrf,hmods w1 am mn hm1⟩ hi1 hRw (by omega) hn hinv);clear hE hB hm hmods hR hinv hRw x1 y1;obtain ⟨O,hO⟩ : ∃O,jF P m mod=O:=⟨_,rfl⟩
  rw [hO] at HC HE;clear hO;go_wp2_with fail;refine HC.out.mono ?_;rintro e w2 ⟨a2,c2,ap,cp,rfl,hM2,hp2,hb2⟩;have hbw2:=LY hbw1 hb2;have y2:=(HX.out.2.af hb1).af hb2;have d3:=y2.cell 0 rfl;have d4:=y2.cell 1 rfl;have hi2:=hi1.af hb2;have hM3:=hM2.jX;have HS:=Z5 (lj a2 (aC O L k).2.length c2 (tb O L k) a n c L hM3 hi2);clear hM2 hp2 y2;generalize (aC O L k).2.length=kk at *;by_cases hc : tb O L k=L
  ·have hc' : decide (tb O L k=L)=true:=by simpa using hc
   have HF : Hid (fs P m mod k L=0):=by show _=_;rw [HE.out,GV hc]
   rw [hc'] at HS;clear hc hc';go_wp2_with fail;refine HS.out.mono ?_;rintro e w3 ⟨rfl,hd3⟩;go_wp2_with fail;go_ret;exact ⟨aK HF.out.symm,LY hbw2 hd3.below⟩
  ·have hc' : decide (tb O L k=L)=false:=by simpa using hc
   have HF : Hid (fs P m mod k L=5):=by show _=_;rw [HE.out,GU hc]
   rw [hc'] at HS;clear hc hc';go_wp2_with fail;refine HS.out.mono ?_;rintro e w3 ⟨rfl,hd3⟩;go_wp2_with fail;go_ret;exact ⟨aK HF.out.symm,LY hbw2 hd3.below⟩
 ·have HE : Hid (fs P M mod cols L=e9 P M mod cols L):=by show _=_;rw [fs,GU hE]
  have hE' : (e9 P M mod cols L != 0)=true:=by simpa using hE
  clear hE;go_wp2_with fail;go_ret;exact ⟨aK HE.out.symm,hbw1⟩
theorem D2 {N : Int} (h : N<1) : gK N=4:=by rw [gK,GV (.inl h)]
theorem E2 {N : Int} (h : 64<N) : gK N=4:=by rw [gK,GV (.inr h)]
theorem o0 {N : Int} (h1 : ¬ N<1) (h2 : ¬ 64<N) : gK N=0:=by rw [gK,GU (by omega)]
def iX (P M : Int) (mod : LI) (N : Int) (L : Ll) : Int :=
 if br P M mod=true then (if gK N=0 then fs P M mod N L else 4) else 1
theorem kq (P M : Int) (am : OA) (mn cm : Nat) (mod : LI) (N : Int) (a : OA) (n c : Nat) (L : Ll) (w : World) (hmod : Ints w am mn mod) (hi : bC w a n L)
  (hinv : br P M mod=true->∀p,eo P M.toNat p->p ≠ 0->(fP P M.toNat mod p=1 ↔ p=1)) :
  Calls prog 35 #[.agg #[.int .i64 P,.int .i64 M,.slice am mn cm,.int .i64 N,.slice a n c]] w λe w'=>e = .returned (.int .i64 (iX P M mod N L))/\Mv w w':=by
 have Hinv:=Z5 hinv;clear hinv;go_enter func35,ntmps35;go_wp2_with fail;obtain ⟨W,hW⟩ : ∃W : World,W=w.alloc (.cells #[.int .i64 P,.int .i64 M,.slice am mn cm,.int .i64 N,.slice a n c] 27):=⟨_,rfl⟩
 rw [<- hW];have hbW : Mv w W:=by rw [hW];exact an _ _
 have x0 : aO W w.heap.size [.int .i64 P,.int .i64 M,.slice am mn cm,.int .i64 N,.slice a n c]:=by rw [hW];exact LZ _ _ _ rfl
 have HX:=Z5 x0;clear hW x0;refine (jT P M am mn cm mod W (hmod.af hbW)).mono ?_;rintro e w1 ⟨rfl,hb1⟩;have hbw1:=LY hbW hb1;by_cases hB : br P M mod=true
 ·have hE : bT (br P M mod)=0:=by rw [hB];rfl
  rw [hE];have HB : Hid (iX P M mod N L=if gK N=0 then fs P M mod N L else 4):=by show _=_;rw [iX,GV hB]
  have x1:=HX.out.af hb1;have c0:=x1.cell 0 rfl;have c1:=x1.cell 1 rfl;have c2:=x1.cell 2 rfl;have c3:=x1.cell 3 rfl;have c4:=x1.cell 4 rfl;have hm1:=(hmod.af hbW).af hb1;have hi1:=(hi.af hbW).af hb1;clear hE hB x1;by_cases h1 : N<1
  ·have Hf : Hid (iX P M mod N L=4):=by show _=_;rw [HB.out,D2 h1];rfl
   have t1 : decide (N<1)=true:=by simpa using h1
   go_wp2_with fail;go_ret;exact ⟨aK Hf.out.symm,hbw1⟩
  ·have t1 : decide (N<1)=false:=by simpa using h1
   by_cases h2 : 64<N
   ·have Hf : Hid (iX P M mod N L=4):=by show _=_;rw [HB.out,E2 h2];rfl
    have t2 : decide (64<N)=true:=by simpa using h2
    go_wp2_with fail;go_ret;exact ⟨aK Hf.out.symm,hbw1⟩
   ·have t2 : decide (64<N)=false:=by simpa using h2
    have Hf : Hid (iX P M mod N L=fs P M mod N L):=by show _=_;rw [HB.out,o0 h1 h2,GV rfl]
    clear h1 h2;go_wp2_with fail;refine (ow P M am mn cm mod N a n c L w1 hm1 hi1 Hinv.out).mono ?_;rintro e w2 ⟨rfl,hb2⟩;go_wp2_with fail;go_ret;exact ⟨aK Hf.out.symm,LY hbw1 hb2⟩
 ·have hB' : br P M mod=false:=by simpa using hB
  have Hf : Hid (iX P M mod N L=1):=by show _=_;rw [iX,GU hB]
  have hE : bT (br P M mod)=1:=by rw [hB'];rfl
  rw [hE];clear hB hB' hE;go_wp2_with fail;go_ret;exact ⟨aK Hf.out.symm,hbw1⟩
end Go.Proofs.YthglbncgemdcbaaGreat
