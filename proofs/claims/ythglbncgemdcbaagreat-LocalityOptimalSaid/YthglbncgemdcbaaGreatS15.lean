import Derived.Test.YthglbncgemdcbaaGreatS11
import Derived.Test.YthglbncgemdcbaaGreatS13
import Derived.Test.YthglbncgemdcbaaGreatS14
namespace Go.Proofs.YthglbncgemdcbaaGreat
set_option linter.all false
set_option maxRecDepth 100000
set_option maxHeartbeats 4000000
open Go.RowKit Go.Proofs.Tryz
section
variable {O : aL} {El : Int->Prop} {m n : Nat}
theorem nZ.smul (F : bF O El) {φ : Lz->Int} (h : nZ O El n φ) {s : Int} (hs : El s) : nZ O El n (λv=>O.mul s (φ v)) :=
 ⟨λv hv=>F.cl.mul _ _ hs (h.el v hv),
  λv r x hv hr hx=>by show O.mul s (φ (ez O v x r))=O.add (O.mul s (φ v)) (O.neg (O.mul x (O.mul s (φ r))));have h1:=h.el v hv;have h2:=h.el r hr;rw [h.sub v r x hv hr hx,F.mul_add s _ _ hs h1 (F.cl.neg _ (F.cl.mul _ _ hx h2)),F.mul_neg hs (F.cl.mul _ _ hx h2),<- F.mul_assoc s x _ hs hx h2,F.mul_comm s x hs hx,F.mul_assoc x s _ hx hs h2],
  λr x hr hx=>by show O.mul s (φ (r.map (O.mul x)))=O.mul x (O.mul s (φ r));have h2:=h.el r hr;rw [h.Im r x hr hx,<- F.mul_assoc s x _ hs hx h2,F.mul_comm s x hs hx,F.mul_assoc x s _ hx hs h2]⟩
theorem eO (g : Nat->Int) (k i : Nat) (hi : i<k) : nth ((List.range k).map g) i=g i:=by rw [aj (by simpa using hi)];simp
theorem nZ.vec {k : Nat} {e : Lz->Int} (he : nZ O El k e) (g : Nat->Lz->Int) (hg : ∀i,i<k->nZ O El n (g i)) : nZ O El n (λv=>e ((List.range k).map λi=>g i v)):=by
 have hv' : ∀v,Vc El n v->Vc El k ((List.range k).map λi=>g i v):=λv hv=>⟨by simp,λy hy=>by obtain ⟨i,hi,rfl⟩:=List.mem_map.1 hy;exact (hg i (List.mem_range.1 hi)).el v hv⟩
 refine ⟨λv hv=>he.el _ (hv' v hv),λv r x hv hr hx=>?_,λr x hr hx=>?_⟩
 ·show e _=_;rw [<- he.sub _ _ x (hv' v hv) (hv' r hr) hx];congr 1;refine jn (by rw [fZ _ _ _ _ (by simp)];simp) λi hi=>?_;have hi' : i<k:=by simpa using hi
  rw [ga O _ x _ i (by simp) (by simpa using hi'),eO _ _ _ hi',eO _ _ _ hi',eO _ _ _ hi'];exact (hg i hi').sub v r x hv hr hx
 ·show e _=_;rw [<- he.Im _ x (hv' r hr) hx];congr 1;refine jn (by simp) λi hi=>?_;have hi' : i<k:=by simpa using hi
  rw [ml O _ x (by simpa using hi'),eO _ _ _ hi',eO _ _ _ hi'];exact (hg i hi').Im r x hr hx
def RS (O : aL) (El : Int->Prop) (m : Nat) (L : ZZ) (f : Nat->Int) : Prop:=∃e,nZ O El L.length e/\∀x,x<m->f x=e (aR L x)
theorem RS.row (F : bF O El) {L : ZZ} {i : Nat} (hi : i<L.length) : RS O El m L (λx=>nth (ai L i) x) :=
 ⟨λv=>nth v i,nZ.FI F hi,λx _=>(cI L x i hi).symm⟩
theorem RS.comb (F : bF O El) {L : ZZ} {f g : Nat->Int} (hf : RS O El m L f) (hg : RS O El m L g) {s : Int} (hs : El s) : RS O El m L (λx=>O.add (f x) (O.neg (O.mul (g x) s))):=by obtain ⟨a,ha,ha2⟩:=hf;obtain ⟨b,hb,hb2⟩:=hg;exact ⟨_,ha.comb F hb hs,λx hx=>by show O.add (f x) _=_;rw [ha2 x hx,hb2 x hx]⟩
theorem RS.smul (F : bF O El) {L : ZZ} {f : Nat->Int} (hf : RS O El m L f) {s : Int} (hs : El s) : RS O El m L (λx=>O.mul s (f x)):=by obtain ⟨a,ha,ha2⟩:=hf;exact ⟨_,ha.smul F hs,λx hx=>by show O.mul s (f x)=_;rw [ha2 x hx]⟩
theorem RS.congr {L : ZZ} {f g : Nat->Int} (hf : RS O El m L f) (h : ∀x,x<m->g x=f x) : RS O El m L g:=by obtain ⟨a,ha,ha2⟩:=hf;exact ⟨a,ha,λx hx=>by rw [h x hx,ha2 x hx]⟩
def fE (O : aL) (El : Int->Prop) (m : Nat) (A B : ZZ) : Prop:=∀i,i<A.length->RS O El m B (λx=>nth (ai A i) x)
theorem fE.refl (F : bF O El) (L : ZZ) : fE O El m L L:=λ_ hi=>.row F hi
theorem fE.rs {A B : ZZ} (h : fE O El m A B) {f : Nat->Int} (hf : RS O El m A f) : RS O El m B f:=by
 obtain ⟨e,he,he2⟩:=hf;obtain ⟨g,hg⟩ : ∃g : Nat->Lz->Int,∀i,i<A.length->nZ O El B.length (g i)/\∀x,x<m->nth (ai A i) x=g i (aR B x):=by
  have h2 : ∀i,∃g : Lz->Int,i<A.length->nZ O El B.length g/\∀x,x<m->nth (ai A i) x=g (aR B x):=λi=>by
   by_cases hi : i<A.length
   ·obtain ⟨g,h1,h2⟩:=h i hi;exact ⟨g,λ_=>⟨h1,h2⟩⟩
   ·exact ⟨λ_=>0,λh=>absurd h hi⟩
  exact ⟨λi=>Classical.choose (h2 i),λi hi=>Classical.choose_spec (h2 i) hi⟩
 refine ⟨_,he.vec g λi hi=>(hg i hi).1,λx hx=>?_⟩;rw [he2 x hx];congr 1;refine jn (by simp [db]) λi hi=>?_;rw [db] at hi;rw [eO _ _ _ hi,cI A x i hi];exact (hg i hi).2 x hx
theorem fE.trans {A B C : ZZ} (h : fE O El m A B) (h2 : fE O El m B C) : fE O El m A C:=λi hi=>h2.rs (h i hi)
theorem fE.cl {A B : ZZ} (h : fE O El m A B) {l : Z6} {x : Nat} (hl : ∀y ∈ l,y<m) (hx : x<m) (hc : jE O El B.length (aR B) l x) : jE O El A.length (aR A) l x:=by intro φ hφ h0;obtain ⟨e,he,he2⟩:=h.rs (f:=λx=>φ (aR A x)) ⟨φ,hφ,λ_ _=>rfl⟩;have e1 : φ (aR A x)=e (aR B x):=he2 x hx;rw [e1];refine hc e he λy hy=>?_;rw [<- he2 y (hl y hy)];exact h0 y hy
structure mg (L : ZZ) (P : Lz) (c : Nat) : Prop where
 le : P.length<=L.length
 lt : ∀j,j<P.length->0<=nth P j/\nth P j<c
 one : ∀j i,j<P.length->i<L.length->nth (ai L i) (nth P j).toNat=if i=j then 1 else 0
 zero : ∀i x,P.length<=i->i<L.length->x<c->nth (ai L i) x=0
def sw (t k i : Nat) : Nat:=if i=t then k else if i=k then t else i
theorem Mt {t k n i : Nat} (ht : t<n) (hk : k<n) (hi : i<n) : sw t k i<n:=by unfold sw;split;exact hk;split;exact ht;exact hi
theorem K9 {L : ZZ} {t k : Nat} (ht : t<L.length) (hk : k<L.length) (i : Nat) : ai (if k=t then L else bt L t k) i=ai L (sw t k i):=by
 unfold sw bt;split
 ·rename_i e;subst e;split
  ·rename_i e;rw [e]
  ·rfl
 ·rename_i hne;rw [eH _ _ _ _ (by simpa using hk),eH _ _ _ _ ht];by_cases h1 : i=t
  ·rw [Nf (by omega),Nd h1,Nd h1]
  ·rw [Nf h1,Nf h1];by_cases h2 : i=k
   ·rw [Nd h2,Nd h2]
   ·rw [Nf h2,Nf h2]
theorem IE (F : bF O El) {L : ZZ} (hL : bp El m L) {t c : Nat} (ht : t<L.length) {i x : Nat} (hx : x<m) :
  nth (ai (bH O L t c) i) x=if i=t then O.mul (O.inv (nth (ai L t) c)) (nth (ai L t) x) else nth (ai L i) x:=by
 have hr:=hL.row ht;have he : El (nth (ai L t) x):=hr.2 _ (aH (by rw [hr.1];exact hx));unfold bH;split
 ·rename_i h1;split
  ·rename_i e;rw [e,h1,F.one_mul _ he]
  ·rfl
 ·rw [eH _ _ _ _ ht];split
  ·exact ml O _ _ (by rw [hr.1];exact hx)
  ·rfl
theorem xF (O : aL) (t c : Nat) (L : ZZ) : ∀i,i<=L.length->∀j,ai (clearTo O t c L i) j=if j<i/\j ≠ t then di O (ai L t) c (ai L j) else ai L j
 | 0,_,j=>by rw [Nf (by omega)];rfl
 | i+1,hi,j=>by
  have ih:=xF O t c L i (by omega);unfold clearTo;split
  ·rename_i e;rw [ih j];by_cases h : j<i/\j ≠ t
   ·rw [Nd h,Nd ⟨by omega,h.2⟩]
   ·rw [Nf h,Nf (by omega)]
  ·rename_i e;have e1 : ai (clearTo O t c L i) t=ai L t:=by rw [ih t,Nf (by omega)]
   have e2 : ai (clearTo O t c L i) i=ai L i:=by rw [ih i,Nf (by omega)]
   rw [eH _ _ _ _ (by rw [en];omega),e1,e2];by_cases h : j=i
   ·subst h;rw [Nd rfl,Nd ⟨by omega,e⟩]
   ·rw [Nf h,ih j];by_cases h2 : j<i/\j ≠ t
    ·rw [Nd h2,Nd ⟨by omega,h2.2⟩]
    ·rw [Nf h2,Nf (by omega)]
theorem AB (F : bF O El) {pv r : Lz} {c x : Nat} (hp : Vc El m pv) (hr : Vc El m r) (hc : c<m) (hx : x<m) :
  nth (di O pv c r) x=O.add (nth r x) (O.neg (O.mul (nth pv x) (nth r c))):=by
 have h1:=hp.at hx;have h2:=hr.at hx;have h3:=hr.at hc;unfold di;split
 ·rename_i h0;rw [h0,F.cQ h1,F.dR,F.add_zero _ h2]
 ·rw [gP O r _ pv x (by rw [hp.1,hr.1]) (by rw [hr.1];exact hx)];split
  ·rename_i h0;rw [h0,F.iS h3,F.dR,F.add_zero _ h2]
  ·rw [F.neg_mul h3 h1,F.mul_comm _ _ h3 h1]
section
variable {L : ZZ} {t k c : Nat}
theorem gN (F : bF O El) (hL : bp El m L) (ht : t<L.length) (hk : k<L.length) (hc : c<m) (h0 : nth (ai L k) c ≠ 0) {i x : Nat} (hi : i<L.length) (hx : x<m) :
  nth (ai (fo O L t k c) i) x=if i=t then O.mul (O.inv (nth (ai L k) c)) (nth (ai L k) x) else
   O.add (nth (ai L (sw t k i)) x) (O.neg (O.mul (O.mul (O.inv (nth (ai L k) c)) (nth (ai L k) x)) (nth (ai L (sw t k i)) c))):=by
 rw [lf];obtain ⟨L1,hL1⟩ : ∃L1,(if k=t then L else bt L t k)=L1:=⟨_,rfl⟩
 have hn1 : ∀i,ai L1 i=ai L (sw t k i):=λi=>by rw [<- hL1];exact K9 ht hk i
 have hl1 : L1.length=L.length:=by rw [<- hL1];split <;> simp [bM]
 have hR1 : bp El m L1:=by
  rw [<- hL1];split
  ·exact hL
  ·exact hL.swap ht hk
 have hswt : sw t k t=k:=by simp [sw]
 have h01 : nth (ai L1 t) c ≠ 0:=by rw [hn1,hswt];exact h0
 rw [hL1];have hR2 : bp El m (bH O L1 t c):=hR1.norm F.cl (by omega) hc h01;have hN : ∀ {i x : Nat},x<m->nth (ai (bH O L1 t c) i) x=if i=t then O.mul (O.inv (nth (ai L1 t) c)) (nth (ai L1 t) x) else nth (ai L1 i) x:=λhx=>IE F hR1 (by omega) hx
 rw [xF O t c _ L.length (by rw [ek];omega)];by_cases e : i=t
 ·rw [Nf (by omega),Nd e,hN hx,Nd e,hn1,hswt]
 ·rw [Nd ⟨hi,e⟩,Nf e,AB F (hR2.row (by rw [ek];omega)) (hR2.row (by rw [ek];omega)) hc hx,hN hx,hN hx,hN hc,Nf e,Nf e,Nd rfl,hn1,hn1,hswt]
variable (F : bF O El) (hL : bp El m L) (ht : t<L.length) (hk : k<L.length) (hc : c<m) (h0 : nth (ai L k) c ≠ 0)
include F hL ht hk hc h0
theorem DS : fE O El m (fo O L t k c) L:=by
 intro i hi;rw [gd] at hi;have hp : El (nth (ai L k) c):=Sc (hL.row hk) hc;have hpi:=F.cl.inv _ hp h0;by_cases e : i=t
 ·exact ((RS.row F hk).smul F hpi).congr λx hx=>by rw [gN F hL ht hk hc h0 hi hx,Nd e]
 ·have hs:=Mt ht hk hi;exact ((RS.row F hs).comb F ((RS.row F hk).smul F hpi) (s:=nth (ai L (sw t k i)) c) (Sc (hL.row hs) hc)).congr λx hx=>by rw [gN F hL ht hk hc h0 hi hx,Nf e]
theorem Ea : fE O El m L (fo O L t k c):=by
 intro i hi;have hp : El (nth (ai L k) c):=Sc (hL.row hk) hc;have hpi:=F.cl.inv _ hp h0;have htB : t<(fo O L t k c).length:=by rw [gd];exact ht
 by_cases e : i=k
 ·refine ((RS.row F htB).smul F hp).congr λx hx=>?_;have hx1 : El (nth (ai L k) x):=Sc (hL.row hk) hx;rw [gN F hL ht hk hc h0 ht hx,Nd rfl,<- F.mul_assoc _ _ _ hp hpi hx1,F.mul_inv _ hp h0,F.one_mul _ hx1,e]
 ·have hj : ∃j,j<L.length/\j ≠ t/\sw t k j=i:=by
   by_cases e2 : i=t
   ·exact ⟨k,hk,by omega,by unfold sw;rw [Nf (by omega),Nd rfl,e2]⟩
   ·exact ⟨i,hi,e2,by unfold sw;rw [Nf e2,Nf e]⟩
  obtain ⟨j,hj,hjt,hsw⟩:=hj;have hs : El (nth (ai L i) c):=Sc (hL.row hi) hc;refine ((RS.row F (i:=j) (by rw [gd];exact hj)).comb F (RS.row F htB) (s:=O.neg (nth (ai L i) c)) (F.cl.neg _ hs)).congr λx hx=>?_;have hx1 : El (nth (ai L k) x):=Sc (hL.row hk) hx;have hx2 : El (nth (ai L i) x):=Sc (hL.row hi) hx;have hy:=F.cl.mul _ _ hpi hx1;have hq:=F.cl.mul _ _ hy hs;rw [gN F hL ht hk hc h0 ht hx,Nd rfl,gN F hL ht hk hc h0 hj hx,Nf hjt,hsw,F.mul_neg hy hs,F.neg_neg hq,F.add_assoc _ _ _ hx2 (F.cl.neg _ hq) hq,F.lB hq,F.add_zero _ hx2]
end
theorem mg.next (F : bF O El) {L : ZZ} {P : Lz} {c k : Nat} (h : mg L P c) (hL : bp El m L) (hc : c<m) (ht : P.length<L.length) (hk : k<L.length) (htk : P.length<=k) (h0 : nth (ai L k) c ≠ 0) :
  mg (fo O L P.length k c) (P ++ [(c : Int)]) (c+1):=by
 have hp : El (nth (ai L k) c):=Sc (hL.row hk) hc;have hpi:=F.cl.inv _ hp h0;have hsw : ∀i,P.length<=i->i<L.length->P.length<=sw P.length k i/\sw P.length k i<L.length:=λi h1 h2=>by unfold sw;split;omega;split <;> omega
 have hswl : ∀i,i<P.length->sw P.length k i=i:=λi h1=>by unfold sw;rw [Nf (by omega),Nf (by omega)]
 refine ⟨by rw [gd,Nl];simp;omega,λj hj=>?_,λj i hj hi=>?_,λi x h1 h2 hx=>?_⟩
 ·rw [kB];rw [Nl,ND] at hj;by_cases e : j<P.length
  ·rw [Nd e];have:=h.lt j e;omega
  ·rw [Nf e,Nd (by omega)];omega
 ·rw [Nl,ND] at hj;rw [gd] at hi;rw [kB];by_cases e : j<P.length
  ·rw [Nd e];have hb:=h.lt j e;have hx : (nth P j).toNat<m:=by omega
   have hk0:=h.one j k e hk;rw [Nf (by omega)] at hk0;rw [gN F hL ht hk hc h0 hi hx,hk0,F.cQ hpi];by_cases e2 : i=P.length
   ·rw [Nd e2,Nf (by omega)]
   ·rw [Nf e2];have hsl : sw P.length k i<L.length:=by unfold sw;split;omega;split <;> omega
    rw [F.iS (Sc (hL.row hsl) hc),F.dR,F.add_zero _ (Sc (hL.row hsl) hx),h.one j _ e hsl];by_cases e3 : i<P.length
    ·rw [hswl i e3]
    ·have:=(hsw i (by omega) hi).1;rw [Nf (by omega),Nf (by omega)]
  ·have ej : j=P.length:=by omega
   rw [Nf e,Nd ej,Nb,gN F hL ht hk hc h0 hi hc,ej];by_cases e2 : i=P.length
   ·rw [Nd e2,Nd e2,F.mul_comm _ _ hpi hp,F.mul_inv _ hp h0]
   ·rw [Nf e2,Nf e2];have hsl : sw P.length k i<L.length:=by unfold sw;split;omega;split <;> omega
    have hq : El (nth (ai L (sw P.length k i)) c):=Sc (hL.row hsl) hc;rw [F.mul_comm _ _ hpi hp,F.mul_inv _ hp h0,F.one_mul _ hq,F.add_neg _ hq]
 ·rw [Nl,ND] at h1;rw [gd] at h2;have hxm : x<m:=by omega
  have hs:=hsw i (by omega) h2;have hq : El (nth (ai L (sw P.length k i)) c):=Sc (hL.row hs.2) hc;rw [gN F hL ht hk hc h0 h2 hxm,Nf (by omega)];by_cases e : x=c
  ·subst e;rw [F.mul_comm _ _ hpi hp,F.mul_inv _ hp h0,F.one_mul _ hq,F.add_neg _ hq]
  ·rw [h.zero _ x hs.1 hs.2 (by omega),h.zero k x htk hk (by omega),F.cQ hpi,F.iS hq,F.dR,F.add_zero 0 F.zero]
theorem iF (F : bF O El) {L : ZZ} (hL : bp El m L) (k : Nat) (hk : k<=m) : bp El m (aD O L k).1 :=
 (iN (O':=O) ⟨λ_ _ _ _=>rfl,λ_ _ _ _=>rfl,λ_ _=>rfl,λ_ _ _=>rfl⟩ F.cl hL k hk).2
theorem gy (F : bF O El) {L : ZZ} (hL : bp El m L) : ∀k,k<=m->mg (aD O L k).1 (aD O L k).2 k/\fE O El m (aD O L k).1 L/\fE O El m L (aD O L k).1
 | 0,_=>⟨⟨Ni _,λj hj=>by simp [aD] at hj,λj i hj=>by simp [aD] at hj,λi x _ _ hx=>by omega⟩,.refl F L,.refl F L⟩
 | k+1,hk=>by
  obtain ⟨h1,h2,h3⟩:=gy F hL k (by omega);have hR:=iF F hL k (by omega);have hb:=n8 (L:=(aD O L k).1) (c:=k) (k:=(aD O L k).2.length) h1.le;by_cases hlt : (aD O L k).2.length<(aD O L k).1.length
  ·rw [fR (Lk:=(aD O L k).1) (P:=(aD O L k).2) rfl hlt];split
   ·rename_i hf;refine ⟨⟨h1.le,λj hj=>⟨(h1.lt j hj).1,Int.lt_trans (h1.lt j hj).2 (by omega)⟩,h1.one,λi x hi1 hi2 hx=>?_⟩,h2,h3⟩;by_cases e : x=k
    ·subst e;exact mj _ x ((aD O L x).1.length - (aD O L x).2.length) _ i hi1 (by show i<bh _ x _;rw [hf];exact hi2)
    ·exact h1.zero i x hi1 hi2 (by omega)
   ·rename_i hf;have hfl : bh (aD O L k).1 k (aD O L k).2.length<(aD O L k).1.length:=by omega
    have hne : nth (ai (aD O L k).1 (bh (aD O L k).1 k (aD O L k).2.length)) k ≠ 0:=ky _ k _ _ (by show bh _ k _<_;omega);exact ⟨h1.next F hR (by omega) hlt hfl hb.1 hne,(DS F hR hlt hfl (by omega) hne).trans h2,h3.trans (Ea F hR hlt hfl (by omega) hne)⟩
  ·have hfull : (aD O L k).2.length=L.length:=by have:=bX O L k;have:=h1.le;omega
   rw [jw hfull 1];have hl:=bX O L k;exact ⟨⟨h1.le,λj hj=>by have:=h1.lt j hj;omega,h1.one,λi x hi1 hi2 hx=>by omega⟩,h2,h3⟩
theorem mg.ind (F : bF O El) {L : ZZ} {P : Lz} {c : Nat} (h : mg L P c) : ∀k,k<=P.length->Rk (jE O El L.length (aR L)) (kz P k) k
 | 0,_=>.nil
 | k+1,hk=>by
  rw [kz];refine .ind _ (λhc=>?_) (h.ind F k (by omega));have hkl:=h.le;have h1:=hc (λv=>nth v k) (nZ.FI F (by omega)) λy hy=>by obtain ⟨j,hj,rfl⟩:=(ey P y k).1 hy;show nth (aR L _) k=0;rw [cI L _ k (by omega),h.one j k (by omega) (by omega),Nf (by omega)]
  have h2 : nth (aR L (nth P k).toNat) k=0:=h1;rw [cI L _ k (by omega),h.one k k (by omega) (by omega),Nd rfl] at h2;exact absurd h2 (by decide)
def kO (O : aL) (L : ZZ) (P : Lz) (v : Lz) : Nat->Lz
 | 0=>v
 | k+1=>ez O (kO O L P v k) (nth (kO O L P v k) k) (aR L (nth P k).toNat)
theorem mg.less (F : bF O El) {L : ZZ} {P : Lz} {c : Nat} (h : mg L P c) (hL : bp El m L) {v : Lz} (hv : Vc El L.length v) {φ : Lz->Int} (hφ : nZ O El L.length φ)
  (h0 : ∀j,j<P.length->φ (aR L (nth P j).toNat)=0) : ∀k,k<=P.length->Vc El L.length (kO O L P v k)/\φ (kO O L P v k)=φ v/\∀i,i<L.length->nth (kO O L P v k) i=if i<k then 0 else nth v i
 | 0,_=>⟨hv,rfl,λi _=>by rw [Nf (by omega)];rfl⟩
 | k+1,hk=>by
  obtain ⟨h1,h2,h3⟩:=h.less F hL hv hφ h0 k (by omega);have hle:=h.le;have hcol:=cH hL F.zero (nth P k).toNat;have hx:=h1.at (i:=k) (by omega);refine ⟨h1.sub F hcol hx,?_,λi hi=>?_⟩
  ·rw [kO,hφ.sub _ _ _ h1 hcol hx,h0 k (by omega),F.cQ hx,F.dR,F.add_zero _ (hφ.el _ h1),h2]
  ·rw [kO,ga O _ _ _ i (by rw [hcol.1,h1.1]) (by rw [h1.1];exact hi),cI L _ i hi,h.one k i (by omega) hi];by_cases e : i=k
   ·subst e;rw [Nd rfl,F.ie hx,F.add_neg _ hx,Nd (by omega)]
   ·rw [Nf e,F.cQ hx,F.dR,F.add_zero _ (h1.at hi),h3 i hi];by_cases e2 : i<k
    ·rw [Nd e2,Nd (by omega)]
    ·rw [Nf e2,Nf (by omega)]
theorem mg.all (F : bF O El) {L : ZZ} {P : Lz} (h : mg L P m) (hL : bp El m L) {x : Nat} (hx : x<m) : jE O El L.length (aR L) (kz P P.length) x:=by
 intro φ hφ h0;obtain ⟨h1,h2,h3⟩:=h.less F hL (cH hL F.zero x) hφ (λj hj=>h0 _ ((ey P _ _).2 ⟨j,hj,rfl⟩)) _ (Na _);rw [<- h2];refine hφ.zero F h1 λi hi=>?_;rw [h3 i hi];split
 ·rfl
 ·rw [cI L x i hi];exact h.zero i x (by omega) hi hx
theorem Rk.map {cl cl' : Z6->Nat->Prop} (D : Nat->Prop) (f : Nat->Nat) (hc : ∀l x,(∀y ∈ l,D y)->D x->(cl l x ↔ cl' (l.map f) (f x))) {l : Z6} {r : Nat} (h : Rk cl l r) : (∀y ∈ l,D y)->Rk cl' (l.map f) r:=by
 induction h with
 | nil=>intro _;exact .nil
 | dep x hx _ ih =>
  intro hD
  exact .dep _ ((hc _ _ (λy hy=>hD y (List.mem_cons.2 (.inr hy))) (hD x (by simp))).1 hx) (ih λy hy=>hD y (List.mem_cons.2 (.inr hy)))
 | ind x hx _ ih =>
  intro hD
  exact .ind _ (λh=>hx ((hc _ _ (λy hy=>hD y (List.mem_cons.2 (.inr hy))) (hD x (by simp))).2 h)) (ih λy hy=>hD y (List.mem_cons.2 (.inr hy)))
theorem Dh (F : bF O El) {L : ZZ} (hL : bp El m L) : Rk (jE O El L.length (aR L)) (List.range m) (aD O L m).2.length:=by
 obtain ⟨h1,h2,h3⟩:=gy F hL m (Na _);have hR:=iF F hL m (Na _);have hC:=fM F hR;have k1:=(h1.ind F _ (Na _)).Dn hC (List.range m) λx hx=>h1.all F hR (List.mem_range.1 hx);have k2:=Rk.map (cl':=jE O El L.length (aR L)) (λy=>y<m) id (λl x hl hx=>by rw [PM];exact ⟨h3.cl hl hx,h2.cl hl hx⟩) k1 λy hy=>by
  rcases List.mem_append.1 hy with hy | hy
  ·exact List.mem_range.1 hy
  ·obtain ⟨j,hj,rfl⟩:=(ey _ _ _).1 hy;have:=h1.lt j hj;omega
 obtain ⟨r,hr⟩:=SU (jE O El L.length (aR L)) (List.range m);have e:=SC (fM F hL) k2 hr λx=>by
  rw [PM,Ol];constructor
  ·rintro (h | h)
   ·exact h
   ·obtain ⟨j,hj,rfl⟩:=(ey _ _ _).1 h;have:=h1.lt j hj;exact List.mem_range.2 (by omega)
  ·exact .inl
 rw [e];exact hr
end
theorem fX (a : OA) (n c : Nat) (l : Lz) (a' : OA) (n' c' : Nat) (l' : Lz) {w : World} (h : Ints w a n l) (h' : Ints w a' n' l') :
  Calls prog 19 #[.slice a n c,.slice a' n' c'] w (i6 w (decide (l=l'))):=by
 have Hl:=Z5 h.len;have Hl':=Z5 h'.len;have hpl:=h.pl;have hpl':=h'.pl;have hmax:=h.max;unfold maxLen at hmax;by_cases hn : n=n'
 ·subst hn;have hnn : ((n : Int) != n)=false:=by simp
  go_enter func19,ntmps19;go_wp2_with fail;go_loopw [5] (λiv wr=>∃k : Nat,k<=n/\iv = .int .i64 k/\Hid (l.take k=l'.take k)/\bf w wr) (λi _=>n - (intOf i).toNat);case atStart=>exact ⟨0,Ni _,rfl,rfl,Sf _⟩
  case round =>
   obtain ⟨k,hk,rfl,htk,hd⟩:=hrel
   by_cases hlt : k<n
   ·have c1:=(h.drawn hd).cell k hlt
    have c2:=(h'.drawn hd).cell k hlt
    by_cases he : nth l k=nth l' k
    ·have he' : (nth l k != nth l' k)=false:=by simpa using he
     have Hs : Hid (l.take (k+1)=l'.take (k+1)):=ug htk.out (by rw [Hl.out];exact hlt) (by rw [Hl'.out];exact hlt) he
     clear he
     go_wp2_with fail
     go_quiet (fail)
     go_wp2
     go_roundw
     case rel=>exact ⟨k+1,by omega,by go_num,Hs.out,hd.drewN _⟩
     case measure=>simp [intOf] <;> omega
    ·have he' : (nth l k != nth l' k)=true:=by simpa using he
     have Hs : Hid (decide (l=l')=false):=by show _=_;simp;intro e;exact he (by rw [e])
     clear he
     go_wp2_with fail
     go_quiet (fail)
     go_wp2
     go_ret
     exact ⟨aZ Hs.out.symm,hd.drewN _⟩
   ·obtain rfl : k=n:=by omega
    have Hs : Hid (decide (l=l')=true):=by show _=_;have:=htk.out;rw [No (by rw [Hl.out];exact Na _),No (by rw [Hl'.out];exact Na _)] at this;simpa using this
    go_wp2_with fail
    go_ret
    exact ⟨aZ Hs.out.symm,hd⟩
 ·have hnn : ((n : Int) != n')=true:=by simp;omega
  have Hs : Hid (decide (l=l')=false):=by show _=_;simp;intro e;have e1:=Hl.out;have e2:=Hl'.out;rw [e] at e1;omega
  clear hn;go_enter func19,ntmps19;go_wp2_with fail;go_ret;exact ⟨aZ Hs.out.symm,Sf _⟩
theorem kb (a : OA) (n c : Nat) (l : ZZ) (a' : OA) (n' c' : Nat) (l' : ZZ) {w : World} (h : br w a n l) (h' : br w a' n' l') :
  Calls prog 44 #[.slice a n c,.slice a' n' c'] w (i6 w (decide (l=l'))):=by
 have Hl:=Z5 h.len;have Hl':=Z5 h'.len;have hpl:=h.pl;have hpl':=h'.pl;have hmax:=h.max;unfold maxLen at hmax;by_cases hn : n=n'
 ·subst hn;have hnn : ((n : Int) != n)=false:=by simp
  go_enter func44,ntmps44;go_wp2_with fail;go_loopw [5] (λiv wr=>∃k : Nat,k<=n/\iv = .int .i64 k/\Hid (l.take k=l'.take k)/\bf w wr) (λi _=>n - (intOf i).toNat);case atStart=>exact ⟨0,Ni _,rfl,rfl,Sf _⟩
  case round =>
   obtain ⟨k,hk,rfl,htk,hd⟩:=hrel
   by_cases hlt : k<n
   ·obtain ⟨b1,n1,d1,c1,i1⟩:=(h.drawn hd).cell k hlt
    obtain ⟨b2,n2,d2,c2,i2⟩:=(h'.drawn hd).cell k hlt
    have Hc:=Z5 (fX b1 n1 d1 _ b2 n2 d2 _ (i1.drawn (Sf wr).drew) (i2.drawn (Sf wr).drew))
    by_cases he : ai l k=ai l' k
    ·have he' : decide (ai l k=ai l' k)=true:=by simpa using he
     have Hs : Hid (l.take (k+1)=l'.take (k+1)):=sJ htk.out (by rw [Hl.out];exact hlt) (by rw [Hl'.out];exact hlt) he
     rw [he'] at Hc
     clear he he'
     go_wp2_with fail
     go_region_held3 (λV=>V.cell? ⟨ablk a,aK a+k,none⟩=some (.slice b1 n1 d1)/\V.cell? ⟨ablk a',aK a'+k,none⟩=some (.slice b2 n2 d2)) (exact ⟨c1,c2⟩)
      (first | (go_at_call 19;((with_reducible refine Hc.out.mono ?_);rintro e w4 ⟨rfl,m4,rfl⟩)))
     go_wp2_with fail
     go_roundw
     case rel=>exact ⟨k+1,by omega,by go_num,Hs.out,hd.drewN (1+m4)⟩
     case measure=>simp [intOf] <;> omega
    ·have he' : decide (ai l k=ai l' k)=false:=by simpa using he
     have Hs : Hid (decide (l=l')=false):=by show _=_;simp;intro e;exact he (by rw [e])
     rw [he'] at Hc
     clear he he'
     go_wp2_with fail
     go_region_held3 (λV=>V.cell? ⟨ablk a,aK a+k,none⟩=some (.slice b1 n1 d1)/\V.cell? ⟨ablk a',aK a'+k,none⟩=some (.slice b2 n2 d2)) (exact ⟨c1,c2⟩)
      (first | (go_at_call 19;((with_reducible refine Hc.out.mono ?_);rintro e w4 ⟨rfl,m4,rfl⟩)))
     go_wp2_with fail
     go_ret
     exact ⟨aZ Hs.out.symm,hd.drewN (1+m4)⟩
   ·obtain rfl : k=n:=by omega
    have Hs : Hid (decide (l=l')=true):=by show _=_;have:=htk.out;rw [No (by rw [Hl.out];exact Na _),No (by rw [Hl'.out];exact Na _)] at this;simpa using this
    go_wp2_with fail
    go_ret
    exact ⟨aZ Hs.out.symm,hd⟩
 ·have hnn : ((n : Int) != n')=true:=by simp;omega
  have Hs : Hid (decide (l=l')=false):=by show _=_;simp;intro e;have e1:=Hl.out;have e2:=Hl'.out;rw [e] at e1;omega
  clear hn;go_enter func44,ntmps44;go_wp2_with fail;go_ret;exact ⟨aZ Hs.out.symm,Sf _⟩
theorem jb (P M : Int) (am : OA) (mn cm : Nat) (a : OA) (n c : Nat) (l : Lz) (w : World) (hi : Ints w a n l) :
  Calls prog 87 #[.agg #[.int .i64 P,.int .i64 M,.slice am mn cm],.slice a n c] w λe w'=>e = .returned (.int .i64 (gU (aJ P M) l))/\SW w w':=by
 have Hlen:=Z5 hi.len;have hpl:=hi.pl;have hmax:=hi.max;unfold maxLen at hmax;go_enter func87,ntmps87;go_wp2_with fail;obtain ⟨W,hW⟩ : ∃W : World,W=w.alloc (.cells #[.int .i64 P,.int .i64 M,.slice am mn cm] 24):=⟨_,rfl⟩
 rw [<- hW];have hbW : SW w W:=by rw [hW];exact an _ _
 have x0 : aN W w.heap.size [.int .i64 P,.int .i64 M,.slice am mn cm]:=by rw [hW];exact R9 _ _ _ rfl
 have hiW:=hi.ah hbW;have hS : ∀k,k<n->∀V,SW W V->V.cell? ⟨w.heap.size,0,none⟩=some (.int .i64 P)/\V.cell? ⟨w.heap.size,1,none⟩=some (.int .i64 M)/\V.cell? ⟨w.heap.size,2,none⟩=some (.slice am mn cm)/\V.cell? ⟨ablk a,aK a+k,none⟩=some (.int .i64 (nth l k))/\SW W V:=by intro k hk V hV;have x1:=x0.ah hV;exact ⟨x1.cell 0 rfl,x1.cell 1 rfl,x1.cell 2 rfl,(hiW.ah hV).cell k hk,hV⟩
 have HS:=Z5 hS;clear hW x0 hS;go_loopw [5] (λiv wr=>∃k : Nat,k<=n/\iv = .int .i64 k/\Hid ((l.take k).all (jR (aJ P M))=true)/\SW W wr) (λiv _=>n - (intOf iv).toNat);case atStart=>exact ⟨0,Ni _,rfl,by show _=_;simp,Nc _ _⟩
 case round =>
  obtain ⟨k,hk,rfl,hall,hbr⟩:=hrel
  by_cases hlt : k<n
  ·have HSk : Hid (∀V,SW W V->V.cell? ⟨w.heap.size,0,none⟩=some (.int .i64 P)/\V.cell? ⟨w.heap.size,1,none⟩=some (.int .i64 M)/\V.cell? ⟨w.heap.size,2,none⟩=some (.slice am mn cm)/\V.cell? ⟨ablk a,aK a+k,none⟩=some (.int .i64 (nth l k))/\SW W V):=HS.out k hlt
   have hkl : k<l.length:=by rw [Hlen.out];exact hlt
   have Hbr:=Z5 hbr
   have Hq:=Z5 (FE P M am mn cm (nth l k))
   clear hbr
   by_cases hq : jR (aJ P M) (nth l k)=true
   ·have Hs : Hid ((l.take (k+1)).all (jR (aJ P M))=true):=ed hkl hall.out (by rw [<- aj hkl];exact hq)
    rw [hq] at Hq
    clear hq
    go_wp2_with fail
    go_region_held3 (λV=>V.cell? ⟨w.heap.size,0,none⟩=some (.int .i64 P)/\V.cell? ⟨w.heap.size,1,none⟩=some (.int .i64 M)/\V.cell? ⟨w.heap.size,2,none⟩=some (.slice am mn cm)/\V.cell? ⟨ablk a,aK a+k,none⟩=some (.int .i64 (nth l k))/\SW W V)
     ((refine HSk.out _ ?_;first | exact Hbr.out.drew | exact RZ Hbr.out.drew hb4))
     (first | (go_at_call 141;((with_reducible refine (Hq.out _).mono ?_);rintro e w4 ⟨rfl,hb4⟩)))
    go_wp2_with fail
    go_roundw
    case rel=>exact ⟨k+1,by omega,by go_num,Hs.out,RZ Hbr.out.drew hb4⟩
    case measure=>simp [intOf] <;> omega
   ·have hq' : jR (aJ P M) (nth l k)=false:=by simpa using hq
    have Hs : Hid (gU (aJ P M) l=2):=by show _=_;rw [gU,dY,dZ hkl (by rw [<- aj hkl];exact hq')];rfl
    rw [hq'] at Hq
    clear hq hq'
    go_wp2_with fail
    go_region_held3 (λV=>V.cell? ⟨w.heap.size,0,none⟩=some (.int .i64 P)/\V.cell? ⟨w.heap.size,1,none⟩=some (.int .i64 M)/\V.cell? ⟨w.heap.size,2,none⟩=some (.slice am mn cm)/\V.cell? ⟨ablk a,aK a+k,none⟩=some (.int .i64 (nth l k))/\SW W V)
     ((refine HSk.out _ ?_;first | exact Hbr.out.drew | exact RZ Hbr.out.drew hb4))
     (first | (go_at_call 141;((with_reducible refine (Hq.out _).mono ?_);rintro e w4 ⟨rfl,hb4⟩)))
    go_wp2_with fail
    go_ret
    exact ⟨aP Hs.out.symm,RZ hbW (RZ Hbr.out.drew hb4)⟩
  ·obtain rfl : k=n:=by omega
   have Hs : Hid (gU (aJ P M) l=0):=by have:=hall.out;rw [No (by rw [Hlen.out];exact Na _)] at this;show _=_;rw [gU,dY,this];rfl
   go_wp2_with fail
   go_ret
   exact ⟨aP Hs.out.symm,RZ hbW hbr⟩
section
variable {O : aL} {El : Int->Prop} {m n : Nat}
def dotN (O : aL) (a b : Nat->Int) : Nat->Int
 | 0=>0
 | t+1=>O.add (dotN O a b t) (O.mul (a t) (b t))
theorem fQ (F : bF O El) {a b : Nat->Int} : ∀t,(∀p,p<t->El (a p))->(∀p,p<t->El (b p))->El (dotN O a b t)
 | 0,_,_=>F.zero
 | t+1,ha,hb=>F.cl.add _ _ (fQ F t (λp hp=>ha p (by omega)) λp hp=>hb p (by omega)) (F.cl.mul _ _ (ha t (by omega)) (hb t (by omega)))
theorem eY (F : bF O El) {a b : Nat->Int} : ∀t,(∀p,p<t->El (a p))->(∀p,p<t->El (b p))->dotN O a b t=dotN O b a t
 | 0,_,_=>rfl
 | t+1,ha,hb=>by rw [dotN,dotN,eY F t (λp hp=>ha p (by omega)) λp hp=>hb p (by omega),F.mul_comm _ _ (ha t (by omega)) (hb t (by omega))]
theorem dW {a b a' b' : Nat->Int} : ∀t,(∀p,p<t->a p=a' p/\b p=b' p)->dotN O a b t=dotN O a' b' t
 | 0,_=>rfl
 | t+1,h=>by rw [dotN,dotN,dW t λp hp=>h p (by omega),(h t (by omega)).1,(h t (by omega)).2]
theorem iO (F : bF O El) {a b : Nat->Int} {x : Nat} (hx : El (O.mul (a x) (b x))) : ∀t,(∀p,p<t->p ≠ x->O.mul (a p) (b p)=0)->dotN O a b t=if x<t then O.mul (a x) (b x) else 0
 | 0,_=>rfl
 | t+1,h=>by
  rw [dotN,iO F hx t λp hp=>h p (by omega)];by_cases e : t=x
  ·subst e;rw [Nf (by omega),Nd (by omega),F.tI hx]
  ·rw [h t (by omega) e];by_cases e2 : x<t
   ·rw [Nd e2,Nd (by omega),F.add_zero _ hx]
   ·rw [Nf e2,Nf (by omega),F.add_zero 0 F.zero]
theorem Bi (F : bF O El) {a b : Nat->Int} {x y : Nat} (hxy : x ≠ y) (hx : El (O.mul (a x) (b x))) (hy : El (O.mul (a y) (b y))) : ∀t,(∀p,p<t->p ≠ x->p ≠ y->O.mul (a p) (b p)=0) ->
  dotN O a b t=O.add (if x<t then O.mul (a x) (b x) else 0) (if y<t then O.mul (a y) (b y) else 0)
 | 0,_=>by rw [Nf (by omega),Nf (by omega)];exact (F.add_zero 0 F.zero).symm
 | t+1,h=>by
  rw [dotN,Bi F hxy hx hy t λp hp=>h p (by omega)];by_cases e : t=x
  ·subst e;rw [Nf (QI t),Nd (Nat.lt_succ_self t)];by_cases e2 : y<t
   ·rw [Nd e2,Nd (show y<t+1 by omega),F.tI hy,F.add_comm _ _ hy hx]
   ·rw [Nf e2,Nf (show ¬ y<t+1 by omega),F.tI F.zero,F.tI hx,F.add_zero _ hx]
  ·by_cases e1 : t=y
   ·subst e1;by_cases e2 : x<t
    ·rw [Nd e2,Nf (by omega),Nd (by omega),Nd (by omega),F.add_zero _ hx]
    ·rw [Nf e2,Nf (by omega),Nf (by omega),Nd (by omega),F.add_zero 0 F.zero]
   ·rw [h t (by omega) e e1];by_cases e2 : x<t
    ·by_cases e3 : y<t
     ·rw [Nd e2,Nd e3,Nd (by omega),Nd (by omega),F.add_zero _ (F.cl.add _ _ hx hy)]
     ·rw [Nd e2,Nf e3,Nd (by omega),Nf (by omega),F.add_zero _ (F.cl.add _ _ hx F.zero)]
    ·by_cases e3 : y<t
     ·rw [Nf e2,Nd e3,Nf (by omega),Nd (by omega),F.add_zero _ (F.cl.add _ _ F.zero hy)]
     ·rw [Nf e2,Nf e3,Nf (by omega),Nf (by omega),F.add_zero _ (F.cl.add _ _ F.zero F.zero)]
def zM (O : aL) (r : Nat->Int) (K : ZZ) : Nat->Lz
 | 0=>List.replicate K.length 0
 | t+1=>ez O (zM O r K t) (O.neg (r t)) (aR K t)
theorem sE (F : bF O El) {r : Nat->Int} {K : ZZ} (hK : bp El m K) : ∀t,(∀p,p<t->El (r p))->Vc El K.length (zM O r K t)
 | 0,_=>⟨by simp [zM],λy hy=>by have:=On hy;rw [this];exact F.zero⟩
 | t+1,hr=>(sE F hK t λp hp=>hr p (by omega)).sub F (cH hK F.zero t) (F.cl.neg _ (hr t (by omega)))
theorem ET (F : bF O El) {r : Nat->Int} {K : ZZ} (hK : bp El m K) {j : Nat} (hj : j<K.length) : ∀t,t<=m->(∀p,p<t->El (r p))->nth (zM O r K t) j=dotN O r (λp=>nth (ai K j) p) t
 | 0,_,_=>by simp [zM,dotN,nth,Ng,NI,hj]
 | t+1,ht,hr=>by have hv:=sE F hK t λp hp=>hr p (by omega);have hc:=cH hK F.zero t;have hrt:=hr t (by omega);have hx : El (nth (ai K j) t):=Sc (hK.row hj) (by omega);rw [zM,ga O _ _ _ j (by rw [hc.1,hv.1]) (by rw [hv.1];exact hj),ET F hK hj t (by omega) λp hp=>hr p (by omega),cI K t j hj,F.neg_mul hrt hx,F.neg_neg (F.cl.mul _ _ hrt hx)];rfl
theorem yx (F : bF O El) {r : Nat->Int} {K : ZZ} (hK : bp El m K) {φ : Lz->Int} (hφ : nZ O El K.length φ) : ∀t,(∀p,p<t->El (r p))->φ (zM O r K t)=dotN O r (λp=>φ (aR K p)) t
 | 0,_=>hφ.zero F (sE F hK 0 λp hp=>by omega) λi hi=>by simp [zM,nth,Ng,NI,hi]
 | t+1,hr=>by have hv:=sE F hK t λp hp=>hr p (by omega);have hc:=cH hK F.zero t;have hrt:=hr t (by omega);have hx:=hφ.el _ hc;rw [zM,hφ.sub _ _ _ hv hc (F.cl.neg _ hrt),yx F hK hφ t λp hp=>hr p (by omega),F.neg_mul hrt hx,F.neg_neg (F.cl.mul _ _ hrt hx)];rfl
theorem lM (F : bF O El) {r : Nat->Int} {K : ZZ} (hK : bp El m K) {φ : Lz->Int} (hφ : nZ O El K.length φ) (hr : ∀p,p<m->El (r p)) (h : ∀j,j<K.length->dotN O r (λp=>nth (ai K j) p) m=0) :
  dotN O r (λp=>φ (aR K p)) m=0:=by rw [<- yx F hK hφ m hr];exact hφ.zero F (sE F hK m hr) λi hi=>by rw [ET F hK hi m (Na _) hr];exact h i hi
def lF (O : aL) (m : Nat) (G K : ZZ) : Prop:=∀i j,i<G.length->j<K.length->dotN O (λp=>nth (ai G i) p) (λp=>nth (ai K j) p) m=0
variable {G K : ZZ}
theorem lF.symm (F : bF O El) (hG : bp El m G) (hK : bp El m K) (h : lF O m G K) : lF O m K G:=λi j hi hj=>by rw [eY F m (λp hp=>Sc (hK.row hi) hp) λp hp=>Sc (hG.row hj) hp];exact h j i hj hi
theorem lF.MG (F : bF O El) (hG : bp El m G) (hK : bp El m K) (h : lF O m G K) {φ ψ : Lz->Int} (hφ : nZ O El K.length φ) (hψ : nZ O El G.length ψ) :
  dotN O (λp=>φ (aR K p)) (λp=>ψ (aR G p)) m=0:=by have hcφ : ∀p,p<m->El (φ (aR K p)):=λp _=>hφ.el _ (cH hK F.zero p);refine lM F hG hψ hcφ λi hi=>?_;rw [eY F m hcφ λp hp=>Sc (hG.row hi) hp];exact lM F hK hφ (λp hp=>Sc (hG.row hi) hp) λj hj=>h i j hi hj
theorem lF.cl (F : bF O El) (hG : bp El m G) (hK : bp El m K) (h : lF O m G K) {A B : Z6} {x : Nat} (hx : x<m) (hAB : ∀p,p<m->p ≠ x->p ∈ A\/p ∈ B) (hn : ¬ jE O El G.length (aR G) A x) :
  jE O El K.length (aR K) B x:=by
 intro φ hφ h0;apply NH;intro hne;apply hn;intro ψ hψ hA;have hd:=h.MG F hG hK hφ hψ;have e1:=hφ.el _ (cH hK F.zero x);have e2:=hψ.el _ (cH hG F.zero x);rw [iO F (x:=x) (F.cl.mul _ _ e1 e2) m λp hp hpx=>?_,Nd hx] at hd
 ·exact F.Al e1 e2 hne hd
 ·rcases hAB p hp hpx with h1 | h1
  ·show O.mul (φ (aR K p)) (ψ (aR G p))=0;rw [hA p h1,F.cQ (hφ.el _ (cH hK F.zero p))]
  ·show O.mul (φ (aR K p)) (ψ (aR G p))=0;rw [h0 p h1,F.iS (hψ.el _ (cH hG F.zero p))]
theorem KC {cl : Z6->Nat->Prop} {l : Z6} {x n n' : Nat} (h : Rk cl l n) (h' : Rk cl (x :: l) n') : n'<=n+1/\(cl l x->n'=n):=by
 cases h' with
 | dep _ hx h2=>exact ⟨by rw [h.uniq h2];omega,λ_=>(h.uniq h2).symm⟩
 | ind _ hx h2=>exact ⟨by rw [h.uniq h2];omega,λhc=>absurd hc hx⟩
theorem oB {cl cl' : Z6->Nat->Prop} {m : Nat} (h : ∀A B x,x<m->(∀p,p<m->p ≠ x->p ∈ A\/p ∈ B)->¬ cl A x->cl' B x) :
  ∀(l acc : Z6) {a b c : Nat},(∀x ∈ l,x<m)->(∀p,p<m->p ∈ l\/p ∈ acc)->Rk cl l a->Rk cl' acc b->Rk cl' (l.reverse ++ acc) c->a+c<=l.length+b
 | [],acc,a,b,c,_,_,ha,hb,hc=>by
  cases ha
  have e : c=b:=Rk.uniq hc hb;simp;omega
 | x :: l,acc,a,b,c,hl,hp,ha,hb,hc=>by
  have hx:=hl x (by simp);obtain ⟨b',hb'⟩:=SU cl' (x :: acc);have hst:=KC hb hb';have hc' : Rk cl' (l.reverse ++ (x :: acc)) c:=by simpa using hc
  have hp' : ∀p,p<m->p ∈ l\/p ∈ x :: acc:=λp hpm=>by
   rcases hp p hpm with h1 | h1
   ·rcases List.mem_cons.1 h1 with rfl | h1
    ·exact .inr (by simp)
    ·exact .inl h1
   ·exact .inr (List.mem_cons.2 (.inr h1))
  cases ha with
  | dep _ hcl ha' =>
   have ih:=oB h l (x :: acc) (λy hy=>hl y (List.mem_cons.2 (.inr hy))) hp' ha' hb' hc'
   simp only [NP];omega
  | ind _ hcl ha' =>
   have ih:=oB h l (x :: acc) (λy hy=>hl y (List.mem_cons.2 (.inr hy))) hp' ha' hb' hc'
   have:=hst.2 (h l acc x hx (λp hpm hpx=>by
    rcases hp p hpm with h1 | h1
    ·rcases List.mem_cons.1 h1 with h2 | h1
     ·exact absurd h2 hpx
     ·exact .inl h1
    ·exact .inr h1) hcl)
   simp only [NP];omega
theorem EW (F : bF O El) (hG : bp El m G) (hK : bp El m K) (h : lF O m G K) (hkm : G.length+K.length=m)
  (hg : Rk (jE O El G.length (aR G)) (List.range m) G.length) (hk : Rk (jE O El K.length (aR K)) (List.range m) K.length)
  {S C : Z6} (hS : ∀x ∈ S,x<m) (hC : ∀x ∈ C,x<m) (hSC : ∀p,p<m->p ∈ S\/p ∈ C) (hlen : S.length+C.length=m) {a b : Nat} (ha : Rk (jE O El G.length (aR G)) C a) (hb : Rk (jE O El K.length (aR K)) S b) :
  (b : Int)=S.length - G.length+a:=by
 have cG:=fM F hG;have cK:=fM F hK;have all : ∀ {cl : Z6->Nat->Prop} (hc : ER cl) {r : Nat} (_ : Rk cl (List.range m) r) (l acc : Z6),(∀x ∈ l,x<m)->(∀x ∈ acc,x<m)->(∀p,p<m->p ∈ l\/p ∈ acc)->Rk cl (l.reverse ++ acc) r:=λhc r hr l acc h1 h2 h3=>by
  obtain ⟨r',hr'⟩:=SU _ (l.reverse ++ acc);have e:=SC hc hr hr' λx=>by rw [PQ,Ol,PY];exact ⟨λhx=>h3 x hx,λhx=>by rcases hx with hx | hx;exact h1 x hx;exact h2 x hx⟩
  rw [e];exact hr'
 have i1:=oB (m:=m) (λA B x hx hAB hn=>h.cl F hG hK hx hAB hn) C S hC (λp hp=>(hSC p hp).symm) ha hb (all cK hk C S hC hS λp hp=>(hSC p hp).symm);have i2:=oB (m:=m) (λA B x hx hAB hn=>(h.symm F hG hK).cl F hK hG hx hAB hn) S C hS hSC hb ha (all cG hg S C hS hC hSC);omega
end
def jd (P M : Int) (mod : Lz) (cols : Int) (L : ZZ) : Int:=if ch P M mod=true then iB (aJ P M) cols L else 1
theorem mA (P M : Int) (am : OA) (mn cm : Nat) (mod : Lz) (cols : Int) (a : OA) (n c : Nat) (L : ZZ) (w : World) (hmod : Ints w am mn mod) (hi : br w a n L) :
  Calls prog 140 #[.agg #[.int .i64 P,.int .i64 M,.slice am mn cm],.agg #[.int .i64 cols,.slice a n c]] w λe w'=>e = .returned (.int .i64 (jd P M mod cols L))/\SW w w':=by
 have Hlen:=Z5 hi.len;have hpl:=hi.pl;have hmax:=hi.max;unfold maxLen at hmax;go_enter func140,ntmps140;go_wp2_with fail;obtain ⟨W,hW⟩ : ∃W : World,W=(w.alloc (.cells #[.int .i64 P,.int .i64 M,.slice am mn cm] 24)).alloc (.cells #[.int .i64 cols,.slice a n c] 94):=⟨_,rfl⟩
 rw [<- hW];have hbW : SW w W:=by rw [hW];exact bN _ _ _
 have x0 : aN W w.heap.size [.int .i64 P,.int .i64 M,.slice am mn cm]:=by rw [hW];exact (R9 _ _ _ rfl).alloc _
 have y0 : aN W (w.heap.size+1) [.int .i64 cols,.slice a n c]:=by rw [hW];exact R9 _ _ _ (by simp)
 have hS : ∀V,SW W V->V.cell? ⟨w.heap.size,0,none⟩=some (.int .i64 P)/\V.cell? ⟨w.heap.size,1,none⟩=some (.int .i64 M)/\V.cell? ⟨w.heap.size,2,none⟩=some (.slice am mn cm) /\
   V.cell? ⟨w.heap.size+1,0,none⟩=some (.int .i64 cols)/\V.cell? ⟨w.heap.size+1,1,none⟩=some (.slice a n c)/\SW W V:=by intro V hV;have x1:=x0.ah hV;have y1:=y0.ah hV;exact ⟨x1.cell 0 rfl,x1.cell 1 rfl,x1.cell 2 rfl,y1.cell 0 rfl,y1.cell 1 rfl,hV⟩
 have HS:=Z5 hS;have hiW:=hi.ah hbW;clear hW x0 y0 hS;refine (oM P M am mn cm mod W (hmod.ah hbW)).mono ?_;rintro e w1 ⟨rfl,hb1⟩;have hbw1:=RZ hbW hb1;by_cases hB : ch P M mod=true
 ·have HB : Hid (jd P M mod cols L=iB (aJ P M) cols L):=by show _=_;rw [jd,Nd hB]
  have hE : dF (ch P M mod)=0:=by rw [hB];rfl
  rw [hE];obtain ⟨q,hq⟩ : ∃q,aJ P M=q:=⟨_,rfl⟩
  have Hq:=Z5 hq;rw [hq] at HB;obtain ⟨d0,d1,d2,d3,d4,_⟩:=HS.out w1 hb1;clear hB hE hq;by_cases b1 : cols<0
  ·have Hf : Hid (jd P M mod cols L=3):=by show _=_;rw [HB.out,iB,Nd (.inl b1)]
   have t1 : decide (cols<0)=true:=by simpa using b1
   go_wp2_with fail;go_ret;exact ⟨aP Hf.out.symm,hbw1⟩
  have t1 : decide (cols<0)=false:=by simpa using b1
  by_cases b2 : 256<cols
  ·have Hf : Hid (jd P M mod cols L=3):=by show _=_;rw [HB.out,iB,Nd (.inr (.inl b2))]
   have t2 : decide (256<cols)=true:=by simpa using b2
   go_wp2_with fail;go_ret;exact ⟨aP Hf.out.symm,hbw1⟩
  have t2 : decide (256<cols)=false:=by simpa using b2
  by_cases b3 : 256<n
  ·have Hf : Hid (jd P M mod cols L=3):=by show _=_;rw [HB.out,iB,Nd (.inr (.inr (by rw [Hlen.out];exact b3)))]
   have t3 : decide (256<(n : Int))=true:=by simp;omega
   go_wp2_with fail;go_ret;exact ⟨aP Hf.out.symm,hbw1⟩
  have t3 : decide (256<(n : Int))=false:=by simp;omega
  have Hm : Hid (jd P M mod cols L=if lZ cols L=false then 3 else if L.all (dY q) then 0 else 2):=by show _=_;rw [HB.out,iB,Nf (by rw [Hlen.out];omega)]
  have hi1:=hiW.ah hb1;clear b1 b2;go_wp2_with fail;go_loopw [6] (λiv wr=>∃k : Nat,k<=n/\iv = .int .i64 k/\Hid ((L.take k).all (λr=>decide ((r.length : Int)=cols))=true)/\bf w1 wr) (λiv _=>n - (intOf iv).toNat);case atStart=>exact ⟨0,Ni _,rfl,by show _=_;simp,Sf _⟩
  case round =>
   obtain ⟨k,hk,rfl,hall,hd⟩:=hrel
   have hir:=hi1.drawn hd
   have e3:=hd.cell d3
   have e4:=hd.cell d4
   by_cases hlt : k<n
   ·obtain ⟨ra,rn,rc,hcell,hrow⟩:=hir.cell k hlt
    have hkL : k<L.length:=by rw [Hlen.out];exact hlt
    have hrl:=hrow.len
    rw [aC hkL] at hrl
    have Hrl:=Z5 hrl
    clear hrl
    by_cases he : (rn : Int)=cols
    ·have he' : ((rn : Int) != cols)=false:=by simpa using he
     have Hs : Hid ((L.take (k+1)).all (λr=>decide ((r.length : Int)=cols))=true):=ed hkL hall.out (by rw [Hrl.out];simpa using he)
     clear he
     go_wp2_with fail
     go_quiet (fail)
     go_wp2
     go_roundw
     case rel=>exact ⟨k+1,by omega,by go_num,Hs.out,hd.drewN _⟩
     case measure=>simp [intOf] <;> omega
    ·have he' : ((rn : Int) != cols)=true:=by simpa using he
     have Hs : Hid (jd P M mod cols L=3):=by show _=_;rw [Hm.out,Nd];exact dZ hkL (by simp only [Hrl.out];simpa using he)
     clear he
     go_wp2_with fail
     go_quiet (fail)
     go_wp2
     go_ret
     exact ⟨aP Hs.out.symm,RZ hbw1 (hd.drewN _).below⟩
   ·obtain rfl : k=n:=by omega
    have Hm2 : Hid (jd P M mod cols L=if L.all (dY q) then 0 else 2):=by have:=hall.out;rw [No (by rw [Hlen.out];exact Na _)] at this;show _=_;rw [Hm.out,Nf (by rw [lZ,this];simp)]
    have hbr : SW W wr:=RZ hb1 hd.below
    have hir2:=hir
    clear d0 d1 d2 d3 d4 hall
    go_wp2_with fail
    clear e3 e4
    go_loopw [7] (λiv wx=>∃j : Nat,j<=k/\iv = .int .i64 j/\Hid ((L.take j).all (dY q)=true)/\SW W wx) (λiv _=>k - (intOf iv).toNat)
    case atStart=>exact ⟨0,Ni _,rfl,by show _=_;simp,hbr⟩
    case round =>
     obtain ⟨j,hj,rfl,hall2,hbx⟩:=hrel
     obtain ⟨d0,d1,d2,d3,d4,_⟩:=HS.out _ hbx
     by_cases hlt : j<k
     ·have hiX:=hiW.ah hbx
      obtain ⟨ra,rn,rc,hcell,hrow⟩:=hiX.cell j hlt
      have hjL : j<L.length:=by rw [Hlen.out];exact hlt
      have HC:=Z5 (jb P M am mn cm ra rn rc (ai L j) _ (hrow.ah (Nc _ _).drew))
      have hSj : ∀V,SW wr V->V.cell? ⟨w.heap.size,0,none⟩=some (.int .i64 P)/\V.cell? ⟨w.heap.size,1,none⟩=some (.int .i64 M)/\V.cell? ⟨w.heap.size,2,none⟩=some (.slice am mn cm) /\
        V.cell? ⟨w.heap.size+1,1,none⟩=some (.slice a k c)/\V.cell? ⟨ablk a,aK a+j,none⟩=some (.slice ra rn rc):=λV hV=>by obtain ⟨f0,f1,f2,f3,f4,_⟩:=HS.out V (RZ hbx hV);exact ⟨f0,f1,f2,f4,aB hV hcell⟩
      have HSj:=Z5 hSj
      have Hbx:=Z5 hbx
      rw [Hq.out] at HC
      clear hSj hbx
      by_cases he : dY q (ai L j)=true
      ·have he2 : gU q (ai L j)=0:=by rw [gU,he];rfl
       rw [he2] at HC
       rw [aC hjL] at he
       have Hs : Hid ((L.take (j+1)).all (dY q)=true):=ed hjL hall2.out he
       clear he he2
       go_wp2_with fail
       go_region_held3 (λV=>V.cell? ⟨w.heap.size,0,none⟩=some (.int .i64 P)/\V.cell? ⟨w.heap.size,1,none⟩=some (.int .i64 M)/\V.cell? ⟨w.heap.size,2,none⟩=some (.slice am mn cm) /\
         V.cell? ⟨w.heap.size+1,1,none⟩=some (.slice a k c)/\V.cell? ⟨ablk a,aK a+j,none⟩=some (.slice ra rn rc))
        ((refine HSj.out _ ?_;first | exact (Nc _ _).drew | exact RZ (Nc _ _).drew hb4))
        (first | (go_at_call 87;((with_reducible refine HC.out.mono ?_);rintro e w4 ⟨rfl,hb4⟩)))
       go_wp2_with fail
       go_roundw
       case rel=>exact ⟨j+1,by omega,by go_num,Hs.out,RZ Hbx.out (RZ (Nc _ _).drew hb4)⟩
       case measure=>simp [intOf] <;> omega
      ·have he2 : gU q (ai L j)=2:=by rw [gU,Nf he]
       rw [he2] at HC
       rw [aC hjL] at he
       have Hs : Hid (jd P M mod cols L=2):=by show _=_;rw [Hm2.out,dZ hjL (by simpa using he)];rfl
       clear he he2
       go_wp2_with fail
       go_region_held3 (λV=>V.cell? ⟨w.heap.size,0,none⟩=some (.int .i64 P)/\V.cell? ⟨w.heap.size,1,none⟩=some (.int .i64 M)/\V.cell? ⟨w.heap.size,2,none⟩=some (.slice am mn cm) /\
         V.cell? ⟨w.heap.size+1,1,none⟩=some (.slice a k c)/\V.cell? ⟨ablk a,aK a+j,none⟩=some (.slice ra rn rc))
        ((refine HSj.out _ ?_;first | exact (Nc _ _).drew | exact RZ (Nc _ _).drew hb4))
        (first | (go_at_call 87;((with_reducible refine HC.out.mono ?_);rintro e w4 ⟨rfl,hb4⟩)))
       go_wp2_with fail
       go_ret
       exact ⟨aP Hs.out.symm,RZ hbW (RZ Hbx.out (RZ (Nc _ _).drew hb4))⟩
     ·obtain rfl : j=k:=by omega
      have Hs : Hid (jd P M mod cols L=0):=by have:=hall2.out;rw [No (by rw [Hlen.out];exact Na _)] at this;show _=_;rw [Hm2.out,this];rfl
      go_wp2_with fail
      go_ret
      exact ⟨aP Hs.out.symm,RZ hbW hbx⟩
 ·have hB' : ch P M mod=false:=by simpa using hB
  have Hf : Hid (jd P M mod cols L=1):=by show _=_;rw [jd,Nf hB]
  have hE : dF (ch P M mod)=1:=by rw [hB'];rfl
  rw [hE];clear hB hB' hE;go_wp2_with fail;go_ret;exact ⟨aP Hf.out.symm,hbw1⟩
theorem IT : dT 5 2 25 A0 0 25=true:=by decide +kernel
theorem Mj : il 5 2 25 A0:=aQ (dA 5 2 25 A0) IT
theorem Jo : dT 5 3 125 qs 0 32=true:=by decide +kernel
theorem Hj : dT 5 3 125 qs 32 32=true:=by decide +kernel
theorem FN : dT 5 3 125 qs 64 32=true:=by decide +kernel
theorem FU : dT 5 3 125 qs 96 29=true:=by decide +kernel
theorem Lx : il 5 3 125 qs:=aQ (aQ (aQ (aQ (dA 5 3 125 qs) Jo) Hj) FN) FU
theorem Iu : dT 7 2 49 zY 0 49=true:=by decide +kernel
theorem LR : il 7 2 49 zY:=aQ (dA 7 2 49 zY) Iu
theorem Gq : dT 11 2 121 mY 0 32=true:=by decide +kernel
theorem D5 : dT 11 2 121 mY 32 32=true:=by decide +kernel
theorem DB : dT 11 2 121 mY 64 32=true:=by decide +kernel
theorem DD : dT 11 2 121 mY 96 25=true:=by decide +kernel
theorem Kq : il 11 2 121 mY:=aQ (aQ (aQ (aQ (dA 11 2 121 mY) Gq) D5) DB) DD
theorem FP : dT 13 2 169 kJ 0 32=true:=by decide +kernel
theorem DJ : dT 13 2 169 kJ 32 32=true:=by decide +kernel
theorem Da : dT 13 2 169 kJ 64 32=true:=by decide +kernel
theorem EA : dT 13 2 169 kJ 96 32=true:=by decide +kernel
theorem Bz : dT 13 2 169 kJ 128 32=true:=by decide +kernel
theorem CR : dT 13 2 169 kJ 160 9=true:=by decide +kernel
theorem KT : il 13 2 169 kJ:=aQ (aQ (aQ (aQ (aQ (aQ (dA 13 2 169 kJ) FP) DJ) Da) EA) Bz) CR
def Mw (c : Nat × Nat) : Bool:=BQ (dQ c.1 1 []) c.1 c.2 && decide (0<c.2) && decide (c.2<c.1)
theorem MW : roots.all Mw=true:=by decide +kernel
theorem JP : ((List.range 257).all λp=>p<2 || !js p || roots.any λc=>c.1 == p)=true:=by decide +kernel
section
variable {O : aL} {El : Int->Prop} {m n : Nat}
structure nQ (L : ZZ) (P : Lz) : Prop where
 lead : ∀i x,i<P.length->x<(nth P i).toNat->nth (ai L i) x=0
 asc : ∀i j,i<j->j<P.length->nth P i<nth P j
theorem qm (F : bF O El) {L : ZZ} (hL : bp El m L) : ∀k,k<=m->nQ (aD O L k).1 (aD O L k).2
 | 0,_=>⟨λi x hi=>by simp [aD] at hi,λi j _ hj=>by simp [aD] at hj⟩
 | k+1,hk=>by
  have ih:=qm F hL k (by omega);obtain ⟨h1,_,_⟩:=gy F hL k (by omega);have hR:=iF F hL k (by omega);have hb:=n8 (L:=(aD O L k).1) (c:=k) (k:=(aD O L k).2.length) h1.le;by_cases hlt : (aD O L k).2.length<(aD O L k).1.length
  ·rw [fR (Lk:=(aD O L k).1) (P:=(aD O L k).2) rfl hlt];split
   ·exact ih
   ·rename_i hf;have hfl : bh (aD O L k).1 k (aD O L k).2.length<(aD O L k).1.length:=by omega
    have hne : nth (ai (aD O L k).1 (bh (aD O L k).1 k (aD O L k).2.length)) k ≠ 0:=ky _ k _ _ (by show bh _ k _<_;omega);generalize bh (aD O L k).1 k (aD O L k).2.length=r at *;generalize (aD O L k).1=A at *;generalize (aD O L k).2=P at *;have hp : El (nth (ai A r) k):=Sc (hR.row hfl) (by omega);have hpi:=F.cl.inv _ hp hne;refine ⟨λi x hi hx=>?_,λi j hij hj=>?_⟩
    ·rw [Nl,ND] at hi;have hx' : x<m:=by
      rw [kB] at hx;by_cases e : i<P.length
      ·rw [Nd e] at hx;have:=h1.lt i e;omega
      ·rw [Nf e,Nd (by omega)] at hx;omega
     rw [gN F hR hlt hfl (by omega) hne (i:=i) (by omega) hx'];rw [kB] at hx;by_cases e : i<P.length
     ·rw [Nd e] at hx;have h2:=h1.lt i e;rw [Nf (by omega),show sw P.length r i=i by unfold sw;rw [Nf (by omega),Nf (by omega)],h1.zero r x hb.1 hfl (by omega),F.cQ hpi,F.iS (Sc (hR.row (by omega)) (by omega)),F.dR,F.add_zero _ (Sc (hR.row (by omega)) hx')];exact ih.lead i x e hx
     ·rw [Nf e,Nd (by omega)] at hx;rw [Nd (by omega),h1.zero r x hb.1 hfl (by omega),F.cQ hpi]
    ·rw [Nl,ND] at hj;rw [kB,kB,Nd (by omega)];by_cases e : j<P.length
     ·rw [Nd e];exact ih.asc i j hij e
     ·rw [Nf e,Nd (by omega)];have:=h1.lt i (by omega);omega
  ·have hfull : (aD O L k).2.length=L.length:=by have:=bX O L k;have:=h1.le;omega
   rw [jw hfull 1];exact ih
theorem inv_one (F : bF O El) : O.inv 1=1:=by have h:=F.mul_inv 1 F.one (by decide);rwa [F.one_mul _ (F.cl.inv 1 F.one (by decide))] at h
theorem xA (O : aL) {R : ZZ} {t c : Nat} (h : ∀i,i<R.length->i ≠ t->nth (ai R i) c=0) : ∀i,i<=R.length->clearTo O t c R i=R
 | 0,_=>rfl
 | i+1,hi=>by
  unfold clearTo;rw [xA O h i (by omega)];split
  ·rfl
  ·rename_i e;unfold di;rw [Nd (h i (by omega) e),pa]
theorem Bx (F : bF O El) {R : ZZ} {P : Lz} (hP : mg R P m) (hl : nQ R P) (hlen : R.length=P.length) : ∀k,k<=m ->
  ∃t,t<=P.length/\aD O R k=(R,P.take t)/\(∀j,j<t->nth P j<k)/\(∀j,t<=j->j<P.length->(k : Int)<=nth P j)
 | 0,_=>⟨0,Ni _,by simp [aD],λj hj=>by omega,λj _ hj=>(hP.lt j hj).1⟩
 | k+1,hk=>by
  obtain ⟨t,ht,he,h1,h2⟩:=Bx F hP hl hlen k (by omega);have htl : (P.take t).length=t:=by rw [NG];omega
  by_cases htt : t=P.length
  ·refine ⟨t,ht,?_,λj hj=>by have:=h1 j hj;omega,λj h3 h4=>by omega⟩;have hfull : (aD O R k).2.length=R.length:=by rw [he];show (P.take t).length=_;omega
   rw [jw hfull 1,he]
  ·have htR : t<R.length:=by omega
   rw [fR (Lk:=R) (P:=P.take t) he.symm (by rw [htl];exact htR),htl];by_cases hpk : nth P t=k
   ·have h11:=hP.one t t (by omega) htR;rw [hpk,Nd rfl,Nb] at h11;have hf : bh R k t=t:=by rw [jI htR,Nf (by rw [h11];decide)]
    rw [hf,Nf (by omega)];have hpv : fo O R t t k=R:=by
     rw [lf,Nd rfl];have hn : bH O R t k=R:=by unfold bH;rw [h11,Nd (inv_one F)]
     rw [hn];refine xA O (λi hi hit=>?_) _ (Na _);have:=hP.one t i (by omega) hi;rw [hpk,Nf hit,Nb] at this;exact this
    rw [hpv];refine ⟨t+1,by omega,?_,λj hj=>?_,λj h3 h4=>?_⟩
    ·rw [Nj (by omega),<- aj,hpk]
    ·by_cases e : j=t
     ·subst e;omega
     ·have:=h1 j (by omega);omega
    ·have:=hl.asc t j (by omega) h4;omega
   ·have hgt : (k : Int)<nth P t:=by have:=h2 t (Na _) (by omega);omega
    have hz : ∀i,t<=i->i<R.length->nth (ai R i) k=0:=λi h3 h4=>by
     refine hl.lead i k (by omega) ?_;by_cases e : i=t
     ·subst e;omega
     ·have:=hl.asc t i (by omega) (by omega);omega
    have hf : ∀d i,d=R.length - i->t<=i->i<=R.length->bh R k i=R.length:=by
     intro d;induction d with
     | zero=>intro i h3 _ h5;rw [mh (by omega)];omega
     | succ d ih =>
      intro i h3 h4 h5
      rw [jI (by omega),Nd (hz i h4 (by omega))]
      exact ih (i+1) (by omega) (by omega) (by omega)
    rw [hf _ t rfl (Na _) (by omega),Nd rfl];refine ⟨t,ht,rfl,λj hj=>by have:=h1 j hj;omega,λj h3 h4=>?_⟩;by_cases e : j=t
    ·subst e;omega
    ·have:=hl.asc t j (by omega) h4;omega
theorem vf (F : bF O El) {R : ZZ} {P : Lz} (hP : mg R P m) (hl : nQ R P) (hlen : R.length=P.length) : aD O R m=(R,P):=by
 obtain ⟨t,ht,he,h1,h2⟩:=Bx F hP hl hlen m (Na _);have : t=P.length:=by apply NH;intro h;have h3:=h2 t (Na _) (by omega);have h4:=hP.lt t (by omega);omega
 rw [he,this,QM]
def bZ (O : aL) (m : Nat) (L : ZZ) : ZZ:=(aD O L m).1.take (aD O L m).2.length
theorem oo {L : ZZ} {t i : Nat} (h : i<t) : ai (L.take t) i=ai L i:=by unfold ai;simp only [Ng,OE];rw [Nd h]
theorem bQ (F : bF O El) {L : ZZ} (hL : bp El m L) : (bZ O m L).length=(aD O L m).2.length:=by have h1:=(gy F hL m (Na _)).1.le;unfold bZ;rw [NG];omega
theorem bL (F : bF O El) {L : ZZ} (hL : bp El m L) : bp El m (bZ O m L):=λr hr=>iF F hL m (Na _) r (Og hr)
theorem bG (F : bF O El) {L : ZZ} (hL : bp El m L) : mg (bZ O m L) (aD O L m).2 m/\nQ (bZ O m L) (aD O L m).2:=by
 have h1:=(gy F hL m (Na _)).1;have h2:=qm F hL m (Na _);have hl:=bQ F hL;refine ⟨⟨by omega,h1.lt,λj i hj hi=>?_,λi x hi1 hi2 _=>by omega⟩,⟨λi x hi hx=>?_,h2.asc⟩⟩
 ·unfold bZ;rw [oo (by omega)];exact h1.one j i hj (by have:=h1.le;omega)
 ·unfold bZ;rw [oo hi];exact h2.lead i x hi hx
theorem tV (F : bF O El) {L : ZZ} (hL : bp El m L) : bZ O m (bZ O m L)=bZ O m L:=by
 obtain ⟨h1,h2⟩:=bG F hL;have hl:=bQ F hL;have h3:=vf F h1 h2 hl;have e : bZ O m (bZ O m L)=(bZ O m L).take (aD O L m).2.length:=by show (aD O (bZ O m L) m).1.take (aD O (bZ O m L) m).2.length=_;rw [h3]
 rw [e,No (by omega)]
theorem RS.B4 (F : bF O El) {L : ZZ} {f : Nat->Int} (h : ∀x,x<m->f x=0) : RS O El m L f:=by refine ⟨λ_=>0,⟨λ_ _=>F.zero,λv r x hv hr hx=>?_,λr x hr hx=>(F.cQ hx).symm⟩,λx hx=>h x hx⟩;show (0 : Int)=O.add 0 (O.neg (O.mul x 0));rw [F.cQ hx,F.dR,F.add_zero 0 F.zero]
theorem cB (F : bF O El) {L : ZZ} (hL : bp El m L) : fE O El m (bZ O m L) L/\fE O El m L (bZ O m L):=by
 obtain ⟨h1,h2,h3⟩:=gy F hL m (Na _);have hl:=bQ F hL;refine ⟨λi hi=>?_,h3.trans λi hi=>?_⟩
 ·have e : ai (bZ O m L) i=ai (aD O L m).1 i:=by unfold bZ;exact oo (by omega)
  rw [e];exact h2 i (by have:=h1.le;omega)
 ·by_cases e : i<(aD O L m).2.length
  ·have e2 : ai (aD O L m).1 i=ai (bZ O m L) i:=by unfold bZ;exact (oo e).symm
   rw [e2];exact RS.row F (by omega)
  ·exact RS.B4 F λx hx=>h1.zero i x (by omega) hi hx
theorem sG (F : bF O El) {L : ZZ} (hL : bp El m L) : Rk (jE O El (bZ O m L).length (aR (bZ O m L))) (List.range m) (bZ O m L).length:=by have h:=Dh F (bL F hL);obtain ⟨h1,h2⟩:=bG F hL;rw [vf F h1 h2 (bQ F hL)] at h;rw [bQ F hL];rw [bQ F hL] at h;exact h
def kerTo (O : aL) (m : Nat) (R : ZZ) (P : Lz) (c : Nat) : Nat->Lz
 | 0=>(List.replicate m 0).set c 1
 | i+1=>(kerTo O m R P c i).set (nth P i).toNat (O.neg (nth (ai R i) c))
def cZ (O : aL) (m : Nat) (R : ZZ) (P : Lz) : Nat->ZZ
 | 0=>[]
 | k+1=>if (k : Int) ∈ P then cZ O m R P k else cZ O m R P k ++ [kerTo O m R P k P.length]
def dK (P : Lz) : Nat->Z6
 | 0=>[]
 | k+1=>if (k : Int) ∈ P then dK P k else dK P k ++ [k]
theorem jy (O : aL) (m : Nat) (R : ZZ) (P : Lz) (c : Nat) : ∀i,(kerTo O m R P c i).length=m
 | 0=>by simp [kerTo]
 | i+1=>by rw [kerTo,N9,jy O m R P c i]
theorem fS (O : aL) (m : Nat) (R : ZZ) (P : Lz) : ∀k,(cZ O m R P k).length=(dK P k).length
 | 0=>rfl
 | k+1=>by
  rw [cZ,dK];split
  ·exact fS O m R P k
  ·rw [Nl,Nl,fS O m R P k];rfl
theorem jK {P : Lz} {x : Nat} : ∀k,x ∈ dK P k ↔ x<k/\¬ (x : Int) ∈ P
 | 0=>by simp [dK]
 | k+1=>by
  rw [dK];split
  ·rename_i h;rw [jK k];constructor
   ·rintro ⟨h1,h2⟩;exact ⟨by omega,h2⟩
   ·rintro ⟨h1,h2⟩;by_cases e : x=k
    ·subst e;exact absurd h h2
    ·exact ⟨by omega,h2⟩
  ·rename_i h;rw [Ol,jK k,N6];constructor
   ·rintro (⟨h1,h2⟩ | rfl)
    ·exact ⟨by omega,h2⟩
    ·exact ⟨by omega,h⟩
   ·rintro ⟨h1,h2⟩;by_cases e : x=k
    ·exact .inr e
    ·exact .inl ⟨by omega,h2⟩
theorem jP (O : aL) (m : Nat) (R : ZZ) (P : Lz) {j : Nat} : ∀k,j<(dK P k).length->ai (cZ O m R P k) j=kerTo O m R P ((dK P k).getD j 0) P.length
 | 0,h=>by simp [dK] at h
 | k+1,h=>by
  rw [cZ,dK] at *;split
  ·rename_i hc;rw [Nd hc] at h;exact jP O m R P k h
  ·rename_i hc;rw [Nf hc,Nl,ND] at h;have hl:=fS O m R P k;by_cases e : j<(dK P k).length
   ·have e1 : ai (cZ O m R P k ++ [kerTo O m R P k P.length]) j=ai (cZ O m R P k) j:=by unfold ai;simp only [Ng];rw [Ny (by omega)]
    have e2 : (dK P k ++ [k]).getD j 0=(dK P k).getD j 0:=by simp only [Ng];rw [Ny e]
    rw [e1,e2];exact jP O m R P k e
   ·have ej : j=(dK P k).length:=by omega
    have e1 : ai (cZ O m R P k ++ [kerTo O m R P k P.length]) j=kerTo O m R P k P.length:=by unfold ai;simp only [Ng];rw [NY (by omega)];simp [ej,hl]
    have e2 : (dK P k ++ [k]).getD j 0=k:=by simp only [Ng];rw [NY (by omega)];simp [ej]
    rw [e1,e2]
variable {R : ZZ} {P : Lz}
theorem iG (hP : mg R P m) {c x : Nat} (hx : x<m) (hxc : x ≠ c) : ∀i,i<=P.length->(∀j,j<i->(nth P j).toNat ≠ x)->nth (kerTo O m R P c i) x=0
 | 0,_,_=>by
  by_cases hc : c<m
  ·rw [kerTo,eh _ _ _ _ (by simpa using hc),Nf hxc];simp [nth,Ng,NI];split <;> rfl
  ·rw [kerTo,Pw (by simp;omega)];simp [nth,Ng,NI];split <;> rfl
 | i+1,hi,h=>by have hb:=hP.lt i (by omega);rw [kerTo,eh _ _ _ _ (by rw [jy];omega),Nf (λe=>h i (by omega) e.symm)];exact iG hP hx hxc i (by omega) λj hj=>h j (by omega)
theorem iU (hP : mg R P m) {c : Nat} (hc : c<m) (hn : ¬ (c : Int) ∈ P) : ∀i,i<=P.length->nth (kerTo O m R P c i) c=1
 | 0,_=>by rw [kerTo,eh _ _ _ _ (by simpa using hc),Nd rfl]
 | i+1,hi=>by have hb:=hP.lt i (by omega);have hne : c ≠ (nth P i).toNat:=λe=>hn (by have : nth P i ∈ P:=aH (by omega);rwa [show nth P i=(c : Int) by omega] at this);rw [kerTo,eh _ _ _ _ (by rw [jy];omega),Nf hne];exact iU hP hc hn i (by omega)
theorem yW (hP : mg R P m) (hl : nQ R P) {c j : Nat} : ∀i,i<=P.length->j<i->nth (kerTo O m R P c i) (nth P j).toNat=O.neg (nth (ai R j) c)
 | 0,_,h=>by omega
 | i+1,hi,h=>by
  have hb:=hP.lt i (by omega);have hbj:=hP.lt j (by omega);rw [kerTo,eh _ _ _ _ (by rw [jy];omega)];by_cases e : j=i
  ·subst e;rw [Nd rfl]
  ·have:=hl.asc j i (by omega) (by omega);rw [Nf (by omega)];exact yW hP hl i (by omega) (by omega)
theorem mX (F : bF O El) (hR : bp El m R) (hP : mg R P m) (hlen : R.length=P.length) {c : Nat} (hc : c<m) : ∀i,i<=P.length->Vc El m (kerTo O m R P c i)
 | 0,_=>⟨jy O m R P c 0,λy hy=>by
  rw [kerTo] at hy;rcases Oz hy with h | rfl
  ·rw [On h];exact F.zero
  ·exact F.one⟩
 | i+1,hi=>⟨jy O m R P c (i+1),λy hy=>by
  rw [kerTo] at hy;rcases Oz hy with h | rfl
  ·exact (mX F hR hP hlen hc i (by omega)).2 y h
  ·exact F.cl.neg _ (Sc (hR.row (by omega)) hc)⟩
theorem gC {P : Lz} {k j : Nat} (h : j<(dK P k).length) : (dK P k).getD j 0<k/\¬ (((dK P k).getD j 0 : Nat) : Int) ∈ P:=by
 have e : (dK P k).getD j 0=(dK P k)[j]:=by simp [Ng,h]
 rw [e];exact (jK k).1 (NO h)
theorem dz (F : bF O El) (hR : bp El m R) (hP : mg R P m) (hlen : R.length=P.length) : bp El m (cZ O m R P m):=λr hr=>by
 obtain ⟨j,hj,rfl⟩:=List.mem_iff_getElem.1 hr;have hj' : j<(dK P m).length:=by rw [<- fS O m R P m];exact hj
 rw [<- aC hj,jP O m R P m hj'];exact mX F hR hP hlen (gC hj').1 P.length (Na _)
theorem jf (F : bF O El) (hR : bp El m R) (hP : mg R P m) (hl : nQ R P) (hlen : R.length=P.length) : lF O m R (cZ O m R P m):=λi j hi hj=>by
 rw [fS] at hj;rw [jP O m R P m hj];obtain ⟨hc,hn⟩:=gC hj;generalize (dK P m).getD j 0=c at *;have hb:=hP.lt i (by omega);have hne : c ≠ (nth P i).toNat:=λe=>hn (by have : nth P i ∈ P:=aH (by omega);rwa [show nth P i=(c : Int) by omega] at this);have hx : El (nth (ai R i) c):=Sc (hR.row hi) hc;have e1 : nth (kerTo O m R P c P.length) c=1:=iU hP hc hn _ (Na _);have e2 : nth (kerTo O m R P c P.length) (nth P i).toNat=O.neg (nth (ai R i) c):=yW hP hl _ (Na _) (by omega);have e3 : nth (ai R i) (nth P i).toNat=1:=by rw [hP.one i i (by omega) hi,Nd rfl]
 rw [Bi F hne (by rw [e1,F.ie hx];exact hx) (by rw [e2,e3,F.one_mul _ (F.cl.neg _ hx)];exact F.cl.neg _ hx) m λp hp hpc hpi=>?_,Nd hc,Nd (by omega),e1,e2,e3,F.ie hx,F.one_mul _ (F.cl.neg _ hx),F.add_neg _ hx];show O.mul (nth (ai R i) p) (nth (kerTo O m R P c P.length) p)=0;have hxp : El (nth (ai R i) p):=Sc (hR.row hi) hp;by_cases hpp : ∃q,q<P.length/\(nth P q).toNat=p
 ·obtain ⟨q,hq,rfl⟩:=hpp;have hqi : i ≠ q:=λe=>hpi (by rw [e]);rw [hP.one q i hq hi,Nf hqi,F.iS ((mX F hR hP hlen hc _ (Na _)).at hp)]
 ·rw [iG hP hp hpc _ (Na _) λq hq e=>hpp ⟨q,hq,e⟩,F.cQ hxp]
theorem Fm (F : bF O El) (hP : mg R P m) : ∀k,k<=(dK P m).length->Rk (jE O El (cZ O m R P m).length (aR (cZ O m R P m))) (((dK P m).take k).reverse) k
 | 0,_=>.nil
 | k+1,hk=>by
  have ih:=Fm F hP k (by omega);have hkl : k<(dK P m).length:=by omega
  have hnd : ∀K,(dK P K).Nodup:=λK=>by
   induction K with
   | zero=>exact Rc
   | succ K ih =>
    rw [dK]
    split
    ·exact ih
    ·rw [OM]
     refine ⟨ih,by simp,λa ha b hb=>?_⟩
     rw [N6] at hb
     rw [hb]
     have:=(jK K).1 ha
     omega
  have etk : ((dK P m).take (k+1)).reverse=(dK P m)[k] :: ((dK P m).take k).reverse:=by rw [Nj hkl,List.reverse_append];rfl
  rw [etk];refine .ind _ (λhc=>?_) ih;have hlk : k<(cZ O m R P m).length:=by rw [fS];exact hkl
  have hat:=gC (P:=P) (k:=m) hkl;have eg : (dK P m).getD k 0=(dK P m)[k]:=by simp [Ng,hkl]
  rw [eg] at hat;have h1:=hc (λv=>nth v k) (nZ.FI F hlk) λy hy=>by
   rw [PY] at hy;show nth (aR _ y) k=0;rw [cI _ y k hlk,jP O m R P m hkl,eg];have hym:=(jK m).1 (Og hy);have hyk : y ≠ (dK P m)[k]:=λe=>by obtain ⟨q,hq,e2⟩:=List.mem_iff_getElem.1 hy;rw [NG] at hq;rw [QG] at e2;have h3:=(RD (hnd m)).1 (e2.trans e);omega
   refine iG hP hym.1 hyk _ (Na _) λq hq e=>hym.2 ?_;have h4:=hP.lt q hq;have : nth P q ∈ P:=aH hq;rwa [show nth P q=(y : Int) by omega] at this
  have h2 : nth (aR (cZ O m R P m) (dK P m)[k]) k=0:=h1;rw [cI _ _ k hlk,jP O m R P m hkl,eg,iU hP hat.1 hat.2 _ (Na _)] at h2;exact absurd h2 (by decide)
theorem yY (P : Lz) (hP : ∀j,j<P.length->0<=nth P j/\nth P j<m) (ha : ∀i j,i<j->j<P.length->nth P i<nth P j) : (dK P m).length+P.length=m:=by
 have key : ∀k,k<=m->∃t,t<=P.length/\(dK P k).length+t=k/\(∀j,j<t->nth P j<k)/\(∀j,t<=j->j<P.length->(k : Int)<=nth P j):=by
  intro k;induction k with
  | zero=>intro _;exact ⟨0,Ni _,rfl,λj hj=>by omega,λj _ hj=>(hP j hj).1⟩
  | succ k ih =>
   intro hk
   obtain ⟨t,h1,h2,h3,h4⟩:=ih (by omega)
   rw [dK]
   by_cases hm : (k : Int) ∈ P
   ·rw [Nd hm]
    obtain ⟨q,hq,e⟩:=List.mem_iff_getElem.1 hm
    rw [<- aj hq] at e
    have hqt : q=t:=by
     by_cases h5 : q<t
     ·have:=h3 q h5;omega
     ·by_cases h6 : t<q
      ·have h7:=ha t q h6 hq;have h8:=h4 t (Na _) (by omega);omega
      ·omega
    subst hqt
    refine ⟨q+1,by omega,by omega,λj hj=>?_,λj h5 h6=>?_⟩
    ·by_cases e2 : j=q
     ·subst e2;omega
     ·have:=h3 j (by omega);omega
    ·have:=ha q j (by omega) h6;omega
   ·rw [Nf hm,Nl,ND]
    refine ⟨t,h1,by omega,λj hj=>by have:=h3 j hj;omega,λj h5 h6=>?_⟩
    have h7:=h4 j h5 h6
    have h8 : nth P j ≠ k:=λe=>hm (by rw [<- e];exact aH h6)
    omega
 obtain ⟨t,h1,h2,h3,h4⟩:=key m (Na _);have : t=P.length:=by apply NH;intro h;have h5:=h4 t (Na _) (by omega);have h6:=hP t (by omega);omega
 omega
theorem GI (F : bF O El) (hR : bp El m R) (hP : mg R P m) (hl : nQ R P) (hlen : R.length=P.length) :
  R.length+(bZ O m (cZ O m R P m)).length=m/\lF O m R (bZ O m (cZ O m R P m)):=by
 have hK:=dz F hR hP hlen;have hcnt:=yY (m:=m) P hP.lt hl.asc;have hkl:=fS O m R P m;obtain ⟨r1,r2⟩:=cB F hK;have hO:=jf F hR hP hl hlen;refine ⟨?_,λi j hi hj=>?_⟩
 ·have h1:=sG F hK;have h2:=Fm F hP (O:=O) (El:=El) (R:=R) (dK P m).length (Na _);have hle:=(fh O (cZ O m R P m) m).2;have hcl:=bQ F hK;have h3:=Rk.map (cl':=jE O El (bZ O m (cZ O m R P m)).length (aR (bZ O m (cZ O m R P m)))) (λy=>y<m) id (λl x hl hx=>by rw [PM];exact ⟨r1.cl hl hx,r2.cl hl hx⟩) h2 (λy hy=>by rw [PY] at hy;exact ((jK m).1 (Og hy)).1);have h4:=SR (fM F (bL F hK)) h3 h1 (λx hx=>(fM F (bL F hK)).mem _ _ (by rw [PM,PY] at hx;exact List.mem_range.2 ((jK m).1 (Og hx)).1));omega
 ·obtain ⟨e,he,he2⟩:=r1 j hj;rw [dW (a':=λp=>nth (ai R i) p) (b':=λp=>e (aR (cZ O m R P m) p)) m λp hp=>⟨rfl,he2 p hp⟩];exact lM F hK he (λp hp=>Sc (hR.row hi) hp) λq hq=>hO i q hi hq
end
section
variable {O : aL} {El : Int->Prop}
def ko (O : aL) : Lz->Int->Int
 | [],_=>0
 | c :: a,x=>O.add c (O.mul x (ko O a x))
def quoP (O : aL) (s : Int) : Lz->Lz
 | []=>[]
 | [_]=>[]
 | _ :: d :: a=>ko O (d :: a) s :: quoP O s (d :: a)
theorem pQ (F : bF O El) {x : Int} (hx : El x) : ∀ {a : Lz},(∀c ∈ a,El c)->El (ko O a x)
 | [],_=>F.zero
 | c :: a,h=>F.cl.add _ _ (h c (by simp)) (F.cl.mul _ _ hx (pQ F hx λy hy=>h y (NS _ hy)))
theorem Ck (O : aL) (s : Int) : ∀a : Lz,(quoP O s a).length=a.length - 1
 | []=>rfl
 | [_]=>rfl
 | _ :: d :: a=>by rw [quoP,NP,Ck O s (d :: a)];simp
theorem u6 (F : bF O El) {s : Int} (hs : El s) : ∀ {a : Lz},(∀c ∈ a,El c)->∀c ∈ quoP O s a,El c
 | [],_,c,hc=>by simp [quoP] at hc
 | [_],_,c,hc=>by simp [quoP] at hc
 | b :: d :: a,h,c,hc=>by
  rw [quoP] at hc;rcases List.mem_cons.1 hc with rfl | hc
  ·exact pQ F hs λy hy=>h y (NS _ hy)
  ·exact u6 F hs (λy hy=>h y (NS _ hy)) c hc
theorem Fq (F : bF O El) {c x : Int} (hc : El c) (hx : El x) : ko O [c] x=c:=by show O.add c (O.mul x 0)=c;rw [F.cQ hx,F.add_zero _ hc]
theorem Fx (F : bF O El) {s x : Int} (hs : El s) (hx : El x) : ∀ {a : Lz},(∀c ∈ a,El c)->ko O a x=O.add (O.mul (O.add x (O.neg s)) (ko O (quoP O s a) x)) (ko O a s)
 | [],_=>by show (0 : Int)=O.add (O.mul _ 0) 0;rw [F.cQ (F.cl.add _ _ hx (F.cl.neg _ hs)),F.add_zero _ F.zero]
 | [c],h=>by have hc:=h c (by simp);rw [Fq F hc hx,Fq F hc hs];show c=O.add (O.mul _ 0) c;rw [F.cQ (F.cl.add _ _ hx (F.cl.neg _ hs)),F.tI hc]
 | c :: d :: a,h=>by
  have hc:=h c (by simp);have ha : ∀y ∈ d :: a,El y:=λy hy=>h y (NS _ hy);have ih:=Fx F hs hx ha;have hAs:=pQ F hs ha;have hAx:=pQ F hx ha;have hq:=pQ F hx (u6 F hs ha);have hxs:=F.cl.add _ _ hx (F.cl.neg _ hs);have e1 : ko O (c :: d :: a) x=O.add c (O.mul x (ko O (d :: a) x)):=rfl;have e2 : ko O (c :: d :: a) s=O.add c (O.mul s (ko O (d :: a) s)):=rfl;have e3 : ko O (quoP O s (c :: d :: a)) x=O.add (ko O (d :: a) s) (O.mul x (ko O (quoP O s (d :: a)) x)):=rfl;rw [e1,e2,e3];generalize ko O (d :: a) s=A at *;generalize ko O (d :: a) x=B at *;generalize ko O (quoP O s (d :: a)) x=Q at *;generalize hD : O.add x (O.neg s)=D at *;have hxD : x=O.add D s:=by rw [<- hD,F.add_assoc _ _ _ hx (F.cl.neg _ hs) hs,F.lB hs,F.add_zero _ hx]
  have hDA:=F.cl.mul _ _ hxs hAs;have hsA:=F.cl.mul _ _ hs hAs;have hxQ:=F.cl.mul _ _ hx hq;have hDxQ:=F.cl.mul _ _ hxs hxQ;have hxA:=F.cl.mul _ _ hx hAs;have hDQ:=F.cl.mul _ _ hxs hq;have f1 : O.mul x B=O.add (O.mul D (O.mul x Q)) (O.mul x A):=by rw [ih,F.mul_add _ _ _ hx hDQ hAs,<- F.mul_assoc _ _ _ hx hxs hq,F.mul_comm _ _ hx hxs,F.mul_assoc _ _ _ hxs hx hq]
  have f2 : O.mul x A=O.add (O.mul D A) (O.mul s A):=by rw [F.mul_comm _ _ hx hAs,F.mul_comm _ _ hxs hAs,F.mul_comm _ _ hs hAs,<- F.mul_add _ _ _ hAs hxs hs,<- hxD]
  rw [f1,f2,F.mul_add _ _ _ hxs hAs hxQ];generalize O.mul D A=u at *;generalize O.mul s A=v at *;generalize O.mul D (O.mul x Q)=z at *;rw [F.add_comm _ _ hDA hDxQ,F.add_assoc _ _ _ hDxQ hDA (F.cl.add _ _ hc hsA),<- F.add_assoc _ _ _ hc hDxQ (F.cl.add _ _ hDA hsA),F.add_comm _ _ hc hDxQ,F.add_assoc _ _ _ hDxQ hc (F.cl.add _ _ hDA hsA),<- F.add_assoc _ _ _ hc hDA hsA,F.add_comm _ _ hc hDA,F.add_assoc _ _ _ hDA hc hsA]
theorem nG (F : bF O El) {s : Int} (hs : El s) : ∀ {l : Lz},(∀y ∈ l,y=0)->ko O l s=0
 | [],_=>rfl
 | y :: l,h=>by show O.add y (O.mul s (ko O l s))=0;rw [nG F hs λz hz=>h z (NS _ hz),h y (by simp),F.cQ hs,F.add_zero _ F.zero]
theorem yF (F : bF O El) {s : Int} (hs : El s) : ∀ {c : Int} {a : Lz},(∀y ∈ a,El y)->(∀y ∈ quoP O s (c :: a),y=0)->∀y ∈ a,y=0
 | c,[],_,_=>by simp
 | c,d :: a,h,hq=>by
  rw [quoP] at hq;have hd:=h d (by simp);have ha : ∀y ∈ a,El y:=λy hy=>h y (NS _ hy);have h1:=yF F hs ha λy hy=>hq y (NS _ hy);have h2 : ko O (d :: a) s=0:=hq _ (by simp);have h3 : d=0:=by have e : ko O (d :: a) s=O.add d (O.mul s (ko O a s)):=rfl;rw [e,nG F hs h1,F.cQ hs,F.add_zero _ hd] at h2;exact h2
  intro y hy;rcases List.mem_cons.1 hy with rfl | hy
  ·exact h3
  ·exact h1 y hy
theorem oa (F : bF O El) : ∀ {X a : Lz},X.Nodup->(∀x ∈ X,El x)->(∀c ∈ a,El c)->(∀x ∈ X,ko O a x=0)->a.length<=X.length->∀c ∈ a,c=0
 | [],a,_,_,_,_,hl=>by have e : a=[]:=NL (by simpa using hl);subst e;simp
 | s :: X,[],_,_,_,_,_=>by simp
 | s :: X,c :: a,hn,hX,ha,h0,hl=>by
  have hs:=hX s (by simp);have hX' : ∀x ∈ X,El x:=λx hx=>hX x (NS _ hx);have h1:=oa F (X:=X) (a:=quoP O s (c :: a)) (List.nodup_cons.1 hn).2 hX' (u6 F hs ha) (λx hx=>by
   have hxe:=hX' x hx;have h2:=Fx F hs hxe ha;rw [h0 x (NS _ hx),h0 s (by simp)] at h2;have hD:=F.cl.add _ _ hxe (F.cl.neg _ hs);have hQ:=pQ F hxe (u6 F hs ha);rw [F.add_zero _ (F.cl.mul _ _ hD hQ)] at h2;refine F.Al hD hQ (λe=>(List.nodup_cons.1 hn).1 ?_) h2.symm;have h3 : x=s:=by
    have h4:=F.iH hxe (F.cl.neg _ hs) e;have h5 : O.neg (O.neg s)=O.neg (O.neg x):=by rw [h4]
    rw [F.neg_neg hs,F.neg_neg hxe] at h5;exact h5.symm
   rw [<- h3];exact hx) (by rw [Ck];simp only [NP] at hl ⊢;omega)
  have h2:=yF F hs (λy hy=>ha y (NS _ hy)) h1;intro y hy;rcases List.mem_cons.1 hy with rfl | hy
  ·have h3:=h0 s (by simp);have e : ko O (y :: a) s=O.add y (O.mul s (ko O a s)):=rfl;have hz : ko O a s=0:=nG F hs h2;rw [e,hz,F.cQ hs,F.add_zero _ (ha y (by simp))] at h3;exact h3
  ·exact h2 y hy
end
def Sg:=@RS.row
def Su:=@lF.symm
def SD:=@RS.B4
def SJ:=@fE.refl
def SO:=@Rk.map
end Go.Proofs.YthglbncgemdcbaaGreat
