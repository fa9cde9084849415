import Derived.Test.YtcfmiocdlcapoaaGreatK7
import Derived.Test.YtcfmiocdlcapoaaGreatK4
import Derived.Laws.Bits64b
namespace Go.Proofs.YtcfmiocdlcapoaaGreat
set_option linter.unusedVariables false
set_option linter.unusedSimpArgs false
set_option linter.unusedSectionVars false
set_option maxRecDepth 100000
set_option maxHeartbeats 1600000
open Go.RowKit
def cvJ (P : Int) (a b : Lz) (i : Nat) (c : Lz) : Nat->Lz
 | 0=>c
 | j+1=>(cvJ P a b i c j).set (i+j) ((nth (cvJ P a b i c j) (i+j)+nth a i * nth b j) % P)
def qo (P : Int) (a b : Lz) (M n : Nat) : Nat->Lz
 | 0=>List.replicate n 0
 | i+1=>cvJ P a b i (qo P a b M n i) M
def qq (P : Int) (M : Nat) (mod : Lz) (i : Nat) (c : Lz) : Nat->Lz
 | 0=>c
 | j+1=>(qq P M mod i c j).set (i - M+j) ((nth (qq P M mod i c j) (i - M+j)+(P - nth (qq P M mod i c j) i) * nth mod j) % P)
def nZ (P : Int) (M : Nat) (mod : Lz) (c : Lz) : Nat->Lz
 | 0=>c
 | k+1=>qq P M mod (2 * M - 2 - k) (nZ P M mod c k) M
def mulL (P : Int) (M : Nat) (mod : Lz) (a b : Lz) : Lz:=(nZ P M mod (qo P a b M (2 * M - 1) M) (M - 1)).take M
def mulR (P : Int) (M : Nat) (mod : Lz) (x y : Int) : Int:=valu P (mulL P M mod (digs x P M) (digs y P M))
theorem cR.set {P : Int} {l : Lz} (h : cR P l) (i : Nat) {x : Int} (h0 : 0<=x) (h1 : x<P) : cR P (l.set i x):=by
 intro j
 by_cases hi : i<l.length
 ·rw [ff _ _ _ _ hi]
  split
  ·exact ⟨h0,h1⟩
  ·exact h j
 ·rw [List.set_eq_of_length_le (by omega)];exact h j
theorem cR.wJ {P : Int} (hP : 0<P) {l : Lz} (h : cR P l) (i : Nat) (x : Int) : cR P (l.set i (x % P)):=h.set i (Int.emod_nonneg _ (by omega)) (Int.emod_lt_of_pos _ hP)
theorem xW (P : Int) (a b : Lz) (i : Nat) (c : Lz) : ∀j,(cvJ P a b i c j).length=c.length
 | 0=>rfl
 | j+1=>by rw [cvJ,List.length_set,xW P a b i c j]
theorem sA {P : Int} (hP : 0<P) (a b : Lz) (i : Nat) {c : Lz} (h : cR P c) : ∀j,cR P (cvJ P a b i c j)
 | 0=>h
 | j+1=>cR.wJ hP (sA hP a b i h j) _ _
theorem iL (P : Int) (a b : Lz) (M n : Nat) : ∀i,(qo P a b M n i).length=n
 | 0=>by simp [qo]
 | i+1=>by rw [qo,xW,iL P a b M n i]
theorem nM {P : Int} (hP : 0<P) (a b : Lz) (M n : Nat) : ∀i,cR P (qo P a b M n i)
 | 0=>cR.replicate hP n
 | i+1=>sA hP a b i (nM hP a b M n i) M
theorem sy (P : Int) (M : Nat) (mod : Lz) (i : Nat) (c : Lz) : ∀j,(qq P M mod i c j).length=c.length
 | 0=>rfl
 | j+1=>by rw [qq,List.length_set,sy P M mod i c j]
theorem sk {P : Int} (hP : 0<P) (M : Nat) (mod : Lz) (i : Nat) {c : Lz} (h : cR P c) : ∀j,cR P (qq P M mod i c j)
 | 0=>h
 | j+1=>cR.wJ hP (sk hP M mod i h j) _ _
theorem jy (P : Int) (M : Nat) (mod : Lz) (c : Lz) : ∀k,(nZ P M mod c k).length=c.length
 | 0=>rfl
 | k+1=>by rw [nZ,sy,jy P M mod c k]
theorem nG {P : Int} (hP : 0<P) (M : Nat) (mod : Lz) {c : Lz} (h : cR P c) : ∀k,cR P (nZ P M mod c k)
 | 0=>h
 | k+1=>sk hP M mod _ (nG hP M mod h k) M
theorem cR.take {P : Int} (hP : 0<P) {l : Lz} (h : cR P l) (k : Nat) : cR P (l.take k):=by
 intro i
 have e : nth (l.take k) i=if i<k then nth l i else 0:=by
  simp only [nth,List.getD_eq_getElem?_getD,List.getElem?_take];split <;> rfl
 rw [e];split
 ·exact h i
 ·omega
theorem zR (P : Int) {M : Nat} (mod : Lz) (a b : Lz) (hM : 1<=M) : (mulL P M mod a b).length=M:=by
 unfold mulL;rw [List.length_take,jy,iL];omega
theorem As {P : Int} (hP : 0<P) (M : Nat) (mod : Lz) (a b : Lz) : cR P (mulL P M mod a b):=cR.take hP (nG hP M mod (nM hP a b M _ M) _) M
structure p9 (w : World) (P : Int) (m : Nat) (am : OA) (mn : Nat) (mod : Lz) : Prop where
 ints : Ints w am mn mod
 low : 1<m->mn=m
 dig : cR P mod
theorem mB {l : Lz} {k i : Nat} (h : i<k) : nth (l.take k) i=nth l i:=by
 simp only [nth,List.getD_eq_getElem?_getD,List.getElem?_take,if_pos h]
section
structure IL (O O' : aQ) (El : Int->Prop) : Prop where
 add : ∀x y,El x->El y->O.add x y=O'.add x y
 mul : ∀x y,El x->El y->O.mul x y=O'.mul x y
 neg : ∀x,El x->O.neg x=O'.neg x
 inv : ∀x,El x->x ≠ 0->O.inv x=O'.inv x
variable {O O' : aQ} {El : Int->Prop}
theorem lV (h : IL O O' El) (hO : sr O El) : ∀(v u : Lz) (s : Int),(∀x ∈ v,El x)->(∀x ∈ u,El x)->El s->bJ O v s u=bJ O' v s u
 | [],_,_,_,_,_=>by simp [bJ]
 | _ :: _,[],_,_,_,_=>by simp [bJ]
 | x :: v,y :: u,s,hv,hu,hs=>by
  have ih:=lV h hO v u s (λz hz=>hv z (by simp [hz])) (λz hz=>hu z (by simp [hz])) hs
  unfold bJ at ih ⊢
  have hx:=hv x (by simp)
  have hy:=hu y (by simp)
  simp only [List.zipWith_cons_cons,ih]
  rw [h.mul s y hs hy,h.add x _ hx (by rw [<- h.mul s y hs hy];exact hO.mul s y hs hy)]
theorem xM (h : IL O O' El) (hO : sr O El) {pv r : Lz} {c m : Nat} (hc : c<m) (hp : pv.length=m/\∀x ∈ pv,El x) (hr : r.length=m/\∀x ∈ r,El x) : bW O pv c r=bW O' pv c r:=by
 have hel : El (nth r c):=hr.2 _ (aN (by omega))
 unfold bW
 rw [h.neg _ hel]
 split
 ·rfl
 ·exact lV h hO _ _ _ hr.2 hp.2 (by rw [<- h.neg _ hel];exact hO.neg _ hel)
theorem rq (h : IL O O' El) (hO : sr O El) {m : Nat} {L : Ll} (hL : bH El m L) {t c : Nat} (ht : t<L.length) (hc : c<m) : ∀i,i<=L.length->clearTo O t c L i=clearTo O' t c L i
 | 0,_=>rfl
 | i+1,hi=>by
  have ih:=rq h hO hL ht hc i (by omega)
  have hR:=bH.clear hO hL ht hc i (by omega)
  have hl:=df O t c L i
  unfold clearTo
  rw [<- ih]
  split
  ·rfl
  ·rw [xM h hO hc (hR.row (by omega)) (hR.row (by omega))]
theorem zB (h : IL O O' El) (hO : sr O El) {m : Nat} {L : Ll} (hL : bH El m L) {t c : Nat} (ht : t<L.length) (hc : c<m) (h0 : nth (aj L t) c ≠ 0) : bp O L t c=bp O' L t c:=by
 have hr:=hL.row ht
 have hel : El (nth (aj L t) c):=hr.2 _ (aN (by omega))
 unfold bp
 rw [h.inv _ hel h0]
 split
 ·rfl
 ·congr 1
  refine List.map_congr_left λx hx=>?_
  exact h.mul _ _ (by rw [<- h.inv _ hel h0];exact hO.inv _ hel h0) (hr.2 x hx)
theorem BA (h : IL O O' El) (hO : sr O El) {m : Nat} {L : Ll} (hL : bH El m L) {t k c : Nat} (ht : t<L.length) (hk : k<L.length) (hc : c<m) (h0 : nth (aj L k) c ≠ 0) (htk : t<=k) :
  eB O L t k c=eB O' L t k c/\bH El m (eB O L t k c):=by
 have hL1 : bH El m (if k=t then L else bm L t k):=by split;exact hL;exact hL.swap ht hk
 have hl1 : (if k=t then L else bm L t k).length=L.length:=by split;rfl;exact dK _ _ _
 have hn1 : nth (aj (if k=t then L else bm L t k) t) c ≠ 0:=by
  split
  ·rename_i e;subst e;exact h0
  ·rename_i e
   have : aj (bm L t k) t=aj L k:=by
    unfold bm
    rw [fP _ _ _ _ (by simpa using hk),if_neg (by omega),fP _ _ _ _ ht,if_pos rfl]
   rw [this];exact h0
 rw [gQ,gQ,<- zB h hO hL1 (by omega) hc hn1]
 have hL2:=hL1.norm hO (t:=t) (c:=c) (by omega) hc hn1
 have hl2 : (bp O (if k=t then L else bm L t k) t c).length=L.length:=by rw [dg,hl1]
 exact ⟨rq h hO hL2 (by omega) hc _ (by omega),bH.clear hO hL2 (by omega) hc _ (by omega)⟩
theorem gg (h : IL O O' El) (hO : sr O El) {m : Nat} {L : Ll} (hL : bH El m L) : ∀k,k<=m->aA O L k=aA O' L k/\bH El m (aA O L k).1
 | 0,_=>⟨rfl,hL⟩
 | k+1,hk=>by
  obtain ⟨h1,h2⟩:=gg h hO hL k (by omega)
  obtain ⟨Lk,P,hLP⟩ : ∃Lk P,aA O L k=(Lk,P):=⟨_,_,rfl⟩
  rw [hLP] at h1 h2
  have hlen : Lk.length=L.length:=by have:=bM O L k;rw [hLP] at this;exact this
  by_cases hlt : P.length<Lk.length
  ·rw [dp hLP.symm hlt,dp h1 hlt]
   by_cases hf : bu Lk k P.length=Lk.length
   ·rw [if_pos hf,if_pos hf];exact ⟨rfl,h2⟩
   ·rw [if_neg hf,if_neg hf]
    have hb:=oO (L:=Lk) (c:=k) (k:=P.length) (by omega)
    have hne : nth (aj Lk (bu Lk k P.length)) k ≠ 0:=kB Lk k (Lk.length - P.length) P.length (by
     have : findTo Lk k P.length (Lk.length - P.length)=bu Lk k P.length:=rfl
     omega)
    have hlt2 : bu Lk k P.length<Lk.length:=by omega
    have:=BA h hO (L:=Lk) h2 (t:=P.length) (k:=bu Lk k P.length) (c:=k) hlt hlt2 (by omega) hne hb.1
    exact ⟨by rw [this.1],this.2⟩
  ·have e : ∀(O : aQ),aA O L k=(Lk,P)->aA O L (k+1)=(Lk,P):=λO he=>by
    rw [aA]
    simp only [he]
    rw [if_neg hlt]
   rw [e O hLP,e O' h1.symm]
   exact ⟨rfl,h2⟩
end
structure l5 (w : World) (P : Int) (m : Nat) (am : OA) (mn : Nat) (mod : Lz) : Prop where
 rf : RF P m
 mods : p9 w P m am mn mod
theorem pA {P : Int} {m : Nat} (h : RF P m) (mod : Lz) (x y : Int) : ee P m (mulR P m mod x y):=by
 have hP : 0<P:=by have:=h.p2;omega
 have:=pZ hP (mulL P m mod (digs x P m) (digs y P m)) (As hP m mod _ _)
 rwa [zR P mod _ _ h.m1] at this
def invTo (f : Int->Int) : Nat->Int->Int
 | 0,_=>0
 | n+1,y=>if f y=1 then y else invTo f n (y+1)
def ei (P : Int) (m : Nat) (mod : Lz) (x : Int) : Int:=invTo (mulR P m mod x) ((aK P m).toNat - 1) 1
def fw (P : Int) (m : Nat) (mod : Lz) : aQ:=⟨fsum P m,mulR P m mod,fneg P m,ei P m mod⟩
section
variable {P : Int} {M : Nat} {low : Nat->Int}
def Bq (M : Nat) (low : Nat->Int) (n : Nat) (c : Lz) : Nat->Int:=λi=>sm n (λk=>nth c k * fV M low k (eV 0) i)
theorem IS {n k : Nat} {c : Lz} {z : Int} (f : Nat->Int) (hk : k<n) (hl : k<c.length) : sm n (λj=>nth (c.set k z) j * f j)=sm n (λj=>nth c j * f j)+(z - nth c k) * f k:=by
 have h1 : sm n (λj=>nth (c.set k z) j * f j)=sm n (λj=>nth c j * f j+(if j=k then (z - nth c k) * f k else 0)):=cF λj _=>by
  rw [ff _ _ _ _ hl]
  by_cases e : j=k
  ·subst e;rw [if_pos rfl,if_pos rfl,Int.sub_mul];omega
  ·rw [if_neg e,if_neg e];omega
 rw [h1,wz]
 congr 1
 rw [kY hk λi _ hne=>if_neg hne,if_pos rfl]
theorem yZ {n k : Nat} {c : Lz} {d : Int} (hk : k<n) (hl : k<c.length) :
  Cg P (Bq M low n (c.set k ((nth c k+d) % P))) (λi=>Bq M low n c i+d * fV M low k (eV 0) i):=λi=>by
 simp only [Bq]
 rw [IS (λj=>fV M low j (eV 0) i) hk hl]
 obtain ⟨e,he⟩:=qW P (nth c k+d)
 refine ⟨e * fV M low k (eV 0) i,?_⟩
 have h1 : (nth c k+d) % P - nth c k=d+P * e:=by omega
 rw [h1,Int.add_mul,Int.mul_assoc]
 omega
theorem GF {a b : Lz} {i n : Nat} {c : Lz} (hl : c.length=n) : ∀j,i+j<=n ->
  Cg P (Bq M low n (cvJ P a b i c j)) (λs=>Bq M low n c s+sm j (λj=>nth a i * nth b j * fV M low (i+j) (eV 0) s))
 | 0,_=>Cg.of_eq (by funext s;simp [cvJ,sm])
 | j+1,hj=>by
  have ih:=GF (a:=a) (b:=b) (i:=i) hl j (by omega)
  rw [cvJ]
  refine (yZ (by omega) (by rw [xW];omega)).trans ((Cg.add ih (Cg.refl P _)).trans (Cg.of_eq ?_))
  funext s
  simp only [sm]
  omega
theorem GC {a b : Lz} {n : Nat} (hn : 2 * M - 1<=n) (hM : 1<=M) : ∀i,i<=M ->
  Cg P (Bq M low n (qo P a b M n i)) (λs=>sm i (λi=>sm M (λj=>nth a i * nth b j * fV M low (i+j) (eV 0) s)))
 | 0,_=>Cg.of_eq (by
  funext s
  simp only [Bq,qo,sm]
  rw [cF (g:=λ_=>0) λk _=>by
   have : nth (List.replicate n 0) k=0:=by simp only [nth,List.getD_eq_getElem?_getD,List.getElem?_replicate];split <;> rfl
   rw [this,Int.zero_mul],kn])
 | i+1,hi=>by
  have ih:=GC (a:=a) (b:=b) hn hM i (by omega)
  rw [qo]
  refine (GF (iL P a b M n i) M (by omega)).trans ((Cg.add ih (Cg.refl P _)).trans (Cg.of_eq ?_))
  funext s
  simp only [sm]
theorem JW (hM : 1<=M) : fV M low M (eV 0)=λi=>if i<M then - low i else 0:=by
 obtain ⟨m,rfl⟩ : ∃m,M=m+1:=⟨M - 1,by omega⟩
 rw [fV,Cs m (by omega)]
 funext i
 simp only [uJ,eV]
 by_cases h : i<m+1
 ·rw [if_pos h,if_pos h,Nat.add_sub_cancel]
  by_cases h0 : i=0
  ·rw [if_pos h0,if_pos rfl];omega
  ·rw [if_neg h0,if_neg (by omega),if_pos rfl];omega
 ·rw [if_neg h,if_neg h]
theorem IU (hM : 1<=M) (t : Nat) : (λs=>sm M (λj=>low j * fV M low (t+j) (eV 0) s))=λs=>- fV M low (t+M) (eV 0) s:=by
 have h1 : (λs=>sm M (λj=>low j * fV M low (t+j) (eV 0) s))=fV M low t (λs=>sm M (λj=>low j * fV M low j (eV 0) s)):=by
  rw [xL]
  funext s
  refine cF λj _=>?_
  rw [lL,oU]
 have h2 : (λs=>sm M (λj=>low j * fV M low j (eV 0) s))=λs=>(-1) * fV M low M (eV 0) s:=by
  funext s
  rw [congrFun (JW (low:=low) hM) s]
  have h3 : sm M (λj=>low j * fV M low j (eV 0) s)=sm M (λj=>low j * eV j s):=cF λj hj=>by rw [Cs j hj]
  rw [h3]
  by_cases hs : s<M
  ·rw [kY hs λi _ hne=>by simp only [eV];rw [if_neg (by omega)];omega]
   rw [if_pos hs]
   simp [eV]
  ·rw [if_neg hs,cF (g:=λ_=>0) λj hj=>by simp only [eV];rw [if_neg (by omega)];omega,kn];rfl
 rw [h1,h2,lL]
 funext s
 rw [<- oU]
 omega
theorem CF {mod : Lz} {i : Nat} {c : Lz} (hi : M<=i) (hl : i<c.length) : ∀j,j<=M->nth (qq P M mod i c j) i=nth c i
 | 0,_=>rfl
 | j+1,hj=>by
  rw [qq,ff _ _ _ _ (by rw [sy];omega),if_neg (by omega)]
  exact CF hi hl j (by omega)
theorem Ey {mod : Lz} {i : Nat} {c : Lz} (hi : M<=i) (hl : i<c.length) : ∀j,j<=M ->
  Cg P (Bq M low i (qq P M mod i c j)) (λs=>Bq M low i c s+(- nth c i) * sm j (λj=>nth mod j * fV M low (i - M+j) (eV 0) s))
 | 0,_=>Cg.of_eq (by funext s;simp [qq,sm])
 | j+1,hj=>by
  have ih:=Ey (mod:=mod) hi hl j (by omega)
  rw [qq,CF hi hl j (by omega)]
  refine (yZ (by omega) (by rw [sy];omega)).trans ?_
  refine (Cg.add ih (Cg.refl P _)).trans ?_
  intro s
  simp only [sm]
  generalize sm j (λj=>nth mod j * fV M low (i - M+j) (eV 0) s)=X
  generalize fV M low (i - M+j) (eV 0) s=Y
  refine ⟨nth mod j * Y,?_⟩
  simp only [Int.mul_add,Int.sub_mul,Int.neg_mul,Int.mul_assoc]
  omega
theorem Ev {mod : Lz} (hM : 1<=M) (hlow : ∀j,low j=nth mod j) {c : Lz} (hl : c.length=2 * M - 1) : ∀k,k<=M - 1 ->
  Cg P (Bq M low (2 * M - 1 - k) (nZ P M mod c k)) (Bq M low (2 * M - 1) c)
 | 0,_=>Cg.refl P _
 | k+1,hk=>by
  have ih:=Ev hM hlow hl k (by omega)
  rw [nZ]
  refine Cg.trans ?_ ih
  obtain ⟨i,hi⟩ : ∃i,2 * M - 2 - k=i:=⟨_,rfl⟩
  rw [hi,show 2 * M - 1 - (k+1)=i by omega,show 2 * M - 1 - k=i+1 by omega]
  refine (Ey (low:=low) (by omega) (by rw [jy];omega) M (Nat.le_refl _)).trans (Cg.of_eq ?_)
  funext s
  have h1 : sm M (λj=>low j * fV M low (i - M+j) (eV 0) s) = - fV M low (i - M+M) (eV 0) s:=congrFun (IU (low:=low) hM (i - M)) s
  rw [cF (g:=λj=>low j * fV M low (i - M+j) (eV 0) s) λj _=>by rw [hlow],h1,show i - M+M=i by omega]
  simp only [Bq,sm]
  rw [Int.neg_mul,Int.mul_neg]
  omega
theorem yQ (c : Lz) (hl : M<=c.length) : Bq M low M c=nth (c.take M):=by
 funext s
 simp only [Bq]
 rw [cF (g:=λj=>nth c j * eV j s) λj hj=>by rw [Cs j hj]]
 by_cases hs : s<M
 ·rw [kY hs λi _ hne=>by simp only [eV];rw [if_neg (by omega)];omega,mB hs]
  simp [eV]
 ·rw [jn (by rw [List.length_take];omega),cF (g:=λ_=>0) λj hj=>by simp only [eV];rw [if_neg (by omega)];omega,kn]
end
theorem Iu {P : Int} {m : Nat} (hf : RF P m) (mod : Lz) (x y : Int) : mulR P m mod x y=dz P m mod x y:=by
 have hres:=hf.res
 have hP:=hres.pos
 have hm1:=hf.m1
 refine (pA hf mod x y).ext hres (gu hres x y) (Cg.trans ?_ (gG hP m mod x y).symm)
 have hd : dV P m (mulR P m mod x y)=nth (mulL P m mod (digs x P m) (digs y P m)):=by
  unfold dV mulR
  have:=nD (P:=P) (mulL P m mod (digs x P m) (digs y P m)) (As hP m mod _ _)
  rw [zR P mod _ _ hm1] at this
  rw [this]
 rw [hd]
 have hc:=GC (P:=P) (M:=m) (low:=nth (nX m mod)) (a:=digs x P m) (b:=digs y P m) (n:=2 * m - 1) (Nat.le_refl _) hm1 m (Nat.le_refl _)
 have hx : Cg P (Bq m (nth (nX m mod)) (2 * m - 1) (qo P (digs x P m) (digs y P m) m (2 * m - 1) m)) (gS m (nth (nX m mod)) (dV P m x) (dV P m y)):=by
  rw [mD (qa P m y)]
  exact hc
 refine Cg.trans ?_ hx
 unfold mulL
 by_cases h1 : 1<m
 ·have hlow : ∀j,nth (nX m mod) j=nth mod j:=λj=>by rw [nX,if_pos h1]
  have hr:=Ev (P:=P) hm1 hlow (iL P (digs x P m) (digs y P m) m (2 * m - 1) m) (m - 1) (Nat.le_refl _)
  rw [show 2 * m - 1 - (m - 1)=m by omega,yQ _ (by rw [jy,iL];omega)] at hr
  exact hr
 ·obtain rfl : m=1:=by omega
  rw [<- yQ (M:=1) (low:=nth (nX 1 mod)) _ (by rw [jy,iL];omega)]
  exact Cg.refl P _
theorem IK (a : Nat) (h : a<4294967296) : bits .and .u64 (a : Int) 4294967295=a:=by
 have h2:=bits_and_u64_nat a 4294967295 (by omega) (by omega)
 have e : a &&& 4294967295=a % 4294967296:=Nat.and_two_pow_sub_one_eq_mod a 32
 rw [e,Nat.mod_eq_of_lt h] at h2
 exact h2
theorem yp {n : Int} (h : 0<=n) (h2 : n<=10000000) : wrap64 n=n:=by unfold wrap64;omega
theorem CZ (x y : Nat) (hx : x<=65536) (hy : y<=100) (w : World) :
  Calls Tryz.prog 223 #[.int .u64 x,.int .u64 y] w λe w'=>e = .returned (.tuple #[.int .u64 0,.int .u64 ((x : Int) * y)])/\w=w':=by
 have hp : (x : Int) * y<=65536 * 100:=Int.mul_le_mul (by omega) (by omega) (by omega) (by omega)
 have hp0 : 0<=(x : Int) * y:=Int.mul_nonneg (by omega) (by omega)
 obtain ⟨p,hpe⟩ : ∃p : Nat,(x : Int) * y=p:=⟨((x : Int) * y).toNat,by omega⟩
 have e1:=IK x (by omega)
 have e2:=IK y (by omega)
 have e3 : (x : Int) / 4294967296=0:=by omega
 have e4 : (y : Int) / 4294967296=0:=by omega
 have e5 : (p : Int) / 4294967296=0:=by omega
 have e6 : bits .and .u64 0 4294967295=0:=by decide
 have kw : IntKind.u64.wrap (p : Int)=p:=by rw [IntKind.wrap_u64];omega
 have Hp:=Z5 hpe
 rw [hpe]
 go_enter Tryz.func223,Tryz.ntmps223
 go_wp2
 go_ret2
 first
  | exact ⟨rfl,rfl⟩
  | (refine ⟨?_,rfl⟩;simp)
theorem C3 (x y : Nat) (hx : x<18446744073709551616) (hy : 1<=y) (hy2 : y<=100) (w : World) :
  Calls Tryz.prog 224 #[.int .u64 0,.int .u64 x,.int .u64 y] w λe w'=>e = .returned (.tuple #[.int .u64 ((x / y : Nat) : Int),.int .u64 ((x % y : Nat) : Int)])/\Below w.heap.size w w':=by
 have h0 : ((y : Int) == 0)=false:=by simp;omega
 have h1 : decide ((y : Int)<=0)=false:=by simp;omega
 have hy0 : ((y : Int)) ≠ 0:=by omega
 have hq : (x : Int).tdiv y=((x / y : Nat) : Int):=by rw [Int.tdiv_eq_ediv_of_nonneg (by omega)];simp
 have hr : (x : Int).tmod y=((x % y : Nat) : Int):=by rw [Int.tmod_eq_emod_of_nonneg (by omega)];simp
 have hd : x / y<=x:=Nat.div_le_self x y
 have hm : x % y<y:=Nat.mod_lt x (by omega)
 generalize x / y=q at *
 generalize x % y=r at *
 have kq : IntKind.u64.wrap (q : Int)=(q : Int):=by rw [IntKind.wrap_u64];omega
 have kr : IntKind.u64.wrap (r : Int)=(r : Int):=by rw [IntKind.wrap_u64];omega
 clear hd hm
 have hw:=Below.refl w.heap.size w
 have hw2:=(Below.refl w.heap.size w).drew
 go_enter Tryz.func224,Tryz.ntmps224
 go_upto_region 6 with fail
 go_quiet (fail)
 go_wp2_with fail
 go_ret2
 exact ⟨rfl,(bd.below ⟨_,rfl⟩)⟩
theorem AW (n k : Nat) (w : World) (hn : n<=64) (hk : k<=n) :
  Calls Tryz.prog 169 #[.int .i64 n,.int .i64 k,.int .i64 65536] w λe w'=>e = .returned (.tuple #[.int .i64 (sf n k),.int .i64 (rT n k)])/\Below w.heap.size w w':=by
 obtain ⟨t,ht⟩ : ∃t : Nat,min k (n - k)=t:=⟨_,rfl⟩
 have htk : chN n k=chN n t:=by
  rcases Nat.le_total k (n - k) with h | h
  ·rw [<- ht,Nat.min_eq_left h]
  ·rw [<- ht,Nat.min_eq_right h];exact o0 n k hk
 have hmin : min (k : Int) ((n : Int) - k)=t:=by omega
 have htn : t<=n:=by omega
 have hkn : decide (n<k)=false:=by simp;omega
 have HcE : Hid (¬ chN n t<=65536->sf n k=0/\rT n k=8):=λh=>by
  unfold sf rT
  rw [htk,if_neg h,if_neg h];exact ⟨rfl,rfl⟩
 have HcO : Hid (chN n t<=65536->sf n k=chN n t/\rT n k=0):=λh=>by
  unfold sf rT
  rw [htk,if_pos h,if_pos h];exact ⟨rfl,rfl⟩
 clear htk ht
 go_enter Tryz.func169,Tryz.ntmps169
 go_upto_region 7 with fail
 go_cut [1] (λv wx=>v = .int .i64 t/\wx=w)
 case first =>
  by_cases hm : (n : Int) - k<k
  ·have hmd : decide ((n : Int) - k<k)=true:=decide_eq_true hm
   have he : (n : Int) - k=t:=by omega
   go_wp2_with fail
   go_meet
   exact ⟨by first | exact congrArg (Value.int .i64) (by omega) | rfl | (simp [he]),rfl⟩
  ·have hmd : decide ((n : Int) - k<k)=false:=decide_eq_false hm
   have he : (k : Int)=t:=by omega
   go_wp2_with fail
   go_meet
   exact ⟨by first | exact congrArg (Value.int .i64) (by omega) | rfl | (simp [he]),rfl⟩
 obtain ⟨rfl,hw9⟩:=hcut
 obtain rfl:=hw9.symm
 clear hw9
 go_wp2_with fail
 go_loopw [9,8] (λiv ov wr=>∃i : Nat,i<=t/\iv = .int .i64 ((i : Int)+1)/\ov = .int .i64 (chN (n - t+i) i : Nat)/\chN (n - t+i) i<=65536/\Below w.heap.size w wr) (λiv _ _=>t+1 - (intOf iv).toNat)
 case atStart=>exact ⟨0,Nat.zero_le _,rfl,by rw [ie];rfl,by rw [ie];omega,Below.refl _ _⟩
 case round =>
  obtain ⟨i,hi,rfl,rfl,hc,hb⟩:=hrel
  by_cases hlt : i<t
  ·have Hs : Hid (chN (n - t+i) i * (n - t+(i+1)) / (i+1)=chN (n - t+(i+1)) (i+1)):=Fh n t i
   have Hle : Hid (chN (n - t+(i+1)) (i+1)<=chN n t):=qE htn (t - (i+1)) (i+1) (by omega)
   obtain ⟨x,hx⟩ : ∃x,chN (n - t+i) i=x:=⟨_,rfl⟩
   rw [hx] at hc Hs ⊢
   obtain ⟨y,hy⟩ : ∃y,n - t+(i+1)=y:=⟨_,rfl⟩
   have hye : ((n : Int) - (t : Int)+((i : Int)+1))=y:=by omega
   rw [hy] at Hs Hle
   have Hy:=Z5 hy
   obtain ⟨u,hu⟩ : ∃u,chN (n - t+(i+1)) (i+1)=u:=⟨_,rfl⟩
   rw [hy] at hu
   rw [hu] at Hs Hle
   have hx1 : 1<=x:=by rw [<- hx];exact kp _ _ (by omega)
   obtain ⟨j,hj⟩ : ∃j,i+1=j:=⟨_,rfl⟩
   have hji : (i : Int)+1=j:=by omega
   obtain ⟨p,hp⟩ : ∃p,x * y=p:=⟨_,rfl⟩
   have hpe : (x : Int) * (y : Int)=p:=by rw [<- hp];simp
   have hpl : p<=65536 * 64:=by rw [<- hp];have h1:=Nat.mul_le_mul hc (show y<=64 by omega);omega
   rw [hp,hj] at Hs
   have hup : u<=p:=by rw [<- Hs.out];exact Nat.div_le_self p j
   have Hu:=Z5 hu
   have Hj:=Z5 hj
   have d2 : decide ((j : Int)<=0)=false:=by simp;omega
   have k1 : IntKind.u64.wrap (x : Int)=x:=by rw [IntKind.wrap_u64];omega
   have k2 : IntKind.u64.wrap (y : Int)=y:=by rw [IntKind.wrap_u64];omega
   have k3 : IntKind.u64.wrap (j : Int)=j:=by rw [IntKind.wrap_u64];omega
   have k4 : IntKind.i64.wrap (u : Int)=u:=IntWalk.i64_in _ (by omega)
   have K5 : Hid (wrap64 (y : Int)=y):=yp (by omega) (by omega)
   have Hm:=Z5 (CZ x y hc (by omega))
   rw [hpe] at Hm
   have Hd:=Z5 (C3 p j (by omega) (by omega) (by omega))
   rw [Hs.out] at Hd
   have Hji:=Z5 hji
   rw [hji] at hye ⊢
   have d1 : decide (j<=t)=true:=by simp;omega
   have d2' : decide (j=0)=false:=by simp;omega
   clear hx hy hu hp hup hpl hji hj Hs hpe
   go_wp2_with fail
   rw [K5.out,k2]
   with_reducible refine (Hm.out wr).mono ?_
   rintro e w' ⟨rfl,rfl⟩
   go_wp2_with fail
   with_reducible refine (Hd.out wr).mono ?_
   rintro e w5 ⟨rfl,hb5⟩
   have hb6:=Below.next hb hb5
   by_cases hbig : u<=65536
   ·have d3 : decide ((65536 : Int)<(u : Int))=false:=by simp;omega
    have d3' : decide (65536<u)=false:=by simp;omega
    go_wp2_with fail
    have h2 : wrap64 ((j : Int)+1)=(j : Int)+1:=yp (by omega) (by have:=Hj.out;omega)
    have H2:=Z5 h2
    clear h2 k1 k2 k3 k4
    go_roundw
    case rel=>exact ⟨i+1,by omega,by rw [H2.out];have:=Hji.out;congr 1;omega,by rw [Hy.out,Hu.out],by rw [Hy.out,Hu.out];exact hbig,hb6⟩
    case measure=>have:=Hj.out;rw [H2.out];simp [intOf] <;> omega
   ·have d3 : decide ((65536 : Int)<(u : Int))=true:=by simp;omega
    have d3' : decide (65536<u)=true:=by simp;omega
    have Hb:=Z5 (HcE.out λh=>by have:=Hle.out;omega)
    clear hbig
    go_wp2_with fail
    go_ret2
    exact ⟨cO Hb.out.1.symm Hb.out.2.symm,hb6⟩
  ·obtain rfl : i=t:=by omega
   have d1 : decide ((i : Int)+1<=(i : Int))=false:=by simp;omega
   rw [show n - i+i=n by omega] at hc ⊢
   have Hb:=Z5 (HcO.out hc)
   generalize chN n i=z at *
   go_wp2_with fail
   go_ret2
   exact ⟨cO Hb.out.1.symm Hb.out.2.symm,hb⟩
end Go.Proofs.YtcfmiocdlcapoaaGreat
