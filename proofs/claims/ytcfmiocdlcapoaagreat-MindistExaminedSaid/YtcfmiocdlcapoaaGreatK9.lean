/-  -/
import Derived.Test.YtcfmiocdlcapoaaGreatK7
import Derived.Test.YtcfmiocdlcapoaaGreatK4
import Derived.Laws.Bits64b
namespace Go.Proofs.YtcfmiocdlcapoaaGreat
set_option linter.unusedVariables false
set_option linter.unusedSimpArgs false
set_option linter.unusedSectionVars false

section
open Go.RowKit
def cvJ (P : Int) (a b : List Int) (i : Nat) (c : List Int) : Nat->List Int
 | 0=>c
 | j+1=>(cvJ P a b i c j).set (i+j) ((nth (cvJ P a b i c j) (i+j)+nth a i * nth b j) % P)
def cvI (P : Int) (a b : List Int) (M n : Nat) : Nat->List Int
 | 0=>List.replicate n 0
 | i+1=>cvJ P a b i (cvI P a b M n i) M
def rdJ (P : Int) (M : Nat) (mod : List Int) (i : Nat) (c : List Int) : Nat->List Int
 | 0=>c
 | j+1=>(rdJ P M mod i c j).set (i - M+j) ((nth (rdJ P M mod i c j) (i - M+j)+(P - nth (rdJ P M mod i c j) i) * nth mod j) % P)
def rdT (P : Int) (M : Nat) (mod : List Int) (c : List Int) : Nat->List Int
 | 0=>c
 | k+1=>rdJ P M mod (2 * M - 2 - k) (rdT P M mod c k) M
def mulL (P : Int) (M : Nat) (mod : List Int) (a b : List Int) : List Int:=(rdT P M mod (cvI P a b M (2 * M - 1) M) (M - 1)).take M
def mulR (P : Int) (M : Nat) (mod : List Int) (x y : Int) : Int:=valu P (mulL P M mod (digs x P M) (digs y P M))
theorem Dig.set {P : Int} {l : List Int} (h : Dig P l) (i : Nat) {x : Int} (h0 : 0<=x) (h1 : x<P) : Dig P (l.set i x):=by
 intro j
 by_cases hi : i<l.length
 ·rw [nth_set _ _ _ _ hi]
  split
  ·exact ⟨h0,h1⟩
  ·exact h j
 ·rw [List.set_eq_of_length_le (by omega)];exact h j
theorem Dig.setMod {P : Int} (hP : 0<P) {l : List Int} (h : Dig P l) (i : Nat) (x : Int) : Dig P (l.set i (x % P)):=h.set i (Int.emod_nonneg _ (by omega)) (Int.emod_lt_of_pos _ hP)
theorem cvJ_len (P : Int) (a b : List Int) (i : Nat) (c : List Int) : ∀j,(cvJ P a b i c j).length=c.length
 | 0=>rfl
 | j+1=>by rw [cvJ,List.length_set,cvJ_len P a b i c j]
theorem cvJ_dig {P : Int} (hP : 0<P) (a b : List Int) (i : Nat) {c : List Int} (h : Dig P c) : ∀j,Dig P (cvJ P a b i c j)
 | 0=>h
 | j+1=>Dig.setMod hP (cvJ_dig hP a b i h j) _ _
theorem cvI_len (P : Int) (a b : List Int) (M n : Nat) : ∀i,(cvI P a b M n i).length=n
 | 0=>by simp [cvI]
 | i+1=>by rw [cvI,cvJ_len,cvI_len P a b M n i]
theorem cvI_dig {P : Int} (hP : 0<P) (a b : List Int) (M n : Nat) : ∀i,Dig P (cvI P a b M n i)
 | 0=>Dig.replicate hP n
 | i+1=>cvJ_dig hP a b i (cvI_dig hP a b M n i) M
theorem rdJ_len (P : Int) (M : Nat) (mod : List Int) (i : Nat) (c : List Int) : ∀j,(rdJ P M mod i c j).length=c.length
 | 0=>rfl
 | j+1=>by rw [rdJ,List.length_set,rdJ_len P M mod i c j]
theorem rdJ_dig {P : Int} (hP : 0<P) (M : Nat) (mod : List Int) (i : Nat) {c : List Int} (h : Dig P c) : ∀j,Dig P (rdJ P M mod i c j)
 | 0=>h
 | j+1=>Dig.setMod hP (rdJ_dig hP M mod i h j) _ _
theorem rdT_len (P : Int) (M : Nat) (mod : List Int) (c : List Int) : ∀k,(rdT P M mod c k).length=c.length
 | 0=>rfl
 | k+1=>by rw [rdT,rdJ_len,rdT_len P M mod c k]
theorem rdT_dig {P : Int} (hP : 0<P) (M : Nat) (mod : List Int) {c : List Int} (h : Dig P c) : ∀k,Dig P (rdT P M mod c k)
 | 0=>h
 | k+1=>rdJ_dig hP M mod _ (rdT_dig hP M mod h k) M
theorem Dig.take {P : Int} (hP : 0<P) {l : List Int} (h : Dig P l) (k : Nat) : Dig P (l.take k):=by
 intro i
 have e : nth (l.take k) i=if i<k then nth l i else 0:=by
  simp only [nth,List.getD_eq_getElem?_getD,List.getElem?_take];split <;> rfl
 rw [e];split
 ·exact h i
 ·omega
theorem mulL_len (P : Int) {M : Nat} (mod : List Int) (a b : List Int) (hM : 1<=M) : (mulL P M mod a b).length=M:=by
 unfold mulL;rw [List.length_take,rdT_len,cvI_len];omega
theorem mulL_dig {P : Int} (hP : 0<P) (M : Nat) (mod : List Int) (a b : List Int) : Dig P (mulL P M mod a b):=Dig.take hP (rdT_dig hP M mod (cvI_dig hP a b M _ M) _) M
structure Mods (w : World) (P : Int) (m : Nat) (am : Option Addr) (mn : Nat) (mod : List Int) : Prop where
 ints : Ints w am mn mod
 low : 1<m->mn=m
 dig : Dig P mod
theorem nth_take {l : List Int} {k i : Nat} (h : i<k) : nth (l.take k) i=nth l i:=by
 simp only [nth,List.getD_eq_getElem?_getD,List.getElem?_take,if_pos h]
end

section
structure Agr (O O' : FOps) (El : Int->Prop) : Prop where
 add : ∀x y,El x->El y->O.add x y=O'.add x y
 mul : ∀x y,El x->El y->O.mul x y=O'.mul x y
 neg : ∀x,El x->O.neg x=O'.neg x
 inv : ∀x,El x->x ≠ 0->O.inv x=O'.inv x
variable {O O' : FOps} {El : Int->Prop}
theorem addRow_agr (h : Agr O O' El) (hO : FCl O El) : ∀(v u : List Int) (s : Int),(∀x ∈ v,El x)->(∀x ∈ u,El x)->El s->addRow O v s u=addRow O' v s u
 | [],_,_,_,_,_=>by simp [addRow]
 | _ :: _,[],_,_,_,_=>by simp [addRow]
 | x :: v,y :: u,s,hv,hu,hs=>by
  have ih:=addRow_agr h hO v u s (λz hz=>hv z (by simp [hz])) (λz hz=>hu z (by simp [hz])) hs
  unfold addRow at ih ⊢
  have hx:=hv x (by simp)
  have hy:=hu y (by simp)
  simp only [List.zipWith_cons_cons,ih]
  rw [h.mul s y hs hy,h.add x _ hx (by rw [<- h.mul s y hs hy];exact hO.mul s y hs hy)]
theorem clearRow_agr (h : Agr O O' El) (hO : FCl O El) {pv r : List Int} {c m : Nat} (hc : c<m) (hp : pv.length=m/\∀x ∈ pv,El x) (hr : r.length=m/\∀x ∈ r,El x) : clearRow O pv c r=clearRow O' pv c r:=by
 have hel : El (nth r c):=hr.2 _ (nth_mem (by omega))
 unfold clearRow
 rw [h.neg _ hel]
 split
 ·rfl
 ·exact addRow_agr h hO _ _ _ hr.2 hp.2 (by rw [<- h.neg _ hel];exact hO.neg _ hel)
theorem clearTo_agr (h : Agr O O' El) (hO : FCl O El) {m : Nat} {L : List (List Int)} (hL : Rws El m L) {t c : Nat} (ht : t<L.length) (hc : c<m) : ∀i,i<=L.length->clearTo O t c L i=clearTo O' t c L i
 | 0,_=>rfl
 | i+1,hi=>by
  have ih:=clearTo_agr h hO hL ht hc i (by omega)
  have hR:=Rws.clear hO hL ht hc i (by omega)
  have hl:=clearTo_length O t c L i
  unfold clearTo
  rw [<- ih]
  split
  ·rfl
  ·rw [clearRow_agr h hO hc (hR.row (by omega)) (hR.row (by omega))]
theorem normRow_agr (h : Agr O O' El) (hO : FCl O El) {m : Nat} {L : List (List Int)} (hL : Rws El m L) {t c : Nat} (ht : t<L.length) (hc : c<m) (h0 : nth (nthR L t) c ≠ 0) : normRow O L t c=normRow O' L t c:=by
 have hr:=hL.row ht
 have hel : El (nth (nthR L t) c):=hr.2 _ (nth_mem (by omega))
 unfold normRow
 rw [h.inv _ hel h0]
 split
 ·rfl
 ·congr 1
  refine List.map_congr_left λx hx=>?_
  exact h.mul _ _ (by rw [<- h.inv _ hel h0];exact hO.inv _ hel h0) (hr.2 x hx)
theorem pivotS_agr (h : Agr O O' El) (hO : FCl O El) {m : Nat} {L : List (List Int)} (hL : Rws El m L) {t k c : Nat} (ht : t<L.length) (hk : k<L.length) (hc : c<m) (h0 : nth (nthR L k) c ≠ 0) (htk : t<=k) :
  pivotS O L t k c=pivotS O' L t k c/\Rws El m (pivotS O L t k c):=by
 have hL1 : Rws El m (if k=t then L else swapRow L t k):=by split;exact hL;exact hL.swap ht hk
 have hl1 : (if k=t then L else swapRow L t k).length=L.length:=by split;rfl;exact swapRow_length _ _ _
 have hn1 : nth (nthR (if k=t then L else swapRow L t k) t) c ≠ 0:=by
  split
  ·rename_i e;subst e;exact h0
  ·rename_i e
   have : nthR (swapRow L t k) t=nthR L k:=by
    unfold swapRow
    rw [nthR_set _ _ _ _ (by simpa using hk),if_neg (by omega),nthR_set _ _ _ _ ht,if_pos rfl]
   rw [this];exact h0
 rw [pivotS_eq,pivotS_eq,<- normRow_agr h hO hL1 (by omega) hc hn1]
 have hL2:=hL1.norm hO (t:=t) (c:=c) (by omega) hc hn1
 have hl2 : (normRow O (if k=t then L else swapRow L t k) t c).length=L.length:=by rw [normRow_length,hl1]
 exact ⟨clearTo_agr h hO hL2 (by omega) hc _ (by omega),Rws.clear hO hL2 (by omega) hc _ (by omega)⟩
theorem elimTo_agr (h : Agr O O' El) (hO : FCl O El) {m : Nat} {L : List (List Int)} (hL : Rws El m L) : ∀k,k<=m->elimTo O L k=elimTo O' L k/\Rws El m (elimTo O L k).1
 | 0,_=>⟨rfl,hL⟩
 | k+1,hk=>by
  obtain ⟨h1,h2⟩:=elimTo_agr h hO hL k (by omega)
  obtain ⟨Lk,P,hLP⟩ : ∃Lk P,elimTo O L k=(Lk,P):=⟨_,_,rfl⟩
  rw [hLP] at h1 h2
  have hlen : Lk.length=L.length:=by have:=elimTo_length O L k;rw [hLP] at this;exact this
  by_cases hlt : P.length<Lk.length
  ·rw [elimTo_next hLP.symm hlt,elimTo_next h1 hlt]
   by_cases hf : findRow Lk k P.length=Lk.length
   ·rw [if_pos hf,if_pos hf];exact ⟨rfl,h2⟩
   ·rw [if_neg hf,if_neg hf]
    have hb:=findRow_bd (L:=Lk) (c:=k) (k:=P.length) (by omega)
    have hne : nth (nthR Lk (findRow Lk k P.length)) k ≠ 0:=findTo_stop Lk k (Lk.length - P.length) P.length (by
     have : findTo Lk k P.length (Lk.length - P.length)=findRow Lk k P.length:=rfl
     omega)
    have hlt2 : findRow Lk k P.length<Lk.length:=by omega
    have:=pivotS_agr h hO (L:=Lk) h2 (t:=P.length) (k:=findRow Lk k P.length) (c:=k) hlt hlt2 (by omega) hne hb.1
    exact ⟨by rw [this.1],this.2⟩
  ·have e : ∀(O : FOps),elimTo O L k=(Lk,P)->elimTo O L (k+1)=(Lk,P):=λO he=>by
    rw [elimTo]
    simp only [he]
    rw [if_neg hlt]
   rw [e O hLP,e O' h1.symm]
   exact ⟨rfl,h2⟩
end

section
open Go.RowKit
structure RFld (w : World) (P : Int) (m : Nat) (am : Option Addr) (mn : Nat) (mod : List Int) : Prop where
 rf : RF P m
 mods : Mods w P m am mn mod
theorem mulR_el {P : Int} {m : Nat} (h : RF P m) (mod : List Int) (x y : Int) : ElP P m (mulR P m mod x y):=by
 have hP : 0<P:=by have:=h.p2;omega
 have:=valu_bd hP (mulL P m mod (digs x P m) (digs y P m)) (mulL_dig hP m mod _ _)
 rwa [mulL_len P mod _ _ h.m1] at this
def invTo (f : Int->Int) : Nat->Int->Int
 | 0,_=>0
 | n+1,y=>if f y=1 then y else invTo f n (y+1)
def invR (P : Int) (m : Nat) (mod : List Int) (x : Int) : Int:=invTo (mulR P m mod x) ((orderS P m).toNat - 1) 1
def rops (P : Int) (m : Nat) (mod : List Int) : FOps:=⟨fsum P m,mulR P m mod,fneg P m,invR P m mod⟩
end

section
section
variable {P : Int} {M : Nat} {low : Nat->Int}
def evL (M : Nat) (low : Nat->Int) (n : Nat) (c : List Int) : Nat->Int:=λi=>sm n (λk=>nth c k * shN M low k (eV 0) i)
theorem sm_set {n k : Nat} {c : List Int} {z : Int} (f : Nat->Int) (hk : k<n) (hl : k<c.length) : sm n (λj=>nth (c.set k z) j * f j)=sm n (λj=>nth c j * f j)+(z - nth c k) * f k:=by
 have h1 : sm n (λj=>nth (c.set k z) j * f j)=sm n (λj=>nth c j * f j+(if j=k then (z - nth c k) * f k else 0)):=sm_congr λj _=>by
  rw [nth_set _ _ _ _ hl]
  by_cases e : j=k
  ·subst e;rw [if_pos rfl,if_pos rfl,Int.sub_mul];omega
  ·rw [if_neg e,if_neg e];omega
 rw [h1,sm_add]
 congr 1
 rw [sm_single hk λi _ hne=>if_neg hne,if_pos rfl]
theorem evL_step {n k : Nat} {c : List Int} {d : Int} (hk : k<n) (hl : k<c.length) :
  Cg P (evL M low n (c.set k ((nth c k+d) % P))) (λi=>evL M low n c i+d * shN M low k (eV 0) i):=λi=>by
 simp only [evL]
 rw [sm_set (λj=>shN M low j (eV 0) i) hk hl]
 obtain ⟨e,he⟩:=cg_mod P (nth c k+d)
 refine ⟨e * shN M low k (eV 0) i,?_⟩
 have h1 : (nth c k+d) % P - nth c k=d+P * e:=by omega
 rw [h1,Int.add_mul,Int.mul_assoc]
 omega
theorem cvJ_ev {a b : List Int} {i n : Nat} {c : List Int} (hl : c.length=n) : ∀j,i+j<=n ->
  Cg P (evL M low n (cvJ P a b i c j)) (λs=>evL M low n c s+sm j (λj=>nth a i * nth b j * shN M low (i+j) (eV 0) s))
 | 0,_=>Cg.of_eq (by funext s;simp [cvJ,sm])
 | j+1,hj=>by
  have ih:=cvJ_ev (a:=a) (b:=b) (i:=i) hl j (by omega)
  rw [cvJ]
  refine (evL_step (by omega) (by rw [cvJ_len];omega)).trans ((Cg.add ih (Cg.refl P _)).trans (Cg.of_eq ?_))
  funext s
  simp only [sm]
  omega
theorem cvI_ev {a b : List Int} {n : Nat} (hn : 2 * M - 1<=n) (hM : 1<=M) : ∀i,i<=M ->
  Cg P (evL M low n (cvI P a b M n i)) (λs=>sm i (λi=>sm M (λj=>nth a i * nth b j * shN M low (i+j) (eV 0) s)))
 | 0,_=>Cg.of_eq (by
  funext s
  simp only [evL,cvI,sm]
  rw [sm_congr (g:=λ_=>0) λk _=>by
   have : nth (List.replicate n 0) k=0:=by simp only [nth,List.getD_eq_getElem?_getD,List.getElem?_replicate];split <;> rfl
   rw [this,Int.zero_mul],sm_zero])
 | i+1,hi=>by
  have ih:=cvI_ev (a:=a) (b:=b) hn hM i (by omega)
  rw [cvI]
  refine (cvJ_ev (cvI_len P a b M n i) M (by omega)).trans ((Cg.add ih (Cg.refl P _)).trans (Cg.of_eq ?_))
  funext s
  simp only [sm]
theorem shN_M (hM : 1<=M) : shN M low M (eV 0)=λi=>if i<M then - low i else 0:=by
 obtain ⟨m,rfl⟩ : ∃m,M=m+1:=⟨M - 1,by omega⟩
 rw [shN,shN_e m (by omega)]
 funext i
 simp only [shV,eV]
 by_cases h : i<m+1
 ·rw [if_pos h,if_pos h,Nat.add_sub_cancel]
  by_cases h0 : i=0
  ·rw [if_pos h0,if_pos rfl];omega
  ·rw [if_neg h0,if_neg (by omega),if_pos rfl];omega
 ·rw [if_neg h,if_neg h]
theorem lowSum (hM : 1<=M) (t : Nat) : (λs=>sm M (λj=>low j * shN M low (t+j) (eV 0) s))=λs=>- shN M low (t+M) (eV 0) s:=by
 have h1 : (λs=>sm M (λj=>low j * shN M low (t+j) (eV 0) s))=shN M low t (λs=>sm M (λj=>low j * shN M low j (eV 0) s)):=by
  rw [shN_sm]
  funext s
  refine sm_congr λj _=>?_
  rw [shN_smul,shN_comp]
 have h2 : (λs=>sm M (λj=>low j * shN M low j (eV 0) s))=λs=>(-1) * shN M low M (eV 0) s:=by
  funext s
  rw [congrFun (shN_M (low:=low) hM) s]
  have h3 : sm M (λj=>low j * shN M low j (eV 0) s)=sm M (λj=>low j * eV j s):=sm_congr λj hj=>by rw [shN_e j hj]
  rw [h3]
  by_cases hs : s<M
  ·rw [sm_single hs λi _ hne=>by simp only [eV];rw [if_neg (by omega)];omega]
   rw [if_pos hs]
   simp [eV]
  ·rw [if_neg hs,sm_congr (g:=λ_=>0) λj hj=>by simp only [eV];rw [if_neg (by omega)];omega,sm_zero];rfl
 rw [h1,h2,shN_smul]
 funext s
 rw [<- shN_comp]
 omega
theorem rdJ_top {mod : List Int} {i : Nat} {c : List Int} (hi : M<=i) (hl : i<c.length) : ∀j,j<=M->nth (rdJ P M mod i c j) i=nth c i
 | 0,_=>rfl
 | j+1,hj=>by
  rw [rdJ,nth_set _ _ _ _ (by rw [rdJ_len];omega),if_neg (by omega)]
  exact rdJ_top hi hl j (by omega)
theorem rdJ_ev {mod : List Int} {i : Nat} {c : List Int} (hi : M<=i) (hl : i<c.length) : ∀j,j<=M ->
  Cg P (evL M low i (rdJ P M mod i c j)) (λs=>evL M low i c s+(- nth c i) * sm j (λj=>nth mod j * shN M low (i - M+j) (eV 0) s))
 | 0,_=>Cg.of_eq (by funext s;simp [rdJ,sm])
 | j+1,hj=>by
  have ih:=rdJ_ev (mod:=mod) hi hl j (by omega)
  rw [rdJ,rdJ_top hi hl j (by omega)]
  refine (evL_step (by omega) (by rw [rdJ_len];omega)).trans ?_
  refine (Cg.add ih (Cg.refl P _)).trans ?_
  intro s
  simp only [sm]
  generalize sm j (λj=>nth mod j * shN M low (i - M+j) (eV 0) s)=X
  generalize shN M low (i - M+j) (eV 0) s=Y
  refine ⟨nth mod j * Y,?_⟩
  simp only [Int.mul_add,Int.sub_mul,Int.neg_mul,Int.mul_assoc]
  omega
theorem rdT_ev {mod : List Int} (hM : 1<=M) (hlow : ∀j,low j=nth mod j) {c : List Int} (hl : c.length=2 * M - 1) : ∀k,k<=M - 1 ->
  Cg P (evL M low (2 * M - 1 - k) (rdT P M mod c k)) (evL M low (2 * M - 1) c)
 | 0,_=>Cg.refl P _
 | k+1,hk=>by
  have ih:=rdT_ev hM hlow hl k (by omega)
  rw [rdT]
  refine Cg.trans ?_ ih
  obtain ⟨i,hi⟩ : ∃i,2 * M - 2 - k=i:=⟨_,rfl⟩
  rw [hi,show 2 * M - 1 - (k+1)=i by omega,show 2 * M - 1 - k=i+1 by omega]
  refine (rdJ_ev (low:=low) (by omega) (by rw [rdT_len];omega) M (Nat.le_refl _)).trans (Cg.of_eq ?_)
  funext s
  have h1 : sm M (λj=>low j * shN M low (i - M+j) (eV 0) s) = - shN M low (i - M+M) (eV 0) s:=congrFun (lowSum (low:=low) hM (i - M)) s
  rw [sm_congr (g:=λj=>low j * shN M low (i - M+j) (eV 0) s) λj _=>by rw [hlow],h1,show i - M+M=i by omega]
  simp only [evL,sm]
  rw [Int.neg_mul,Int.mul_neg]
  omega
theorem evL_take (c : List Int) (hl : M<=c.length) : evL M low M c=nth (c.take M):=by
 funext s
 simp only [evL]
 rw [sm_congr (g:=λj=>nth c j * eV j s) λj hj=>by rw [shN_e j hj]]
 by_cases hs : s<M
 ·rw [sm_single hs λi _ hne=>by simp only [eV];rw [if_neg (by omega)];omega,nth_take hs]
  simp [eV]
 ·rw [nth_out (by rw [List.length_take];omega),sm_congr (g:=λ_=>0) λj hj=>by simp only [eV];rw [if_neg (by omega)];omega,sm_zero]
end
theorem mulR_eq {P : Int} {m : Nat} (hf : RF P m) (mod : List Int) (x y : Int) : mulR P m mod x y=mulS P m mod x y:=by
 have hres:=hf.res
 have hP:=hres.pos
 have hm1:=hf.m1
 refine (mulR_el hf mod x y).ext hres (mulS_el hres x y) (Cg.trans ?_ (dV_mulS hP m mod x y).symm)
 have hd : dV P m (mulR P m mod x y)=nth (mulL P m mod (digs x P m) (digs y P m)):=by
  unfold dV mulR
  have:=digs_valu (P:=P) (mulL P m mod (digs x P m) (digs y P m)) (mulL_dig hP m mod _ _)
  rw [mulL_len P mod _ _ hm1] at this
  rw [this]
 rw [hd]
 have hc:=cvI_ev (P:=P) (M:=m) (low:=nth (lowF m mod)) (a:=digs x P m) (b:=digs y P m) (n:=2 * m - 1) (Nat.le_refl _) hm1 m (Nat.le_refl _)
 have hx : Cg P (evL m (nth (lowF m mod)) (2 * m - 1) (cvI P (digs x P m) (digs y P m) m (2 * m - 1) m)) (mulV m (nth (lowF m mod)) (dV P m x) (dV P m y)):=by
  rw [mulV_expand (dV_sh P m y)]
  exact hc
 refine Cg.trans ?_ hx
 unfold mulL
 by_cases h1 : 1<m
 ·have hlow : ∀j,nth (lowF m mod) j=nth mod j:=λj=>by rw [lowF,if_pos h1]
  have hr:=rdT_ev (P:=P) hm1 hlow (cvI_len P (digs x P m) (digs y P m) m (2 * m - 1) m) (m - 1) (Nat.le_refl _)
  rw [show 2 * m - 1 - (m - 1)=m by omega,evL_take _ (by rw [rdT_len,cvI_len];omega)] at hr
  exact hr
 ·obtain rfl : m=1:=by omega
  rw [<- evL_take (M:=1) (low:=nth (lowF 1 mod)) _ (by rw [rdT_len,cvI_len];omega)]
  exact Cg.refl P _
end

section
set_option maxRecDepth 100000
set_option maxHeartbeats 1600000

open Go.RowKit
theorem and32 (a : Nat) (h : a<4294967296) : bits .and .u64 (a : Int) 4294967295=a:=by
 have h2:=bits_and_u64_nat a 4294967295 (by omega) (by omega)
 have e : a &&& 4294967295=a % 4294967296:=Nat.and_two_pow_sub_one_eq_mod a 32
 rw [e,Nat.mod_eq_of_lt h] at h2
 exact h2
theorem w64 {n : Int} (h : 0<=n) (h2 : n<=10000000) : wrap64 n=n:=by unfold wrap64;omega
theorem mul64_any (x y : Nat) (hx : x<=65536) (hy : y<=100) (w : World) :
  Calls Tryz.prog 223 #[.int .u64 x,.int .u64 y] w λe w'=>e = .returned (.tuple #[.int .u64 0,.int .u64 ((x : Int) * y)])/\w=w':=by
 have hp : (x : Int) * y<=65536 * 100:=Int.mul_le_mul (by omega) (by omega) (by omega) (by omega)
 have hp0 : 0<=(x : Int) * y:=Int.mul_nonneg (by omega) (by omega)
 obtain ⟨p,hpe⟩ : ∃p : Nat,(x : Int) * y=p:=⟨((x : Int) * y).toNat,by omega⟩
 have e1:=and32 x (by omega)
 have e2:=and32 y (by omega)
 have e3 : (x : Int) / 4294967296=0:=by omega
 have e4 : (y : Int) / 4294967296=0:=by omega
 have e5 : (p : Int) / 4294967296=0:=by omega
 have e6 : bits .and .u64 0 4294967295=0:=by decide
 have kw : IntKind.u64.wrap (p : Int)=p:=by rw [IntKind.wrap_u64];omega
 have Hp:=Lib.hid hpe
 rw [hpe]
 go_enter Tryz.func223,Tryz.ntmps223
 go_wp2
 go_ret2
 first
  | exact ⟨rfl,rfl⟩
  | (refine ⟨?_,rfl⟩;simp)
theorem div64_any (x y : Nat) (hx : x<18446744073709551616) (hy : 1<=y) (hy2 : y<=100) (w : World) :
  Calls Tryz.prog 224 #[.int .u64 0,.int .u64 x,.int .u64 y] w λe w'=>e = .returned (.tuple #[.int .u64 ((x / y : Nat) : Int),.int .u64 ((x % y : Nat) : Int)])/\Below w.heap.size w w':=by
 have h0 : ((y : Int) == 0)=false:=by simp;omega
 have h1 : decide ((y : Int)<=0)=false:=by simp;omega
 have hy0 : ((y : Int)) ≠ 0:=by omega
 have hq : (x : Int).tdiv y=((x / y : Nat) : Int):=by rw [Int.tdiv_eq_ediv_of_nonneg (by omega)];simp
 have hr : (x : Int).tmod y=((x % y : Nat) : Int):=by rw [Int.tmod_eq_emod_of_nonneg (by omega)];simp
 have hd : x / y<=x:=Nat.div_le_self x y
 have hm : x % y<y:=Nat.mod_lt x (by omega)
 generalize x / y=q at *
 generalize x % y=r at *
 have kq : IntKind.u64.wrap (q : Int)=(q : Int):=by rw [IntKind.wrap_u64];omega
 have kr : IntKind.u64.wrap (r : Int)=(r : Int):=by rw [IntKind.wrap_u64];omega
 clear hd hm
 have hw:=Below.refl w.heap.size w
 have hw2:=(Below.refl w.heap.size w).drew
 go_enter Tryz.func224,Tryz.ntmps224
 go_upto_region 6 with fail
 go_quiet (fail)
 go_wp2_with fail
 go_ret2
 exact ⟨rfl,(Drawn.below ⟨_,rfl⟩)⟩
theorem choose_any (n k : Nat) (w : World) (hn : n<=64) (hk : k<=n) :
  Calls Tryz.prog 169 #[.int .i64 n,.int .i64 k,.int .i64 65536] w λe w'=>e = .returned (.tuple #[.int .i64 (choV n k),.int .i64 (choE n k)])/\Below w.heap.size w w':=by
 obtain ⟨t,ht⟩ : ∃t : Nat,min k (n - k)=t:=⟨_,rfl⟩
 have htk : chN n k=chN n t:=by
  rcases Nat.le_total k (n - k) with h | h
  ·rw [<- ht,Nat.min_eq_left h]
  ·rw [<- ht,Nat.min_eq_right h];exact chN_symm n k hk
 have hmin : min (k : Int) ((n : Int) - k)=t:=by omega
 have htn : t<=n:=by omega
 have hkn : decide (n<k)=false:=by simp;omega
 have HcE : Hid (¬ chN n t<=65536->choV n k=0/\choE n k=8):=λh=>by
  unfold choV choE
  rw [htk,if_neg h,if_neg h];exact ⟨rfl,rfl⟩
 have HcO : Hid (chN n t<=65536->choV n k=chN n t/\choE n k=0):=λh=>by
  unfold choV choE
  rw [htk,if_pos h,if_pos h];exact ⟨rfl,rfl⟩
 clear htk ht
 go_enter Tryz.func169,Tryz.ntmps169
 go_upto_region 7 with fail
 go_cut [1] (λv wx=>v = .int .i64 t/\wx=w)
 case first =>
  by_cases hm : (n : Int) - k<k
  ·have hmd : decide ((n : Int) - k<k)=true:=decide_eq_true hm
   have he : (n : Int) - k=t:=by omega
   go_wp2_with fail
   go_meet
   exact ⟨by first | exact congrArg (Value.int .i64) (by omega) | rfl | (simp [he]),rfl⟩
  ·have hmd : decide ((n : Int) - k<k)=false:=decide_eq_false hm
   have he : (k : Int)=t:=by omega
   go_wp2_with fail
   go_meet
   exact ⟨by first | exact congrArg (Value.int .i64) (by omega) | rfl | (simp [he]),rfl⟩
 obtain ⟨rfl,hw9⟩:=hcut
 obtain rfl:=hw9.symm
 clear hw9
 go_wp2_with fail
 go_loopw [9,8] (λiv ov wr=>∃i : Nat,i<=t/\iv = .int .i64 ((i : Int)+1)/\ov = .int .i64 (chN (n - t+i) i : Nat)/\chN (n - t+i) i<=65536/\Below w.heap.size w wr) (λiv _ _=>t+1 - (intOf iv).toNat)
 case atStart=>exact ⟨0,Nat.zero_le _,rfl,by rw [chN_one];rfl,by rw [chN_one];omega,Below.refl _ _⟩
 case round =>
  obtain ⟨i,hi,rfl,rfl,hc,hb⟩:=hrel
  by_cases hlt : i<t
  ·have Hs : Hid (chN (n - t+i) i * (n - t+(i+1)) / (i+1)=chN (n - t+(i+1)) (i+1)):=chN_step n t i
   have Hle : Hid (chN (n - t+(i+1)) (i+1)<=chN n t):=chN_le_of htn (t - (i+1)) (i+1) (by omega)
   obtain ⟨x,hx⟩ : ∃x,chN (n - t+i) i=x:=⟨_,rfl⟩
   rw [hx] at hc Hs ⊢
   obtain ⟨y,hy⟩ : ∃y,n - t+(i+1)=y:=⟨_,rfl⟩
   have hye : ((n : Int) - (t : Int)+((i : Int)+1))=y:=by omega
   rw [hy] at Hs Hle
   have Hy:=Lib.hid hy
   obtain ⟨u,hu⟩ : ∃u,chN (n - t+(i+1)) (i+1)=u:=⟨_,rfl⟩
   rw [hy] at hu
   rw [hu] at Hs Hle
   have hx1 : 1<=x:=by rw [<- hx];exact chN_pos _ _ (by omega)
   obtain ⟨j,hj⟩ : ∃j,i+1=j:=⟨_,rfl⟩
   have hji : (i : Int)+1=j:=by omega
   obtain ⟨p,hp⟩ : ∃p,x * y=p:=⟨_,rfl⟩
   have hpe : (x : Int) * (y : Int)=p:=by rw [<- hp];simp
   have hpl : p<=65536 * 64:=by rw [<- hp];have h1:=Nat.mul_le_mul hc (show y<=64 by omega);omega
   rw [hp,hj] at Hs
   have hup : u<=p:=by rw [<- Hs.out];exact Nat.div_le_self p j
   have Hu:=Lib.hid hu
   have Hj:=Lib.hid hj
   have d2 : decide ((j : Int)<=0)=false:=by simp;omega
   have k1 : IntKind.u64.wrap (x : Int)=x:=by rw [IntKind.wrap_u64];omega
   have k2 : IntKind.u64.wrap (y : Int)=y:=by rw [IntKind.wrap_u64];omega
   have k3 : IntKind.u64.wrap (j : Int)=j:=by rw [IntKind.wrap_u64];omega
   have k4 : IntKind.i64.wrap (u : Int)=u:=IntWalk.i64_in _ (by omega)
   have K5 : Hid (wrap64 (y : Int)=y):=w64 (by omega) (by omega)
   have Hm:=Lib.hid (mul64_any x y hc (by omega))
   rw [hpe] at Hm
   have Hd:=Lib.hid (div64_any p j (by omega) (by omega) (by omega))
   rw [Hs.out] at Hd
   have Hji:=Lib.hid hji
   rw [hji] at hye ⊢
   have d1 : decide (j<=t)=true:=by simp;omega
   have d2' : decide (j=0)=false:=by simp;omega
   clear hx hy hu hp hup hpl hji hj Hs hpe
   go_wp2_with fail
   rw [K5.out,k2]
   with_reducible refine (Hm.out wr).mono ?_
   rintro e w' ⟨rfl,rfl⟩
   go_wp2_with fail
   with_reducible refine (Hd.out wr).mono ?_
   rintro e w5 ⟨rfl,hb5⟩
   have hb6:=Below.next hb hb5
   by_cases hbig : u<=65536
   ·have d3 : decide ((65536 : Int)<(u : Int))=false:=by simp;omega
    have d3' : decide (65536<u)=false:=by simp;omega
    go_wp2_with fail
    have h2 : wrap64 ((j : Int)+1)=(j : Int)+1:=w64 (by omega) (by have:=Hj.out;omega)
    have H2:=Lib.hid h2
    clear h2 k1 k2 k3 k4
    go_roundw
    case rel=>exact ⟨i+1,by omega,by rw [H2.out];have:=Hji.out;congr 1;omega,by rw [Hy.out,Hu.out],by rw [Hy.out,Hu.out];exact hbig,hb6⟩
    case measure=>have:=Hj.out;rw [H2.out];simp [intOf] <;> omega
   ·have d3 : decide ((65536 : Int)<(u : Int))=true:=by simp;omega
    have d3' : decide (65536<u)=true:=by simp;omega
    have Hb:=Lib.hid (HcE.out λh=>by have:=Hle.out;omega)
    clear hbig
    go_wp2_with fail
    go_ret2
    exact ⟨ret_two Hb.out.1.symm Hb.out.2.symm,hb6⟩
  ·obtain rfl : i=t:=by omega
   have d1 : decide ((i : Int)+1<=(i : Int))=false:=by simp;omega
   rw [show n - i+i=n by omega] at hc ⊢
   have Hb:=Lib.hid (HcO.out hc)
   generalize chN n i=z at *
   go_wp2_with fail
   go_ret2
   exact ⟨ret_two Hb.out.1.symm Hb.out.2.symm,hb⟩
end

end Go.Proofs.YtcfmiocdlcapoaaGreat
