/-  -/
import Derived.Test.YtcfmiocdlcapoaaGreatK17
import Derived.Test.YtcfmiocdlcapoaaGreatK12
import Derived.Laws.Bits64
import Derived.Laws.Bits64b
import Derived.WalkKit
import Derived.ProofKit
import Derived.OpenShut
import Derived.ShutString
import Derived.ChangeOld
import Derived.Below
import Derived.Deep.Matrix
namespace Go.Proofs.YtcfmiocdlcapoaaGreat
set_option linter.unusedVariables false
set_option linter.unusedSimpArgs false
set_option linter.unusedSectionVars false

section
section
variable {O : FOps} {El : Int->Prop} {m n : Nat}
theorem dotN_comm (F : Fld O El) {a b : Nat->Int} : ∀t,(∀p,p<t->El (a p))->(∀p,p<t->El (b p))->dotN O a b t=dotN O b a t
 | 0,_,_=>rfl
 | t+1,ha,hb=>by
  rw [dotN,dotN,dotN_comm F t (λp hp=>ha p (by omega)) λp hp=>hb p (by omega),F.mul_comm _ _ (ha t (by omega)) (hb t (by omega))]
theorem dotN_zero (F : Fld O El) {a b : Nat->Int} : ∀t,(∀p,p<t->O.mul (a p) (b p)=0)->dotN O a b t=0
 | 0,_=>rfl
 | t+1,h=>by rw [dotN,dotN_zero F t λp hp=>h p (by omega),h t (by omega),F.add_zero 0 F.zero]
theorem dotN_two (F : Fld O El) {a b : Nat->Int} {x y : Nat} (hxy : x ≠ y) (hx : El (O.mul (a x) (b x))) (hy : El (O.mul (a y) (b y))) : ∀t,(∀p,p<t->p ≠ x->p ≠ y->O.mul (a p) (b p)=0) ->
  dotN O a b t=O.add (if x<t then O.mul (a x) (b x) else 0) (if y<t then O.mul (a y) (b y) else 0)
 | 0,_=>by rw [if_neg (by omega),if_neg (by omega)];exact (F.add_zero 0 F.zero).symm
 | t+1,h=>by
  rw [dotN,dotN_two F hxy hx hy t λp hp=>h p (by omega)]
  by_cases e : t=x
  ·subst e
   rw [if_neg (Nat.lt_irrefl t),if_pos (Nat.lt_succ_self t)]
   by_cases e2 : y<t
   ·rw [if_pos e2,if_pos (show y<t+1 by omega),F.zadd hy,F.add_comm _ _ hy hx]
   ·rw [if_neg e2,if_neg (show ¬ y<t+1 by omega),F.zadd F.zero,F.zadd hx,F.add_zero _ hx]
  ·by_cases e1 : t=y
   ·subst e1
    by_cases e2 : x<t
    ·rw [if_pos e2,if_neg (by omega),if_pos (by omega),if_pos (by omega),F.add_zero _ hx]
    ·rw [if_neg e2,if_neg (by omega),if_neg (by omega),if_pos (by omega),F.add_zero 0 F.zero]
   ·rw [h t (by omega) e e1]
    by_cases e2 : x<t
    ·by_cases e3 : y<t
     ·rw [if_pos e2,if_pos e3,if_pos (by omega),if_pos (by omega),F.add_zero _ (F.cl.add _ _ hx hy)]
     ·rw [if_pos e2,if_neg e3,if_pos (by omega),if_neg (by omega),F.add_zero _ (F.cl.add _ _ hx F.zero)]
    ·by_cases e3 : y<t
     ·rw [if_neg e2,if_pos e3,if_neg (by omega),if_pos (by omega),F.add_zero _ (F.cl.add _ _ F.zero hy)]
     ·rw [if_neg e2,if_neg e3,if_neg (by omega),if_neg (by omega),F.add_zero _ (F.cl.add _ _ F.zero F.zero)]
def colN (O : FOps) (r : Nat->Int) (K : List (List Int)) : Nat->List Int
 | 0=>List.replicate K.length 0
 | t+1=>subRow O (colN O r K t) (O.neg (r t)) (colS K t)
theorem colN_vc (F : Fld O El) {r : Nat->Int} {K : List (List Int)} (hK : Rws El m K) : ∀t,(∀p,p<t->El (r p))->Vc El K.length (colN O r K t)
 | 0,_=>⟨by simp [colN],λy hy=>by
  have:=List.eq_of_mem_replicate hy
  rw [this];exact F.zero⟩
 | t+1,hr=>(colN_vc F hK t λp hp=>hr p (by omega)).sub F (colS_vc hK F.zero t) (F.cl.neg _ (hr t (by omega)))
theorem colN_at (F : Fld O El) {r : Nat->Int} {K : List (List Int)} (hK : Rws El m K) {j : Nat} (hj : j<K.length) : ∀t,t<=m->(∀p,p<t->El (r p))->nth (colN O r K t) j=dotN O r (λp=>nth (nthR K j) p) t
 | 0,_,_=>by simp [colN,dotN,nth,List.getD_eq_getElem?_getD,List.getElem?_replicate,hj]
 | t+1,ht,hr=>by
  have hv:=colN_vc F hK t λp hp=>hr p (by omega)
  have hc:=colS_vc hK F.zero t
  have hrt:=hr t (by omega)
  have hx : El (nth (nthR K j) t):=Vc.at (hK.row hj) (by omega)
  rw [colN,nth_subRow O _ _ _ j (by rw [hc.1,hv.1]) (by rw [hv.1];exact hj),colN_at F hK hj t (by omega) λp hp=>hr p (by omega),nth_colS K t j hj,F.neg_mul hrt hx,F.neg_neg (F.cl.mul _ _ hrt hx)]
  rfl
theorem colN_form (F : Fld O El) {r : Nat->Int} {K : List (List Int)} (hK : Rws El m K) {φ : List Int->Int} (hφ : Lin O El K.length φ) : ∀t,(∀p,p<t->El (r p))->φ (colN O r K t)=dotN O r (λp=>φ (colS K p)) t
 | 0,_=>hφ.zero F (colN_vc F hK 0 λp hp=>by omega) λi hi=>by simp [colN,nth,List.getD_eq_getElem?_getD,List.getElem?_replicate,hi]
 | t+1,hr=>by
  have hv:=colN_vc F hK t λp hp=>hr p (by omega)
  have hc:=colS_vc hK F.zero t
  have hrt:=hr t (by omega)
  have hx:=hφ.el _ hc
  rw [colN,hφ.sub _ _ _ hv hc (F.cl.neg _ hrt),colN_form F hK hφ t λp hp=>hr p (by omega),F.neg_mul hrt hx,F.neg_neg (F.cl.mul _ _ hrt hx)]
  rfl
theorem form_dot (F : Fld O El) {r : Nat->Int} {K : List (List Int)} (hK : Rws El m K) {φ : List Int->Int} (hφ : Lin O El K.length φ) (hr : ∀p,p<m->El (r p)) (h : ∀j,j<K.length->dotN O r (λp=>nth (nthR K j) p) m=0) :
  dotN O r (λp=>φ (colS K p)) m=0:=by
 rw [<- colN_form F hK hφ m hr]
 exact hφ.zero F (colN_vc F hK m hr) λi hi=>by rw [colN_at F hK hi m (Nat.le_refl _) hr];exact h i hi
def Orth (O : FOps) (m : Nat) (G K : List (List Int)) : Prop:=∀i j,i<G.length->j<K.length->dotN O (λp=>nth (nthR G i) p) (λp=>nth (nthR K j) p) m=0
variable {G K : List (List Int)}
theorem Orth.symm (F : Fld O El) (hG : Rws El m G) (hK : Rws El m K) (h : Orth O m G K) : Orth O m K G:=λi j hi hj=>by
 rw [dotN_comm F m (λp hp=>Vc.at (hK.row hi) hp) λp hp=>Vc.at (hG.row hj) hp]
 exact h j i hj hi
theorem Orth.forms (F : Fld O El) (hG : Rws El m G) (hK : Rws El m K) (h : Orth O m G K) {φ ψ : List Int->Int} (hφ : Lin O El K.length φ) (hψ : Lin O El G.length ψ) :
  dotN O (λp=>φ (colS K p)) (λp=>ψ (colS G p)) m=0:=by
 have hcφ : ∀p,p<m->El (φ (colS K p)):=λp _=>hφ.el _ (colS_vc hK F.zero p)
 refine form_dot F hG hψ hcφ λi hi=>?_
 rw [dotN_comm F m hcφ λp hp=>Vc.at (hG.row hi) hp]
 exact form_dot F hK hφ (λp hp=>Vc.at (hG.row hi) hp) λj hj=>h i j hi hj
theorem Orth.cl (F : Fld O El) (hG : Rws El m G) (hK : Rws El m K) (h : Orth O m G K) {A B : List Nat} {x : Nat} (hx : x<m) (hAB : ∀p,p<m->p ≠ x->p ∈ A\/p ∈ B) (hn : ¬ clV O El G.length (colS G) A x) :
  clV O El K.length (colS K) B x:=by
 intro φ hφ h0
 apply Classical.byContradiction
 intro hne
 apply hn
 intro ψ hψ hA
 have hd:=h.forms F hG hK hφ hψ
 have e1:=hφ.el _ (colS_vc hK F.zero x)
 have e2:=hψ.el _ (colS_vc hG F.zero x)
 rw [dotN_one F (x:=x) (F.cl.mul _ _ e1 e2) m λp hp hpx=>?_,if_pos hx] at hd
 ·exact F.mul_ne e1 e2 hne hd
 ·rcases hAB p hp hpx with h1 | h1
  ·show O.mul (φ (colS K p)) (ψ (colS G p))=0
   rw [hA p h1,F.mzero (hφ.el _ (colS_vc hK F.zero p))]
  ·show O.mul (φ (colS K p)) (ψ (colS G p))=0
   rw [h0 p h1,F.zmul (hψ.el _ (colS_vc hG F.zero p))]
theorem rk_step {cl : List Nat->Nat->Prop} {l : List Nat} {x n n' : Nat} (h : Rk cl l n) (h' : Rk cl (x :: l) n') : n'<=n+1/\(cl l x->n'=n):=by
 cases h' with
 | dep _ hx h2=>exact ⟨by rw [h.uniq h2];omega,λ_=>(h.uniq h2).symm⟩
 | ind _ hx h2=>exact ⟨by rw [h.uniq h2];omega,λhc=>absurd hc hx⟩
theorem dual_count {cl cl' : List Nat->Nat->Prop} {m : Nat} (h : ∀A B x,x<m->(∀p,p<m->p ≠ x->p ∈ A\/p ∈ B)->¬ cl A x->cl' B x) :
  ∀(l acc : List Nat) {a b c : Nat},(∀x ∈ l,x<m)->(∀p,p<m->p ∈ l\/p ∈ acc)->Rk cl l a->Rk cl' acc b->Rk cl' (l.reverse ++ acc) c->a+c<=l.length+b
 | [],acc,a,b,c,_,_,ha,hb,hc=>by
  cases ha
  have e : c=b:=Rk.uniq hc hb
  simp;omega
 | x :: l,acc,a,b,c,hl,hp,ha,hb,hc=>by
  have hx:=hl x (by simp)
  obtain ⟨b',hb'⟩:=Rk.ex cl' (x :: acc)
  have hst:=rk_step hb hb'
  have hc' : Rk cl' (l.reverse ++ (x :: acc)) c:=by simpa using hc
  have hp' : ∀p,p<m->p ∈ l\/p ∈ x :: acc:=λp hpm=>by
   rcases hp p hpm with h1 | h1
   ·rcases List.mem_cons.1 h1 with rfl | h1
    ·exact .inr (by simp)
    ·exact .inl h1
   ·exact .inr (List.mem_cons.2 (.inr h1))
  cases ha with
  | dep _ hcl ha' =>
   have ih:=dual_count h l (x :: acc) (λy hy=>hl y (List.mem_cons.2 (.inr hy))) hp' ha' hb' hc'
   simp only [List.length_cons];omega
  | ind _ hcl ha' =>
   have ih:=dual_count h l (x :: acc) (λy hy=>hl y (List.mem_cons.2 (.inr hy))) hp' ha' hb' hc'
   have:=hst.2 (h l acc x hx (λp hpm hpx=>by
    rcases hp p hpm with h1 | h1
    ·rcases List.mem_cons.1 h1 with h2 | h1
     ·exact absurd h2 hpx
     ·exact .inl h1
    ·exact .inr h1) hcl)
   simp only [List.length_cons];omega
theorem dual_rk (F : Fld O El) (hG : Rws El m G) (hK : Rws El m K) (h : Orth O m G K) (hkm : G.length+K.length=m)
  (hg : Rk (clV O El G.length (colS G)) (List.range m) G.length) (hk : Rk (clV O El K.length (colS K)) (List.range m) K.length)
  {S C : List Nat} (hS : ∀x ∈ S,x<m) (hC : ∀x ∈ C,x<m) (hSC : ∀p,p<m->p ∈ S\/p ∈ C) (hlen : S.length+C.length=m) {a b : Nat} (ha : Rk (clV O El G.length (colS G)) C a) (hb : Rk (clV O El K.length (colS K)) S b) :
  (b : Int)=S.length - G.length+a:=by
 have cG:=col_clo F hG
 have cK:=col_clo F hK
 have all : ∀ {cl : List Nat->Nat->Prop} (hc : Clo cl) {r : Nat} (_ : Rk cl (List.range m) r) (l acc : List Nat),(∀x ∈ l,x<m)->(∀x ∈ acc,x<m)->(∀p,p<m->p ∈ l\/p ∈ acc)->Rk cl (l.reverse ++ acc) r:=λhc r hr l acc h1 h2 h3=>by
  obtain ⟨r',hr'⟩:=Rk.ex _ (l.reverse ++ acc)
  have e:=Rk.same hc hr hr' λx=>by
   rw [List.mem_range,List.mem_append,List.mem_reverse]
   exact ⟨λhx=>h3 x hx,λhx=>by rcases hx with hx | hx;exact h1 x hx;exact h2 x hx⟩
  rw [e];exact hr'
 have i1:=dual_count (m:=m) (λA B x hx hAB hn=>h.cl F hG hK hx hAB hn) C S hC (λp hp=>(hSC p hp).symm) ha hb (all cK hk C S hC hS λp hp=>(hSC p hp).symm)
 have i2:=dual_count (m:=m) (λA B x hx hAB hn=>(h.symm F hG hK).cl F hK hG hx hAB hn) S C hS hSC hb ha (all cG hg S C hS hC hSC)
 omega
end
end

section
section
variable {O : FOps} {El : Int->Prop} {m n : Nat}
theorem canO_idem (F : Fld O El) {L : List (List Int)} (hL : Rws El m L) : canO O m (canO O m L)=canO O m L:=by
 obtain ⟨h1,h2⟩:=canO_piv F hL
 have hl:=canO_len F hL
 have h3:=elim_fixed F h1 h2 hl
 have e : canO O m (canO O m L)=(canO O m L).take (elimTo O L m).2.length:=by
  show (elimTo O (canO O m L) m).1.take (elimTo O (canO O m L) m).2.length=_
  rw [h3]
 rw [e,List.take_of_length_le (by omega)]
def kerTo (O : FOps) (m : Nat) (R : List (List Int)) (P : List Int) (c : Nat) : Nat->List Int
 | 0=>(List.replicate m 0).set c 1
 | i+1=>(kerTo O m R P c i).set (nth P i).toNat (O.neg (nth (nthR R i) c))
def kerL (O : FOps) (m : Nat) (R : List (List Int)) (P : List Int) : Nat->List (List Int)
 | 0=>[]
 | k+1=>if (k : Int) ∈ P then kerL O m R P k else kerL O m R P k ++ [kerTo O m R P k P.length]
def npL (P : List Int) : Nat->List Nat
 | 0=>[]
 | k+1=>if (k : Int) ∈ P then npL P k else npL P k ++ [k]
theorem kerTo_len (O : FOps) (m : Nat) (R : List (List Int)) (P : List Int) (c : Nat) : ∀i,(kerTo O m R P c i).length=m
 | 0=>by simp [kerTo]
 | i+1=>by rw [kerTo,List.length_set,kerTo_len O m R P c i]
theorem kerL_len (O : FOps) (m : Nat) (R : List (List Int)) (P : List Int) : ∀k,(kerL O m R P k).length=(npL P k).length
 | 0=>rfl
 | k+1=>by
  rw [kerL,npL]
  split
  ·exact kerL_len O m R P k
  ·rw [List.length_append,List.length_append,kerL_len O m R P k];rfl
theorem mem_npL {P : List Int} {x : Nat} : ∀k,x ∈ npL P k ↔ x<k/\¬ (x : Int) ∈ P
 | 0=>by simp [npL]
 | k+1=>by
  rw [npL]
  split
  ·rename_i h
   rw [mem_npL k]
   constructor
   ·rintro ⟨h1,h2⟩;exact ⟨by omega,h2⟩
   ·rintro ⟨h1,h2⟩
    by_cases e : x=k
    ·subst e;exact absurd h h2
    ·exact ⟨by omega,h2⟩
  ·rename_i h
   rw [List.mem_append,mem_npL k,List.mem_singleton]
   constructor
   ·rintro (⟨h1,h2⟩ | rfl)
    ·exact ⟨by omega,h2⟩
    ·exact ⟨by omega,h⟩
   ·rintro ⟨h1,h2⟩
    by_cases e : x=k
    ·exact .inr e
    ·exact .inl ⟨by omega,h2⟩
theorem kerL_at (O : FOps) (m : Nat) (R : List (List Int)) (P : List Int) {j : Nat} : ∀k,j<(npL P k).length->nthR (kerL O m R P k) j=kerTo O m R P ((npL P k).getD j 0) P.length
 | 0,h=>by simp [npL] at h
 | k+1,h=>by
  rw [kerL,npL] at *
  split
  ·rename_i hc
   rw [if_pos hc] at h
   exact kerL_at O m R P k h
  ·rename_i hc
   rw [if_neg hc,List.length_append,List.length_singleton] at h
   have hl:=kerL_len O m R P k
   by_cases e : j<(npL P k).length
   ·have e1 : nthR (kerL O m R P k ++ [kerTo O m R P k P.length]) j=nthR (kerL O m R P k) j:=by
     unfold nthR;simp only [List.getD_eq_getElem?_getD];rw [List.getElem?_append_left (by omega)]
    have e2 : (npL P k ++ [k]).getD j 0=(npL P k).getD j 0:=by simp only [List.getD_eq_getElem?_getD];rw [List.getElem?_append_left e]
    rw [e1,e2];exact kerL_at O m R P k e
   ·have ej : j=(npL P k).length:=by omega
    have e1 : nthR (kerL O m R P k ++ [kerTo O m R P k P.length]) j=kerTo O m R P k P.length:=by
     unfold nthR;simp only [List.getD_eq_getElem?_getD];rw [List.getElem?_append_right (by omega)];simp [ej,hl]
    have e2 : (npL P k ++ [k]).getD j 0=k:=by simp only [List.getD_eq_getElem?_getD];rw [List.getElem?_append_right (by omega)];simp [ej]
    rw [e1,e2]
variable {R : List (List Int)} {P : List Int}
theorem kerTo_other (hP : Piv R P m) {c x : Nat} (hx : x<m) (hxc : x ≠ c) : ∀i,i<=P.length->(∀j,j<i->(nth P j).toNat ≠ x)->nth (kerTo O m R P c i) x=0
 | 0,_,_=>by
  by_cases hc : c<m
  ·rw [kerTo,nth_set _ _ _ _ (by simpa using hc),if_neg hxc];simp [nth,List.getD_eq_getElem?_getD,List.getElem?_replicate];split <;> rfl
  ·rw [kerTo,List.set_eq_of_length_le (by simp;omega)];simp [nth,List.getD_eq_getElem?_getD,List.getElem?_replicate];split <;> rfl
 | i+1,hi,h=>by
  have hb:=hP.lt i (by omega)
  rw [kerTo,nth_set _ _ _ _ (by rw [kerTo_len];omega),if_neg (λe=>h i (by omega) e.symm)]
  exact kerTo_other hP hx hxc i (by omega) λj hj=>h j (by omega)
theorem kerTo_self (hP : Piv R P m) {c : Nat} (hc : c<m) (hn : ¬ (c : Int) ∈ P) : ∀i,i<=P.length->nth (kerTo O m R P c i) c=1
 | 0,_=>by rw [kerTo,nth_set _ _ _ _ (by simpa using hc),if_pos rfl]
 | i+1,hi=>by
  have hb:=hP.lt i (by omega)
  have hne : c ≠ (nth P i).toNat:=λe=>hn (by
   have : nth P i ∈ P:=nth_mem (by omega)
   rwa [show nth P i=(c : Int) by omega] at this)
  rw [kerTo,nth_set _ _ _ _ (by rw [kerTo_len];omega),if_neg hne]
  exact kerTo_self hP hc hn i (by omega)
theorem kerTo_piv (hP : Piv R P m) (hl : Lead R P) {c j : Nat} : ∀i,i<=P.length->j<i->nth (kerTo O m R P c i) (nth P j).toNat=O.neg (nth (nthR R j) c)
 | 0,_,h=>by omega
 | i+1,hi,h=>by
  have hb:=hP.lt i (by omega)
  have hbj:=hP.lt j (by omega)
  rw [kerTo,nth_set _ _ _ _ (by rw [kerTo_len];omega)]
  by_cases e : j=i
  ·subst e;rw [if_pos rfl]
  ·have:=hl.asc j i (by omega) (by omega)
   rw [if_neg (by omega)]
   exact kerTo_piv hP hl i (by omega) (by omega)
theorem kerTo_vc (F : Fld O El) (hR : Rws El m R) (hP : Piv R P m) (hlen : R.length=P.length) {c : Nat} (hc : c<m) : ∀i,i<=P.length->Vc El m (kerTo O m R P c i)
 | 0,_=>⟨kerTo_len O m R P c 0,λy hy=>by
  rw [kerTo] at hy
  rcases List.mem_or_eq_of_mem_set hy with h | rfl
  ·rw [List.eq_of_mem_replicate h];exact F.zero
  ·exact F.one⟩
 | i+1,hi=>⟨kerTo_len O m R P c (i+1),λy hy=>by
  rw [kerTo] at hy
  rcases List.mem_or_eq_of_mem_set hy with h | rfl
  ·exact (kerTo_vc F hR hP hlen hc i (by omega)).2 y h
  ·exact F.cl.neg _ (Vc.at (hR.row (by omega)) hc)⟩
theorem npL_at {P : List Int} {k j : Nat} (h : j<(npL P k).length) : (npL P k).getD j 0<k/\¬ (((npL P k).getD j 0 : Nat) : Int) ∈ P:=by
 have e : (npL P k).getD j 0=(npL P k)[j]:=by simp [List.getD_eq_getElem?_getD,h]
 rw [e]
 exact (mem_npL k).1 (List.getElem_mem h)
theorem kerL_rws (F : Fld O El) (hR : Rws El m R) (hP : Piv R P m) (hlen : R.length=P.length) : Rws El m (kerL O m R P m):=λr hr=>by
 obtain ⟨j,hj,rfl⟩:=List.mem_iff_getElem.1 hr
 have hj' : j<(npL P m).length:=by rw [<- kerL_len O m R P m];exact hj
 rw [<- nthR_getElem hj,kerL_at O m R P m hj']
 exact kerTo_vc F hR hP hlen (npL_at hj').1 P.length (Nat.le_refl _)
theorem ker_orth (F : Fld O El) (hR : Rws El m R) (hP : Piv R P m) (hl : Lead R P) (hlen : R.length=P.length) : Orth O m R (kerL O m R P m):=λi j hi hj=>by
 rw [kerL_len] at hj
 rw [kerL_at O m R P m hj]
 obtain ⟨hc,hn⟩:=npL_at hj
 generalize (npL P m).getD j 0=c at *
 have hb:=hP.lt i (by omega)
 have hne : c ≠ (nth P i).toNat:=λe=>hn (by
  have : nth P i ∈ P:=nth_mem (by omega)
  rwa [show nth P i=(c : Int) by omega] at this)
 have hx : El (nth (nthR R i) c):=Vc.at (hR.row hi) hc
 have e1 : nth (kerTo O m R P c P.length) c=1:=kerTo_self hP hc hn _ (Nat.le_refl _)
 have e2 : nth (kerTo O m R P c P.length) (nth P i).toNat=O.neg (nth (nthR R i) c):=kerTo_piv hP hl _ (Nat.le_refl _) (by omega)
 have e3 : nth (nthR R i) (nth P i).toNat=1:=by rw [hP.one i i (by omega) hi,if_pos rfl]
 rw [dotN_two F hne (by rw [e1,F.mone hx];exact hx) (by rw [e2,e3,F.one_mul _ (F.cl.neg _ hx)];exact F.cl.neg _ hx) m λp hp hpc hpi=>?_,if_pos hc,if_pos (by omega),e1,e2,e3,F.mone hx,F.one_mul _ (F.cl.neg _ hx),F.add_neg _ hx]
 show O.mul (nth (nthR R i) p) (nth (kerTo O m R P c P.length) p)=0
 have hxp : El (nth (nthR R i) p):=Vc.at (hR.row hi) hp
 by_cases hpp : ∃q,q<P.length/\(nth P q).toNat=p
 ·obtain ⟨q,hq,rfl⟩:=hpp
  have hqi : i ≠ q:=λe=>hpi (by rw [e])
  rw [hP.one q i hq hi,if_neg hqi,F.zmul ((kerTo_vc F hR hP hlen hc _ (Nat.le_refl _)).at hp)]
 ·rw [kerTo_other hP hp hpc _ (Nat.le_refl _) λq hq e=>hpp ⟨q,hq,e⟩,F.mzero hxp]
theorem ker_ind (F : Fld O El) (hP : Piv R P m) : ∀k,k<=(npL P m).length->Rk (clV O El (kerL O m R P m).length (colS (kerL O m R P m))) (((npL P m).take k).reverse) k
 | 0,_=>.nil
 | k+1,hk=>by
  have ih:=ker_ind F hP k (by omega)
  have hkl : k<(npL P m).length:=by omega
  have hnd : ∀K,(npL P K).Nodup:=λK=>by
   induction K with
   | zero=>exact List.nodup_nil
   | succ K ih =>
    rw [npL]
    split
    ·exact ih
    ·rw [List.nodup_append]
     refine ⟨ih,by simp,λa ha b hb=>?_⟩
     rw [List.mem_singleton] at hb
     rw [hb]
     have:=(mem_npL K).1 ha
     omega
  have etk : ((npL P m).take (k+1)).reverse=(npL P m)[k] :: ((npL P m).take k).reverse:=by rw [List.take_succ_eq_append_getElem hkl,List.reverse_append];rfl
  rw [etk]
  refine .ind _ (λhc=>?_) ih
  have hlk : k<(kerL O m R P m).length:=by rw [kerL_len];exact hkl
  have hat:=npL_at (P:=P) (k:=m) hkl
  have eg : (npL P m).getD k 0=(npL P m)[k]:=by simp [List.getD_eq_getElem?_getD,hkl]
  rw [eg] at hat
  have h1:=hc (λv=>nth v k) (Lin.coord F hlk) λy hy=>by
   rw [List.mem_reverse] at hy
   show nth (colS _ y) k=0
   rw [nth_colS _ y k hlk,kerL_at O m R P m hkl,eg]
   have hym:=(mem_npL m).1 (List.mem_of_mem_take hy)
   have hyk : y ≠ (npL P m)[k]:=λe=>by
    obtain ⟨q,hq,e2⟩:=List.mem_iff_getElem.1 hy
    rw [List.length_take] at hq
    rw [List.getElem_take] at e2
    have h3:=(List.getElem_inj (hnd m)).1 (e2.trans e)
    omega
   refine kerTo_other hP hym.1 hyk _ (Nat.le_refl _) λq hq e=>hym.2 ?_
   have h4:=hP.lt q hq
   have : nth P q ∈ P:=nth_mem hq
   rwa [show nth P q=(y : Int) by omega] at this
  have h2 : nth (colS (kerL O m R P m) (npL P m)[k]) k=0:=h1
  rw [nth_colS _ _ k hlk,kerL_at O m R P m hkl,eg,kerTo_self hP hat.1 hat.2 _ (Nat.le_refl _)] at h2
  exact absurd h2 (by decide)
theorem npL_count (P : List Int) (hP : ∀j,j<P.length->0<=nth P j/\nth P j<m) (ha : ∀i j,i<j->j<P.length->nth P i<nth P j) : (npL P m).length+P.length=m:=by
 have key : ∀k,k<=m->∃t,t<=P.length/\(npL P k).length+t=k/\(∀j,j<t->nth P j<k)/\(∀j,t<=j->j<P.length->(k : Int)<=nth P j):=by
  intro k
  induction k with
  | zero=>intro _;exact ⟨0,Nat.zero_le _,rfl,λj hj=>by omega,λj _ hj=>(hP j hj).1⟩
  | succ k ih =>
   intro hk
   obtain ⟨t,h1,h2,h3,h4⟩:=ih (by omega)
   rw [npL]
   by_cases hm : (k : Int) ∈ P
   ·rw [if_pos hm]
    obtain ⟨q,hq,e⟩:=List.mem_iff_getElem.1 hm
    rw [<- nth_getElem hq] at e
    have hqt : q=t:=by
     by_cases h5 : q<t
     ·have:=h3 q h5;omega
     ·by_cases h6 : t<q
      ·have h7:=ha t q h6 hq
       have h8:=h4 t (Nat.le_refl _) (by omega)
       omega
      ·omega
    subst hqt
    refine ⟨q+1,by omega,by omega,λj hj=>?_,λj h5 h6=>?_⟩
    ·by_cases e2 : j=q
     ·subst e2;omega
     ·have:=h3 j (by omega);omega
    ·have:=ha q j (by omega) h6;omega
   ·rw [if_neg hm,List.length_append,List.length_singleton]
    refine ⟨t,h1,by omega,λj hj=>by have:=h3 j hj;omega,λj h5 h6=>?_⟩
    have h7:=h4 j h5 h6
    have h8 : nth P j ≠ k:=λe=>hm (by rw [<- e];exact nth_mem h6)
    omega
 obtain ⟨t,h1,h2,h3,h4⟩:=key m (Nat.le_refl _)
 have : t=P.length:=by
  apply Classical.byContradiction
  intro h
  have h5:=h4 t (Nat.le_refl _) (by omega)
  have h6:=hP t (by omega)
  omega
 omega
theorem ker_canon (F : Fld O El) (hR : Rws El m R) (hP : Piv R P m) (hl : Lead R P) (hlen : R.length=P.length) :
  R.length+(canO O m (kerL O m R P m)).length=m/\Orth O m R (canO O m (kerL O m R P m)):=by
 have hK:=kerL_rws F hR hP hlen
 have hcnt:=npL_count (m:=m) P hP.lt hl.asc
 have hkl:=kerL_len O m R P m
 obtain ⟨r1,r2⟩:=canO_rsub F hK
 have hO:=ker_orth F hR hP hl hlen
 refine ⟨?_,λi j hi hj=>?_⟩
 ·have h1:=canO_rk F hK
  have h2:=ker_ind F hP (O:=O) (El:=El) (R:=R) (npL P m).length (Nat.le_refl _)
  have hle:=(elimTo_piv O (kerL O m R P m) m).2
  have hcl:=canO_len F hK
  have h3:=Rk.map (cl':=clV O El (canO O m (kerL O m R P m)).length (colS (canO O m (kerL O m R P m)))) (λy=>y<m) id (λl x hl hx=>by rw [List.map_id];exact ⟨r1.cl hl hx,r2.cl hl hx⟩) h2 (λy hy=>by
   rw [List.mem_reverse] at hy
   exact ((mem_npL m).1 (List.mem_of_mem_take hy)).1)
  have h4:=Rk.le (col_clo F (canO_rws F hK)) h3 h1 (λx hx=>(col_clo F (canO_rws F hK)).mem _ _ (by
   rw [List.map_id,List.mem_reverse] at hx
   exact List.mem_range.2 ((mem_npL m).1 (List.mem_of_mem_take hx)).1))
  omega
 ·obtain ⟨e,he,he2⟩:=r1 j hj
  rw [dotN_congr (a':=λp=>nth (nthR R i) p) (b':=λp=>e (colS (kerL O m R P m) p)) m λp hp=>⟨rfl,he2 p hp⟩]
  exact form_dot F hK he (λp hp=>Vc.at (hR.row hi) hp) λq hq=>hO i q hi hq
end
end

section
open Go.RowKit
def bitsTo (x : Nat) : Nat->List Int
 | 0=>[]
 | k+1=>if x.testBit k=true then bitsTo x k ++ [(k : Int)] else bitsTo x k
theorem testBit_div (x i : Nat) : x.testBit i=decide (x / 2 ^ i % 2=1):=by
 rw [Nat.testBit,Nat.shiftRight_eq_div_pow,Nat.one_and_eq_mod_two]
 rcases Nat.mod_two_eq_zero_or_one (x / 2 ^ i) with h | h <;> simp [h]
end

section
open Go.RowKit
def cplU (x : Nat) : Nat:=18446744073709551615 ^^^ x
theorem cplU_test (x i : Nat) (hi : i<64) : (cplU x).testBit i = !x.testBit i:=by
 have h : (18446744073709551615 : Nat).testBit i=true:=by
  have:=Nat.testBit_two_pow_sub_one 64 i
  rw [show (2 : Nat) ^ 64 - 1=18446744073709551615 by decide] at this
  rw [this];simp [hi]
 rw [cplU,Nat.testBit_xor,h];simp
def dimS (O : FOps) (L : List (List Int)) (N x : Nat) : Int:=(grS O L (bitsTo x N)).length+(grS O L (bitsTo (cplU x) N)).length - L.length
end

section
open Go.RowKit
def maskTo (Q : List Int) : Nat->Nat
 | 0=>0
 | k+1=>maskTo Q k ||| 2 ^ (nth Q k).toNat
def maskS (Q : List Int) : Nat:=maskTo Q Q.length
end

section
set_option maxRecDepth 100000
set_option maxHeartbeats 3200000

open Go.RowKit
def SomeBool (w : World) (e : Ending) (w' : World) : Prop:=∃z,e = .returned (.bool z)/\Below w.heap.size w w'
theorem rFew9_any (a : Option Addr) (n c K : Nat) (L : List (List Int)) (w : World) (hi : Mat w a n L) (hK : K<=100000) :
  Calls Tryz.prog 63 #[.agg #[.int .i64 0,.slice a n c],.int .i64 K] w (SomeBool w):=by
 have Hlen:=Lib.hid hi.len
 have hpl:=hi.pl
 have hmax:=hi.max
 unfold maxLen at hmax
 go_enter Tryz.func63,Tryz.ntmps63
 go_upto_region 1 with fail
 obtain ⟨W,hW⟩ : ∃W : World,W=w.alloc (.cells #[.int .i64 0,.slice a n c] 82):=⟨_,rfl⟩
 rw [<- hW]
 have hbW : Below w.heap.size w W:=by rw [hW];exact below1 _ _
 have x0 : Box W w.heap.size [.int .i64 0,.slice a n c]:=by rw [hW];exact Box.new _ _ _ rfl
 have c0:=x0.cell 0 rfl
 have c1:=x0.cell 1 rfl
 have hiW:=hi.keep hbW
 have HbW:=Lib.hid hbW
 clear hW x0 hi hbW
 by_cases h1 : K<n
 ·have d1 : decide (K<n)=true:=by simpa using h1
  have d1' : decide ((K : Int)<n)=true:=by simp;omega
  go_wp2_with fail
  go_ret
  exact ⟨_,rfl,HbW.out⟩
 ·have d1 : decide (K<n)=false:=by simpa using h1
  have d1' : decide ((K : Int)<n)=false:=by simp;omega
  go_wp2_with fail
  go_loopw [5,6] (λlv iv wr=>∃k m : Nat,k<=n/\m<=K/\lv = .int .i64 m/\iv = .int .i64 k/\wr=W) (λ_ iv _=>n - (intOf iv).toNat)
  case atStart=>exact ⟨0,K - n,Nat.zero_le _,by omega,by go_num,rfl,rfl⟩
  case round =>
   obtain ⟨k,m,hk,hm,rfl,rfl,rfl⟩:=hrel
   by_cases hlt : k<n
   ·obtain ⟨ra,rn,rc,hcell,hrow⟩:=hiW.cell k hlt
    by_cases h2 : m<rn
    ·have d2 : decide (m<rn)=true:=by simpa using h2
     have d2' : decide ((m : Int)<rn)=true:=by simp;omega
     go_wp2_with fail
     go_ret
     exact ⟨_,rfl,HbW.out⟩
    ·have d2 : decide (m<rn)=false:=by simpa using h2
     have d2' : decide ((m : Int)<rn)=false:=by simp;omega
     have d3 : (rn : Int)<=m:=by omega
     go_wp2_with fail
     go_roundw
     case rel=>exact ⟨k+1,m - rn,by omega,by omega,by go_num,by go_num,by first | rfl | trivial⟩
     case measure=>simp [intOf] <;> omega
   ·obtain rfl : k=n:=by omega
    go_wp2_with fail
    go_ret
    exact ⟨_,rfl,HbW.out⟩
theorem rFew12_any (P M : Int) (am : Option Addr) (mn cm : Nat) (N : Int) (a : Option Addr) (n c K : Nat) (L : List (List Int)) (w : World) (hi : Mat w a n L) (hK : K<=100000) :
  Calls Tryz.prog 28 #[.agg #[.int .i64 P,.int .i64 M,.slice am mn cm,.int .i64 N,.slice a n c],.int .i64 K] w (SomeBool w):=by
 have H:=Lib.hid (λV hV=>rFew9_any a n c K L V (hi.keep hV) hK : ∀V,Below w.heap.size w V->_)
 clear hi
 go_enter Tryz.func28,Tryz.ntmps28
 go_wp2_with fail
 have hbW:=below1 w (.cells #[.int .i64 P,.int .i64 M,.slice am mn cm,.int .i64 N,.slice a n c] 27)
 refine (H.out _ hbW).mono ?_
 rintro e w1 ⟨z,rfl,hb1⟩
 have hF:=Below.next hbW hb1
 go_wp2_with fail
 go_ret
 exact ⟨z,rfl,hF⟩
end

section
set_option maxRecDepth 100000

open Go.ChangeShapes Go.WideShapes Go.ChangeAt Go.RowKit
theorem Tryz.own : ownKnob Tryz.prog.godebug=none:=by kernel_rfl
theorem Tryz.laid : laidOutB Tryz.prog=true:=by kernel_rfl
section
variable {H : Type} {enc : TypeId × Value->H} {W : World} {held : Bool} {fuel : Nat} {cs : List Value} {x : DataW H × List MemPlace}
theorem add_cell {a : Addr} {v : Value} {i : Nat} (h : W.cell? (a.add i)=some v) : W.cell? ⟨a.block,a.off+i,none⟩=some v:=by
 have hs:=World.cell?_spot h
 obtain ⟨b,o,s⟩:=a
 by_cases h0 : i=0
 ·subst h0
  simp only [Addr.add,if_true] at hs h
  subst hs
  exact h
 ·simpa [Addr.add,h0] using h
theorem plain_of {a : Addr} {v : Value} (h : W.cell? (a.add 0)=some v) : a=⟨a.block,a.off,none⟩:=by
 have hs:=World.cell?_spot h
 obtain ⟨b,o,s⟩:=a
 simp only [Addr.add,if_true] at hs
 subst hs
 rfl
theorem nth_take_getD (l : List Int) (n i : Nat) (h : i<n) : nth (l.take n) i=l.getD i 0:=by
 unfold nth
 simp only [List.getD_eq_getElem?_getD,List.getElem?_take]
 rw [if_pos h]
theorem opened_ints (h : DataW.trod enc Tryz.prog W 0 (λ_=>true) held fuel 22 cs=some x) : ∃a n c l,cs=[.slice a n c]/\Ints W a n l:=by
 rcases open_ints Tryz.underlying22 Tryz.underlying3 (by kernel_rfl) h with ⟨hcs,_⟩ | ⟨a,len,cap,zs,hcs,_,hl,hm,hz,_,hcell,_⟩
 ·exact ⟨none,0,0,[],hcs,Ints.nil _ _⟩
 ·simp only [if_true] at hz
  refine ⟨some a,len,cap,zs.take len,hcs,⟨by simp;omega,λh0=>?_,by omega,λi hi=>?_⟩⟩
  ·exact congrArg some (plain_of (hcell 0 (by omega)))
  ·rw [nth_take_getD _ _ _ hi]
   exact add_cell (hcell i (by omega))
theorem opened_mat (h : DataW.trod enc Tryz.prog W 0 (λ_=>true) held fuel 25 cs=some x) : ∃a n c L,cs=[.slice a n c]/\Mat W a n L:=by
 rcases Go.Deep.open_int_rows Tryz.underlying25 Tryz.underlying22 Tryz.underlying3 (by kernel_rfl) (by kernel_rfl) h with ⟨hcs,_⟩ | ⟨a,len,cap,A,Ln,C,Z,hcs,_,hl,hm,_,hrows⟩
 ·exact ⟨none,0,0,[],hcs,⟨rfl,λh0=>by omega,by unfold maxLen;omega,λi hi=>by omega⟩⟩
 ·refine ⟨some a,len,cap,(List.range len).map (λr=>(Z r).take (Ln r)),hcs,⟨by simp,λh0=>congrArg some (plain_of (hrows 0 (by omega)).1),by omega,λr hr=>?_⟩⟩
  obtain ⟨h1,h2,h3,h4,_,h5,h6⟩:=hrows r (by omega)
  refine ⟨A r,Ln r,C r,add_cell h1,?_⟩
  have e : nthR ((List.range len).map (λr=>(Z r).take (Ln r))) r=(Z r).take (Ln r):=by
   unfold nthR
   simp [List.getD_eq_getElem?_getD,List.getElem?_map,List.getElem?_range hr]
  rw [e]
  match hA : A r,h5,h6 with
  | none,h5,_ =>
   have h0 : Ln r=0:=by have:=h5 rfl;omega
   rw [h0]
   exact Ints.nil _ _
  | some b,_,h6 =>
   obtain ⟨_,h7⟩:=h6 b rfl
   exact ⟨by simp;omega,λh0=>congrArg some (plain_of (h7 0 (by omega))),by omega,λi hi=>by
    rw [nth_take_getD _ _ _ hi]
    exact add_cell (h7 i (by omega))⟩
end
section
variable {H : Type} {enc : TypeId × Value->H} {W : World} {held : Bool} {b0 : Nat} {v : Value} {d : DataW H} {p : List MemPlace}
theorem arg_code (hv : Value.okWide Tryz.prog W .any b0 27 v) (h : DataW.Trod enc Tryz.prog W 0 (λ_=>true) held 27 v d p) :
  ∃(P M : Int) (am : Option Addr) (mn cm : Nat) (mod : List Int) (N : Int) (a : Option Addr) (n c : Nat) (L : List (List Int)),v = .agg #[.int .i64 P,.int .i64 M,.slice am mn cm,.int .i64 N,.slice a n c]/\Ints W am mn mod/\Mat W a n L:=by
 obtain ⟨cs,rfl,hsz⟩:=okWide_struct Tryz.underlying27 hv
 rw [show Tryz.prog.cellsOf 27 = 5 by kernel_rfl] at hsz
 obtain ⟨l⟩:=cs
 match l,hsz with
 | [v0,v1,v2,v3,v4],_ =>
 obtain ⟨fuel,hf⟩:=h
 obtain ⟨xs,n0,_,_,_,hlen,hfs⟩:=DataW.trod_struct Tryz.underlying27 hf
 obtain ⟨y0,y1,y2,rfl⟩ : ∃y0 y1 y2,xs=[y0,y1,y2]:=by
  match xs,hlen with
  | [y0,y1,y2],_=>exact ⟨y0,y1,y2,rfl⟩
 have k24 : Tryz.prog.cellsOf 24 = 3:=by kernel_rfl
 have k3 : Tryz.prog.cellsOf 3 = 1:=by kernel_rfl
 have k22 : Tryz.prog.cellsOf 22 = 1:=by kernel_rfl
 have k25 : Tryz.prog.cellsOf 25 = 1:=by kernel_rfl
 have g0 : DataW.trod enc Tryz.prog W 0 (λ_=>true) held n0 24 [v0,v1,v2]=some y0:=by simpa [Value.cells,k24] using hfs 0 _ rfl
 have g1 : DataW.trod enc Tryz.prog W 0 (λ_=>true) held n0 3 [v3]=some y1:=by simpa [Value.cells,k3] using hfs 1 _ rfl
 have g2 : DataW.trod enc Tryz.prog W 0 (λ_=>true) held n0 25 [v4]=some y2:=by simpa [Value.cells,k25] using hfs 2 _ rfl
 obtain ⟨xs',n1,_,_,_,hlen',hfs'⟩:=DataW.trod_struct Tryz.underlying24 g0
 obtain ⟨z0,z1,z2,rfl⟩ : ∃z0 z1 z2,xs'=[z0,z1,z2]:=by
  match xs',hlen' with
  | [z0,z1,z2],_=>exact ⟨z0,z1,z2,rfl⟩
 have q0 : DataW.trod enc Tryz.prog W 0 (λ_=>true) held n1 3 [v0]=some z0:=by simpa [k3] using hfs' 0 _ rfl
 have q1 : DataW.trod enc Tryz.prog W 0 (λ_=>true) held n1 3 [v1]=some z1:=by simpa [k3] using hfs' 1 _ rfl
 have q2 : DataW.trod enc Tryz.prog W 0 (λ_=>true) held n1 22 [v2]=some z2:=by simpa [k22] using hfs' 2 _ rfl
 obtain ⟨P,eP,_,_⟩:=DataW.trod_int Tryz.underlying3 q0
 obtain ⟨M,eM,_,_⟩:=DataW.trod_int Tryz.underlying3 q1
 obtain ⟨N,eN,_,_⟩:=DataW.trod_int Tryz.underlying3 g1
 obtain ⟨am,mn,cm,mod,eI,hI⟩:=opened_ints q2
 obtain ⟨a,n,c,L,eL,hL⟩:=opened_mat g2
 simp at eP eM eN eI eL
 subst eP eM eN eI eL
 exact ⟨P,M,am,mn,cm,mod,N,a,n,c,L,rfl,hI,hL⟩
end
end

end Go.Proofs.YtcfmiocdlcapoaaGreat
