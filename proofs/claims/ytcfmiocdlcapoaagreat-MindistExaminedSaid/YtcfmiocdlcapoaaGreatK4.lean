/-  -/
import Derived.Test.YtcfmiocdlcapoaaGreatK1
import Derived.RangeFuncBox
import Derived.RangeFuncLeaves
import Derived.Shelf.Abstract
import Derived.WalkKit
import Derived.OwnWalkIn
import Derived.TacticsInMore
import Derived.LoopNIn
import Derived.LoopIn
import Derived.Maps.AppendAt
namespace Go.Proofs.YtcfmiocdlcapoaaGreat
set_option linter.unusedVariables false
set_option linter.unusedSimpArgs false
set_option linter.unusedSectionVars false

section
def dV (P : Int) (M : Nat) (x : Int) : Nat->Int:=nth (digs x P M)
theorem dV_sh (P : Int) (M : Nat) (x : Int) : Sh M (dV P M x):=λi hi=>nth_out (by rw [digs_length];exact hi)
theorem valu_digs {P : Int} (hP : 0<P) : ∀(M : Nat) (x : Int),0<=x->x<P ^ M->valu P (digs x P M)=x
 | 0,x,h0,h1=>by simp at h1;simp [digs,valu];omega
 | M+1,x,h0,h1=>by
  rw [digs,valu,valu_digs hP M (x / P) (Int.ediv_nonneg h0 (by omega)) (Int.ediv_lt_of_lt_mul hP (by rwa [Int.pow_succ] at h1))]
  exact Int.emod_add_mul_ediv x P
theorem digs_cons {P : Int} (c r : Int) (M : Nat) (hc0 : 0<=c) (hc1 : c<P) : digs (c+P * r) P (M+1)=c :: digs r P M:=by
 rw [digs,Int.add_mul_emod_self_left,Int.emod_eq_of_lt hc0 hc1,Int.add_mul_ediv_left _ _ (by omega),Int.ediv_eq_zero_of_lt hc0 hc1,Int.zero_add]
theorem digs_valu {P : Int} : ∀(l : List Int),Dig P l->digs (valu P l) P l.length=l
 | [],_=>rfl
 | c :: l,h=>by
  have h0:=h 0
  simp only [nth,List.getD_cons_zero] at h0
  rw [valu,List.length_cons,digs_cons c _ _ h0.1 h0.2,digs_valu l (λi=>by simpa [nth] using h (i+1))]
theorem cg_mod (P x : Int) : P ∣ x % P - x:=⟨-(x / P),by have:=Int.emod_add_mul_ediv x P;rw [Int.mul_neg];omega⟩
theorem dvd_small {P a b : Int} (hP : 0<P) (ha : 0<=a) (ha1 : a<P) (hb : 0<=b) (hb1 : b<P) (h : P ∣ a - b) : a=b:=by
 obtain ⟨c,hc⟩:=h
 have hc0 : c=0:=by
  rcases Int.lt_trichotomy c 0 with h1 | h1 | h1
  ·have:=Int.mul_le_mul_of_nonneg_left (show c <= -1 by omega) (show 0<=P by omega)
   omega
  ·exact h1
  ·have:=Int.mul_le_mul_of_nonneg_left (show 1<=c by omega) (show 0<=P by omega)
   omega
 rw [hc0] at hc;omega
theorem el_ext {P : Int} (hP : 0<P) {M : Nat} {x y : Int} (hx0 : 0<=x) (hx1 : x<P ^ M) (hy0 : 0<=y) (hy1 : y<P ^ M) (h : Cg P (dV P M x) (dV P M y)) : x=y:=by
 have e : digs x P M=digs y P M:=by
  refine nth_ext (by rw [digs_length,digs_length]) λi _=>?_
  have h1:=Dig.digs hP M x i
  have h2:=Dig.digs hP M y i
  exact dvd_small hP h1.1 h1.2 h2.1 h2.2 (h i)
 rw [<- valu_digs hP M x hx0 hx1,<- valu_digs hP M y hy0 hy1,e]
theorem nth_cons_zero (c : Int) (l : List Int) : nth (c :: l) 0=c:=by simp [nth]
theorem nth_cons_succ (c : Int) (l : List Int) (i : Nat) : nth (c :: l) (i+1)=nth l i:=by simp [nth]
theorem dV_fsum {P : Int} (hP : 0<P) : ∀(M : Nat) (x y : Int),Cg P (dV P M (fsum P M x y)) (λi=>dV P M x i+dV P M y i)
 | 0,x,y=>λi=>by simp [dV,digs,nth]
 | M+1,x,y=>λi=>by
  simp only [dV,fsum]
  rw [digs_cons _ _ _ (Int.emod_nonneg _ (by omega)) (Int.emod_lt_of_pos _ hP),digs,digs]
  match i with
  | 0 =>
   rw [nth_cons_zero,nth_cons_zero,nth_cons_zero]
   have h1:=cg_mod P (x+y)
   have h2:=cg_mod P x
   have h3:=cg_mod P y
   have h4:=Int.dvd_sub (Int.dvd_sub h1 h2) h3
   rwa [show (x+y) % P - (x+y) - (x % P - x) - (y % P - y)=(x+y) % P - (x % P+y % P) by omega] at h4
  | i+1 =>
   rw [nth_cons_succ,nth_cons_succ,nth_cons_succ]
   exact dV_fsum hP M (x / P) (y / P) i
theorem dV_fneg {P : Int} (hP : 0<P) : ∀(M : Nat) (x : Int),Cg P (dV P M (fneg P M x)) (λi=>- dV P M x i)
 | 0,x=>λi=>by simp [dV,digs,nth]
 | M+1,x=>λi=>by
  simp only [dV,fneg]
  rw [digs_cons _ _ _ (Int.emod_nonneg _ (by omega)) (Int.emod_lt_of_pos _ hP),digs]
  match i with
  | 0 =>
   rw [nth_cons_zero,nth_cons_zero]
   have h1:=cg_mod P (P - x % P)
   have h4:=Int.dvd_add h1 (Int.dvd_refl P)
   rwa [show (P - x % P) % P - (P - x % P)+P=(P - x % P) % P - - (x % P) by omega] at h4
  | i+1 =>
   rw [nth_cons_succ,nth_cons_succ]
   exact dV_fneg hP M (x / P) i
theorem dV_zero (P : Int) : ∀(M : Nat),dV P M 0=λ_=>0
 | 0=>by funext i;simp [dV,digs,nth]
 | M+1=>by
  funext i
  simp only [dV,digs]
  match i with
  | 0=>rw [nth_cons_zero];simp
  | i+1=>rw [nth_cons_succ];have:=congrFun (dV_zero P M) i;simpa [dV] using this
theorem dV_one {P : Int} (hP : 2<=P) {M : Nat} (hM : 0<M) : dV P M 1=eV 0:=by
 obtain ⟨m,rfl⟩ : ∃m,M=m+1:=⟨M - 1,by omega⟩
 funext i
 simp only [dV,digs]
 match i with
 | 0=>rw [nth_cons_zero];simp [eV];exact Int.emod_eq_of_lt (by omega) (by omega)
 | i+1 =>
  rw [nth_cons_succ,Int.ediv_eq_zero_of_lt (by omega) (by omega)]
  have:=congrFun (dV_zero P m) i
  simpa [dV,eV] using this
theorem nth_shl {out : List Int} {M i : Nat} (hl : out.length=M) (hi : i<M) : nth (shl out) i=if i=0 then 0 else nth out (i - 1):=by
 match i with
 | 0=>simp [shl,nth]
 | i+1 =>
  rw [shl,nth_cons_succ,if_neg (by omega)]
  simp only [nth,List.getD_eq_getElem?_getD,List.getElem?_dropLast]
  rw [if_pos (by omega)];rfl
theorem horn_spec {P : Int} (hP : 0<P) (low a b : List Int) {M : Nat} (ha : a.length=M) : ∀k,k<=M ->
  Cg P (nth (horn P low a b M k)) (λi=>sm k (λj=>nth b (M - k+j) * shN M (nth low) j (nth a) i))
 | 0,_=>λi=>by
  have e : nth (horn P low a b M 0) i=0:=by
   simp only [horn,nth,List.getD_eq_getElem?_getD,List.getElem?_replicate];split <;> rfl
  rw [e];simp [sm]
 | k+1,hk=>by
  have ih:=Cg_shV (M:=M) (low:=nth low) (horn_spec hP low a b ha k (by omega))
  have e1 : (λi=>sm (k+1) (λj=>nth b (M - (k+1)+j) * shN M (nth low) j (nth a) i)) =
    λi=>shV M (nth low) (λi=>sm k (λj=>nth b (M - k+j) * shN M (nth low) j (nth a) i)) i+nth b (M - 1 - k) * nth a i:=by
   funext i
   rw [sm_shift,show M - (k+1)+0=M - 1 - k by omega]
   have e2:=congrFun (shN_sm (M:=M) (low:=nth low) 1 k (λj i=>nth b (M - k+j) * shN M (nth low) j (nth a) i)) i
   have e3 : shV M (nth low) (λi=>sm k (λj=>nth b (M - k+j) * shN M (nth low) j (nth a) i)) i=sm k (λj=>nth b (M - (k+1)+(j+1)) * shN M (nth low) (j+1) (nth a) i):=by
    refine Eq.trans e2 (sm_congr λj _=>?_)
    rw [shN_smul,show M - (k+1)+(j+1)=M - k+j by omega]
    rfl
   rw [e3]
   show nth b (M - 1 - k) * nth a i+_=_
   omega
  rw [e1]
  intro i
  show P ∣ nth (horn P low a b M (k+1)) i - (shV M (nth low) (λi=>sm k (λj=>nth b (M - k+j) * shN M (nth low) j (nth a) i)) i+nth b (M - 1 - k) * nth a i)
  by_cases hi : i<M
  ·rw [horn,nth_stepF _ _ _ _ _ _ _ hi,stepE,nth_shl (horn_length ..) hi]
   have h1:=ih i
   generalize hv : shV M (nth low) (λi=>sm k (λj=>nth b (M - k+j) * shN M (nth low) j (nth a) i)) i=z at *
   simp only [shV,if_pos hi] at h1
   generalize (if i=0 then (0 : Int) else nth (horn P low a b M k) (i - 1))=u at *
   generalize nth (horn P low a b M k) (M - 1)=t at *
   generalize nth b (M - 1 - k) * nth a i=c at *
   have h2:=cg_mod P (u+(P - t) * nth low i+c)
   have h3 : P ∣ P * nth low i:=Int.dvd_mul_right _ _
   have h4:=Int.dvd_add (Int.dvd_add h2 h1) h3
   rw [Int.sub_mul] at h4 ⊢
   rwa [show (u+(P * nth low i - t * nth low i)+c) % P - (u+(P * nth low i - t * nth low i)+c)+(u - t * nth low i - z)+P * nth low i=(u+(P * nth low i - t * nth low i)+c) % P - (z+c) by omega] at h4
  ·rw [nth_out (by rw [horn_length];omega),nth_out (l:=a) (by omega)]
   have e2 : shV M (nth low) (λi=>sm k (λj=>nth b (M - k+j) * shN M (nth low) j (nth a) i)) i=0:=Sh_shV _ i (by omega)
   rw [e2];simp
theorem dV_mulS {P : Int} (hP : 0<P) (M : Nat) (mod : List Int) (x y : Int) : Cg P (dV P M (mulS P M mod x y)) (mulV M (nth (lowF M mod)) (dV P M x) (dV P M y)):=by
 have h:=horn_spec hP (lowF M mod) (digs x P M) (digs y P M) (digs_length P M x) M (Nat.le_refl _)
 have e : dV P M (mulS P M mod x y)=nth (horn P (lowF M mod) (digs x P M) (digs y P M) M M):=by
  unfold dV mulS
  have:=digs_valu (P:=P) (horn P (lowF M mod) (digs x P M) (digs y P M) M M) (Dig.horn hP _ _ _ _ _)
  rw [horn_length] at this
  rw [this]
 rw [e,mulV_comm (dV_sh P M x) (dV_sh P M y)]
 refine h.trans (Cg.of_eq ?_)
 funext i
 simp only [mulV]
 refine sm_congr λj _=>?_
 rw [show M - M+j=j by omega]
 rfl
structure Res (P : Int) (M : Nat) : Prop where
 p : 2<=P
 m : 0<M
def ElP (P : Int) (M : Nat) (x : Int) : Prop:=0<=x/\x<P ^ M
variable {P : Int} {M : Nat} {mod : List Int}
theorem ElP.ext (h : Res P M) {x y : Int} (hx : ElP P M x) (hy : ElP P M y) (e : Cg P (dV P M x) (dV P M y)) : x=y:=el_ext (by have:=h.p;omega) hx.1 hx.2 hy.1 hy.2 e
theorem mulS_el (h : Res P M) (x y : Int) : ElP P M (mulS P M mod x y):=mulS_bd (by have:=h.p;omega) M mod x y
theorem fsum_el (h : Res P M) (x y : Int) : ElP P M (fsum P M x y):=fsum_bd (by have:=h.p;omega) M x y
theorem fneg_el (h : Res P M) (x : Int) : ElP P M (fneg P M x):=fneg_bd (by have:=h.p;omega) M x
theorem one_lt_pow (h : Res P M) : 1<P ^ M:=by
 have h1:=pow_mono (P:=P) (by have:=h.p;omega) h.m
 have h2:=h.p
 have h3 : P ^ (0+1)=P:=by rw [Int.pow_succ,Int.pow_zero,Int.one_mul]
 have h4 : P ^ (0+1)<=P ^ M:=h1
 omega
theorem one_el (h : Res P M) : ElP P M 1:=⟨by omega,one_lt_pow h⟩
theorem zero_el (h : Res P M) : ElP P M 0:=⟨by omega,by have:=one_lt_pow h;omega⟩
theorem Res.pos (h : Res P M) : 0<P:=by have:=h.p;omega
theorem mulS_comm (h : Res P M) (x y : Int) : mulS P M mod x y=mulS P M mod y x :=
 (mulS_el h x y).ext h (mulS_el h y x) (((dV_mulS h.pos M mod x y).trans (Cg.of_eq (mulV_comm (dV_sh _ _ _) (dV_sh _ _ _)))).trans (dV_mulS h.pos M mod y x).symm)
theorem mulS_assoc (h : Res P M) (x y z : Int) : mulS P M mod (mulS P M mod x y) z=mulS P M mod x (mulS P M mod y z):=by
 refine (mulS_el h _ z).ext h (mulS_el h x _) ?_
 refine (dV_mulS h.pos M mod _ z).trans (((Cg_mulV (dV_mulS h.pos M mod x y) (Cg.refl _ _)).trans (Cg.of_eq (mulV_assoc (dV_sh _ _ _) (dV_sh _ _ _) (dV_sh _ _ _)))).trans ?_)
 exact ((dV_mulS h.pos M mod x _).trans (Cg_mulV (Cg.refl _ _) (dV_mulS h.pos M mod y z))).symm
theorem mulS_one (h : Res P M) {x : Int} (hx : ElP P M x) : mulS P M mod 1 x=x:=by
 refine (mulS_el h 1 x).ext h hx ((dV_mulS h.pos M mod 1 x).trans (Cg.of_eq ?_))
 rw [dV_one h.p h.m,mulV_one h.m (dV_sh _ _ _)]
theorem mulS_zero (h : Res P M) (x : Int) : mulS P M mod x 0=0:=by
 refine (mulS_el h x 0).ext h (zero_el h) ((dV_mulS h.pos M mod x 0).trans (Cg.of_eq ?_))
 rw [dV_zero]
 funext i
 simp only [mulV]
 rw [sm_congr (g:=λ_=>0) λj _=>by rw [shN_zero];simp,sm_zero]
theorem mulS_add (h : Res P M) (x y z : Int) : mulS P M mod x (fsum P M y z)=fsum P M (mulS P M mod x y) (mulS P M mod x z):=by
 refine (mulS_el h x _).ext h (fsum_el h _ _) ((dV_mulS h.pos M mod x _).trans ?_)
 refine (Cg_mulV (Cg.refl _ _) (dV_fsum h.pos M y z)).trans ((Cg.of_eq (mulV_addRight _ _ _)).trans ?_)
 exact ((dV_fsum h.pos M _ _).trans (Cg.add (dV_mulS h.pos M mod x y) (dV_mulS h.pos M mod x z))).symm
theorem fsum_comm (h : Res P M) (x y : Int) : fsum P M x y=fsum P M y x:=by
 refine (fsum_el h x y).ext h (fsum_el h y x) ((dV_fsum h.pos M x y).trans ((Cg.of_eq ?_).trans (dV_fsum h.pos M y x).symm))
 funext i;show _=_;omega
theorem fsum_assoc (h : Res P M) (x y z : Int) : fsum P M (fsum P M x y) z=fsum P M x (fsum P M y z):=by
 refine (fsum_el h _ z).ext h (fsum_el h x _) ?_
 refine (dV_fsum h.pos M _ z).trans ((Cg.add (dV_fsum h.pos M x y) (Cg.refl _ _)).trans ((Cg.of_eq ?_).trans ((dV_fsum h.pos M x _).trans (Cg.add (Cg.refl _ _) (dV_fsum h.pos M y z))).symm))
 funext i;show _=_;omega
theorem fsum_id (h : Res P M) {x : Int} (hx : ElP P M x) : fsum P M x 0=x:=by
 refine (fsum_el h x 0).ext h hx ((dV_fsum h.pos M x 0).trans (Cg.of_eq ?_))
 rw [dV_zero];funext i;simp
theorem fsum_fneg (h : Res P M) (x : Int) : fsum P M x (fneg P M x)=0:=by
 refine (fsum_el h x _).ext h (zero_el h) ((dV_fsum h.pos M x _).trans ((Cg.add (Cg.refl _ _) (dV_fneg h.pos M x)).trans (Cg.of_eq ?_)))
 rw [dV_zero];funext i;show _=_;omega
end

section
structure Clo (cl : List Nat->Nat->Prop) : Prop where
 mem : ∀l x,x ∈ l->cl l x
 mono : ∀l l',(∀x ∈ l,cl l' x)->∀y,cl l y->cl l' y
 exch : ∀l x y,cl (x :: l) y->¬ cl l y->cl (y :: l) x
inductive Rk (cl : List Nat->Nat->Prop) : List Nat->Nat->Prop
 | nil : Rk cl [] 0
 | dep {l n} (x : Nat) : cl l x->Rk cl l n->Rk cl (x :: l) n
 | ind {l n} (x : Nat) : ¬ cl l x->Rk cl l n->Rk cl (x :: l) (n+1)
variable {cl : List Nat->Nat->Prop}
theorem Rk.ex (cl : List Nat->Nat->Prop) : ∀l,∃n,Rk cl l n
 | []=>⟨0,.nil⟩
 | x :: l=>by
  obtain ⟨n,h⟩:=Rk.ex cl l
  by_cases hx : cl l x
  ·exact ⟨n,.dep x hx h⟩
  ·exact ⟨n+1,.ind x hx h⟩
theorem Rk.uniq {l : List Nat} {n : Nat} (h : Rk cl l n) : ∀ {m},Rk cl l m->n=m:=by
 induction h with
 | nil=>intro m h;cases h;rfl
 | dep x hx _ ih =>
  intro m h
  cases h with
  | dep _ _ h=>exact ih h
  | ind _ hn _=>exact absurd hx hn
 | ind x hx _ ih =>
  intro m h
  cases h with
  | dep _ hn _=>exact absurd hn hx
  | ind _ _ h=>rw [ih h]
theorem Clo.sub (h : Clo cl) {l l' : List Nat} (hs : ∀x ∈ l,x ∈ l') {y : Nat} (hy : cl l y) : cl l' y:=h.mono l l' (λx hx=>h.mem l' x (hs x hx)) y hy
theorem Clo.drop (h : Clo cl) {l : List Nat} {x y : Nat} (hx : cl l x) (hy : cl (x :: l) y) : cl l y :=
 h.mono (x :: l) l (λz hz=>by
  rcases List.mem_cons.1 hz with rfl | hz
  ·exact hx
  ·exact h.mem l z hz) y hy
theorem Rk.swap (h : Clo cl) {l : List Nat} {x y n : Nat} (hr : Rk cl (x :: y :: l) n) : Rk cl (y :: x :: l) n:=by
 have up : ∀ {z u},cl l z->cl (u :: l) z:=λhz=>h.sub (λx hx=>by simp [hx]) hz
 cases hr with
 | dep _ hx hr =>
  cases hr with
  | dep _ hy hr=>exact .dep y (up hy) (.dep x (h.drop hy hx) hr)
  | ind _ hy hr =>
   by_cases hxl : cl l x
   ·exact .ind y (λhc=>hy (h.drop hxl hc)) (.dep x hxl hr)
   ·exact .dep y (h.exch l y x hx hxl) (.ind x hxl hr)
 | ind _ hx hr =>
  cases hr with
  | dep _ hy hr=>exact .dep y (up hy) (.ind x (λhc=>hx (up hc)) hr)
  | ind _ hy hr =>
   have hxl : ¬ cl l x:=λhc=>hx (up hc)
   exact .ind y (λhc=>hx (h.exch l x y hc hy)) (.ind x hxl hr)
theorem Clo.perm (h : Clo cl) {l l' : List Nat} (hp : l.Perm l') {x : Nat} : cl l x->cl l' x:=h.sub λy hy=>hp.mem_iff.1 hy
theorem Rk.perm (h : Clo cl) {l l' : List Nat} (hp : l.Perm l') : ∀ {n},Rk cl l n->Rk cl l' n:=by
 induction hp with
 | nil=>intro n hr;exact hr
 | cons x hp ih =>
  intro n hr
  cases hr with
  | dep _ hx hr=>exact .dep x (h.perm hp hx) (ih hr)
  | ind _ hx hr=>exact .ind x (λhc=>hx (h.perm hp.symm hc)) (ih hr)
 | swap x y l=>intro n hr;exact hr.swap h
 | trans _ _ ih1 ih2=>intro n hr;exact ih2 (ih1 hr)
theorem Rk.absorb (h : Clo cl) {l : List Nat} {n : Nat} (hr : Rk cl l n) : ∀l',(∀x ∈ l',cl l x)->Rk cl (l' ++ l) n
 | [],_=>hr
 | x :: l',hx=>.dep x (h.sub (λy hy=>List.mem_append.2 (.inr hy)) (hx x (by simp))) (Rk.absorb h hr l' λy hy=>hx y (by simp [hy]))
theorem Rk.grow {l : List Nat} {m : Nat} (hr : Rk cl l m) : ∀(l' : List Nat) {n : Nat},Rk cl (l' ++ l) n->m<=n
 | [],n,hn=>by rw [hr.uniq hn];exact Nat.le_refl _
 | x :: l',n,hn=>by
  cases hn with
  | dep _ _ hn=>exact Rk.grow hr l' hn
  | ind _ _ hn=>exact Nat.le_succ_of_le (Rk.grow hr l' hn)
theorem Rk.le (h : Clo cl) {l l' : List Nat} {m n : Nat} (hm : Rk cl l m) (hn : Rk cl l' n) (hs : ∀x ∈ l,cl l' x) : m<=n :=
 hm.grow l' ((hn.absorb h l hs).perm h List.perm_append_comm)
theorem Rk.same (h : Clo cl) {l l' : List Nat} {m n : Nat} (hm : Rk cl l m) (hn : Rk cl l' n) (hs : ∀x,x ∈ l ↔ x ∈ l') : m=n :=
 Nat.le_antisymm (hm.le h hn λx hx=>h.mem _ _ ((hs x).1 hx)) (hn.le h hm λx hx=>h.mem _ _ ((hs x).2 hx))
end

section
set_option maxRecDepth 100000
set_option maxHeartbeats 2000000

open Go.RowKit Go.Shelf
attribute [local go_sem] Oper.semAt_some
theorem take_nth (l : List Int) {k : Nat} (h : k<l.length) : l.take (k+1)=l.take k ++ [nth l k]:=by
 rw [List.take_succ_eq_append_getElem h,nth_getElem h]
theorem iterVals1_in (F : Fence) (n : Nat) (hF : F.fn 277) (hro : F.round=none) (hn : 1<=n) (l Bs n₀ : Nat) (a : Option Addr) (len cap : Nat) (zs : List Int) (hreach : len * 8<=140737488351232) (J Jx : List Int->World->Prop)
  (hY : ∀pre x W,J pre W->pre.length<len->YieldAt F (n - 1) Tryz.prog l #[.int .i64 x] W λe W' =>
   (e = .returned (.bool true)/\J (pre ++ [x]) W'/\Below n₀ W W')\/(e = .returned (.bool false)/\Jx (pre ++ [x]) W'))
  (W : World) (hBs : W.cell? ⟨Bs,0,none⟩=some (.slice a len cap)) (hc : Ints W a len zs) (hb : 0<len->ablk a<n₀) (h0 : J [] W) :
  CallsIn F n Tryz.prog 277 #[.func (.yield l) #[] #[],.pointer (some ⟨Bs,0,none⟩)] W λe W'=>(∃v,e = .returned v) /\
   ((∃ys,ys=zs/\J ys W')\/(∃pre,(∃k,k<=len/\pre=zs.take k)/\Jx pre W')):=by
 have hpl:=hc.pl
 have Hlen:=Lib.hid hc.len
 refine callsIn_of_wp Tryz.func277 rfl hF ?_ hro
 simp only [Tryz.ntmps277,List.size_toArray,List.length_cons,List.length_nil,Nat.reduceAdd,Nat.reduceSub,Array.replicate_succ,Array.replicate_zero,List.push_toArray,List.append_toArray,List.nil_append,List.cons_append]
 gi_wp2
 gi_loopw [7] (λi wr=>∃k : Nat,k<=len/\i = .int .i64 k/\J (zs.take k) wr/\Below n₀ W wr)
  (λi _=>len - (intOf i).toNat)
 case atStart=>exact ⟨0,Nat.zero_le _,rfl,h0,Below.refl _ _⟩
 case round =>
  obtain ⟨k,hk,rfl,hJs,hnx⟩:=hrel
  by_cases hlt : k<len
  ·have hcx:=(hc.below hnx hb).cell k hlt
   have htk:=take_nth zs (k:=k) (by rw [Hlen.out];exact hlt)
   have Htk:=Lib.hid htk
   obtain ⟨fn,tmps,assign,body,hy,hR⟩:=hY _ (nth zs k) wr hJs (by rw [List.length_take,Hlen.out];omega)
   rw [<- htk] at hR
   clear htk
   gi_wp2
   refine hR.mono ?_
   rintro e W3 (⟨rfl,hJ3,hk3⟩ | ⟨rfl,hJx3⟩)
   ·gi_wp2
    go_roundw
    case rel=>exact ⟨k+1,by omega,by simp,hJ3,hnx.trans hk3⟩
    case measure=>simp [intOf];omega
   ·gi_wp2
    refine bodyPost_ret (results_none rfl _ _ _) rfl ?_
    exact ⟨⟨_,rfl⟩,.inr ⟨_,⟨k+1,by omega,rfl⟩,hJx3⟩⟩
  ·obtain rfl : k=len:=by omega
   rw [List.take_of_length_le (by rw [Hlen.out];exact Nat.le_refl _)] at hJs
   gi_wp2
   go_end0
   exact ⟨⟨_,rfl⟩,.inl ⟨_,rfl,hJs⟩⟩
theorem iterVals_in (F : Fence) (n : Nat) (hF : F.fn 271) (hro : F.round=none) (a : Option Addr) (len cap : Nat) (w : World) :
  CallsIn F n Tryz.prog 271 #[.slice a len cap] w λe w'=>e = .returned (.func (.func 277) #[] #[.pointer (some ⟨w.heap.size,0,none⟩)])/\w'=w.alloc (.cells #[.slice a len cap] 22):=by
 refine callsIn_of_wp Tryz.func271 rfl hF ?_ hro
 simp only [Tryz.ntmps271,List.size_toArray,List.length_cons,List.length_nil,Nat.reduceAdd,Nat.reduceSub,Array.replicate_succ,Array.replicate_zero,List.push_toArray,List.append_toArray,List.nil_append,List.cons_append]
 gi_wp2
 go_ret
 exact ⟨rfl,rfl⟩
theorem iterVals_stops (F : Fence) (n : Nat) (hF : F.fn 277) (hro : F.round=none) (hn : 1<=n) (Bs n₀ : Nat) (a : Option Addr) (len cap : Nat) (zs : List Int) (hreach : len * 8<=140737488351232) (w : World) (hBs : Bs<w.heap.size) (hn₀ : n₀<=w.heap.size)
  (hc : w.cell? ⟨Bs,0,none⟩=some (.slice a len cap)) (hI : Ints w a len zs) (hb : 0<len->ablk a<n₀) :
  SeqStopsK F n Tryz.prog 277 #[.pointer (some ⟨Bs,0,none⟩)] (λx : Int=>#[Value.int .i64 x]) (Below n₀) (λys=>ys=zs) (λpre=>pre <+: zs) len w:=λl J Jx W hW _ _ hY h0=>by
 have hc':=(hW.cell (p:=⟨Bs,0,none⟩) hBs).trans hc
 refine (iterVals1_in F n hF hro hn l Bs n₀ a len cap zs hreach J Jx hY W hc' (hI.below (hW.mono hn₀) hb) hb h0).mono ?_
 rintro e W' ⟨he,⟨ys,rfl,hj⟩ | ⟨pre,⟨k,hk,rfl⟩,hj⟩⟩
 ·exact ⟨he,.inl ⟨_,rfl,hj⟩⟩
 ·exact ⟨he,.inr ⟨_,List.take_prefix _ _,hj⟩⟩
theorem appendSeq_in (F : Fence) (n : Nat) (hA : F.fn 280) (hV : F.fn 277) (hro : F.round=none) (hn : 3<=n) (Bs : Nat) (a : Option Addr) (len cap : Nat) (zs : List Int) (hlen : len<=1000000) (w : World) (hBs : Bs<w.heap.size)
  (hc : w.cell? ⟨Bs,0,none⟩=some (.slice a len cap)) (hI : Ints w a len zs) :
  CallsIn F n Tryz.prog 280 #[.slice none 0 0,.func (.func 277) #[] #[.pointer (some ⟨Bs,0,none⟩)]] w λe W' =>
   ∃v,e = .returned v/\W'.ownsRow w.heap.size 3 1 v len (zs.map (Value.int .i64))/\Below w.heap.size w W':=by
 have h1 : 1<=n:=by omega
 have Hlen:=Lib.hid hI.len
 obtain ⟨i0,hi,hz0,hz1,hz2⟩:=info_parts infoInt
 refine callsIn_of_wp_marks Tryz.func280 rfl hA ?_ hro
 simp only [Tryz.ntmps280,List.size_toArray,List.length_cons,List.length_nil,Nat.reduceAdd,Nat.reduceSub,Array.replicate_succ,Array.replicate_zero,List.push_toArray,List.append_toArray,List.nil_append,List.cons_append]
 gi_wp2
 have bO:=Boxed.new w 22 (.slice none 0 0)
 have hB0 : Below w.heap.size w (w.alloc (.cells #[.slice none 0 0] 22)):=(Below.refl _ w).alloc (Nat.le_refl _) _
 refine wpIn_rangeFunc_ownG hro h1 (gf:=277) (lb:=#[.pointer (some ⟨Bs,0,none⟩)]) rfl hV (enters_of Tryz.func277 (by kernel_rfl) rfl)
  (iterVals_stops F (n - 1) hV hro (by omega) Bs w.heap.size a len cap zs (by omega) w hBs (Nat.le_refl _) hc hI (λh=>hI.lt h)) belowK_t (belowK_b (by simp)) hB0 (λ_=>rfl)
  (λpre W=>(∃v,Boxed W w.heap.size 22 v/\W.ownsRow w.heap.size 3 1 v pre.length (pre.map (Value.int .i64))/\True)/\Below w.heap.size w W)
  (λ_ _ _=>False)
  (OwnFrom.and (Own.from (holdsRow_own w.heap.size w.heap.size 22 3 1 (λpre : List Int=>pre.length) (λpre=>pre.map (Value.int .i64)) (λ_ _=>True)) _) (ownFrom_below (Nat.le_refl _) (by simp)))
  (λ_ _ _ _ _ hs _ _=>hs)
  ⟨⟨_,bO,World.ownsRow_nil _ _ _ _,trivial⟩,hB0⟩
  (λx=>{ tmps:=#[.slice none 0 0,.func (.func 277) #[] #[.pointer (some ⟨Bs,0,none⟩)],.pointer (some ⟨w.heap.size,0,none⟩),undef,.slice none 0 0,.int .i64 x,.func (.func 277) #[] #[.pointer (some ⟨Bs,0,none⟩)],.int .i64 x,undef,undef,undef,undef,undef],defers:=[] }) ?assign ?body ?done ?stop
 case assign =>
  intro l x W K hK
  gi_wp2
  exact hK
 case body =>
  rintro l pre x W ⟨⟨v,hv,hrow,_⟩,hB⟩ hlt
  have hcv:=hv.cell
  gi_wp2_with (gi_at_builtin;refine wpListIn_append_own _ rfl _ _ 22 rfl w.heap.size 3 i0 (.int .i64 0) 1 8 Tryz.underlying22 hi hz0 hz1 hz2 rfl (by decide) _ _ _ rfl (hrow.alloc _) ⟨W.heap.size,0,none⟩ 1 1 [.int .i64 x] rfl rfl (cell_one_new _ _ _) (by simp [Value.oneCell']) (by unfold maxLen;omega) (by omega) (by have:=hB.size;simp;omega) ?_;intro v' w1 hown' hgrow _;obtain ⟨g',cap',rfl⟩:=ownsRow_succ hown';obtain ⟨hv1,hv2,hr2,hk2,hb2⟩:=hv.appended (by decide) hrow hB.size (Nat.le_refl _) hown' hgrow;have hc1:=hv1.cell;have hf1:=hv1.frozen)
  exact ⟨hk2.from _,hb2,⟨_,hv2,by simpa using hr2,trivial⟩,hB.trans hb2⟩
 case done =>
  rintro D ys W hD rfl ⟨⟨v,hv,hrow,_⟩,hB⟩ hK
  have hcv:=hv.cell
  gi_wp2
  refine ⟨by simp,.inl ⟨_,_,rfl,run_takeDeferred hK,?_⟩⟩
  exact ⟨_,results_tmp rfl _ _ _,v,rfl,by have:=ownsRow_putObj hrow (.deferred none) hK rfl;rw [Hlen.out] at this;exact this,hB.trans (belowK_b (w:=w) (Nat.le_refl _) W D _ _ (by simp at hD;omega) hK rfl rfl)⟩
 case stop =>
  rintro D c pre W _ _ h _
  exact h.elim
theorem collect_in (F : Fence) (n : Nat) (hC : F.fn 276) (hA : F.fn 280) (hV : F.fn 277) (hro : F.round=none) (hn : 4<=n) (Bs : Nat) (a : Option Addr) (len cap : Nat) (zs : List Int) (hlen : len<=1000000) (w : World) (hBs : Bs<w.heap.size)
  (hc : w.cell? ⟨Bs,0,none⟩=some (.slice a len cap)) (hI : Ints w a len zs) :
  CallsIn F n Tryz.prog 276 #[.func (.func 277) #[] #[.pointer (some ⟨Bs,0,none⟩)]] w λe W' =>
   ∃v,e = .returned v/\W'.ownsRow w.heap.size 3 1 v len (zs.map (Value.int .i64))/\Below w.heap.size w W':=by
 refine callsIn_of_wp Tryz.func276 rfl hC ?_ hro
 simp only [Tryz.ntmps276,List.size_toArray,List.length_cons,List.length_nil,Nat.reduceAdd,Nat.reduceSub,Array.replicate_succ,Array.replicate_zero,List.push_toArray,List.append_toArray,List.nil_append,List.cons_append]
 gi_wp2
 refine ⟨λ_=>by omega,?_⟩
 refine (appendSeq_in F (n - 1) hA hV hro (by omega) Bs a len cap zs hlen _ hBs hc hI).mono ?_
 rintro e W' ⟨v,rfl,hown,hb⟩
 gi_wp2
 go_ret
 exact ⟨v,rfl,hown,hb⟩
theorem values_any (a : Option Addr) (len cap : Nat) (w : World) :
  Calls Tryz.prog 271 #[.slice a len cap] w λe w'=>e = .returned (.func (.func 277) #[] #[.pointer (some ⟨w.heap.size,0,none⟩)])/\w'=w.alloc (.cells #[.slice a len cap] 22) :=
 callsIn_wide.1 (iterVals_in Fence.wide 8 trivial rfl a len cap w)
theorem collect_any (Bs : Nat) (a : Option Addr) (len cap : Nat) (zs : List Int) (hlen : len<=1000000) (w : World) (hBs : Bs<w.heap.size) (hc : w.cell? ⟨Bs,0,none⟩=some (.slice a len cap)) (hI : Ints w a len zs) :
  Calls Tryz.prog 276 #[.func (.func 277) #[] #[.pointer (some ⟨Bs,0,none⟩)]] w λe W' =>
   ∃v,e = .returned v/\W'.ownsRow w.heap.size 3 1 v len (zs.map (Value.int .i64))/\Below w.heap.size w W' :=
 callsIn_wide.1 (collect_in Fence.wide 8 trivial trivial trivial rfl (by omega) Bs a len cap zs hlen w hBs hc hI)
end

section
open Go.RowKit
def chN : Nat->Nat->Nat
 | _,0=>1
 | 0,_+1=>0
 | n+1,k+1=>chN n k+chN n (k+1)
theorem chN_sum (k : Nat) : ∀n,((List.range n).map λi=>chN i k).sum=chN n (k+1)
 | 0=>by simp [chN]
 | n+1=>by
  rw [List.range_succ,List.map_append,List.sum_append,chN_sum k n]
  simp [chN]
  omega
theorem chN_zero : ∀n k,n<k->chN n k=0
 | 0,k+1,_=>by rw [chN]
 | n+1,k+1,h=>by rw [chN,chN_zero n k (by omega),chN_zero n (k+1) (by omega)]
theorem chN_self : ∀n,chN n n=1
 | 0=>by rw [chN]
 | n+1=>by rw [chN,chN_self n,chN_zero n (n+1) (by omega)]
theorem chN_one (n : Nat) : chN n 0=1:=by cases n <;> rw [chN]
theorem chN_succ (n k : Nat) : chN (n+1) (k+1)=chN n k+chN n (k+1):=by rw [chN]
theorem chN_abs : ∀n k,(k+1) * chN (n+1) (k+1)=(n+1) * chN n k
 | 0,0=>by simp [chN]
 | 0,k+1=>by simp [chN]
 | n+1,0=>by
  have h:=chN_abs n 0
  rw [chN_one] at h
  rw [chN_succ (n+1) 0,chN_one]
  omega
 | n+1,k+1=>by
  have h1:=chN_abs n k
  have h2:=chN_abs n (k+1)
  rw [chN,Nat.mul_add,h2]
  have h3 : chN (n+1) (k+1)=chN n k+chN n (k+1):=by rw [chN]
  have e : (k+1+1) * chN (n+1) (k+1)=(k+1) * chN (n+1) (k+1)+chN (n+1) (k+1):=by rw [Nat.add_mul,Nat.one_mul]
  rw [e,h1]
  have e2 : (n+1+1) * chN (n+1) (k+1)=(n+1) * chN (n+1) (k+1)+chN (n+1) (k+1):=by rw [Nat.add_mul,Nat.one_mul]
  rw [e2]
  have e3 : (n+1) * chN (n+1) (k+1)=(n+1) * chN n k+(n+1) * chN n (k+1):=by rw [h3,Nat.mul_add]
  rw [e3]
  omega
theorem chN_pos : ∀n k,k<=n->1<=chN n k
 | n,0,_=>by rw [chN_one];exact Nat.le_refl _
 | n+1,k+1,h=>by rw [chN];have:=chN_pos n k (by omega);omega
theorem chN_mono {n k : Nat} : chN n k<=chN (n+1) (k+1):=by rw [chN];omega
theorem chN_symm : ∀n k,k<=n->chN n k=chN n (n - k)
 | 0,0,_=>rfl
 | n+1,0,_=>by rw [chN_one,Nat.sub_zero,chN_self]
 | n+1,k+1,h=>by
  rw [show n+1 - (k+1)=n - k by omega]
  by_cases e : k=n
  ·subst e;rw [chN_self,Nat.sub_self,chN_one]
  ·obtain ⟨d,hd⟩ : ∃d,n - k=d+1:=⟨n - k - 1,by omega⟩
   rw [hd,chN,chN,chN_symm n k (by omega),chN_symm n (k+1) (by omega),hd,show n - (k+1)=d by omega]
   omega
def choV (n k : Nat) : Int:=if chN n k<=65536 then chN n k else 0
def choE (n k : Nat) : Int:=if chN n k<=65536 then 0 else 8
theorem chN_step (n k i : Nat) : chN (n - k+i) i * (n - k+(i+1)) / (i+1)=chN (n - k+(i+1)) (i+1):=by
 have h:=chN_abs (n - k+i) i
 rw [<- Nat.add_assoc,Nat.mul_comm,<- h,Nat.mul_div_cancel_left _ (by omega)]
theorem chN_le_of {n k : Nat} (hk : k<=n) : ∀d i,i+d=k->chN (n - k+i) i<=chN n k
 | 0,i,h=>by
  obtain rfl : i=k:=by omega
  rw [show n - i+i=n by omega];exact Nat.le_refl _
 | d+1,i,h=>by
  refine Nat.le_trans ?_ (chN_le_of hk d (i+1) (by omega))
  rw [<- Nat.add_assoc]
  exact chN_mono
def prodTo (l : List Int) : Nat->Int
 | 0=>1
 | k+1=>prodTo l k * nth l k
def prdV (most : Int) (l : List Int) : Int:=if prodTo l l.length<=most then prodTo l l.length else 0
def prdE (most : Int) (l : List Int) : Int:=if prodTo l l.length<=most then 0 else 8
theorem prodTo_pos {l : List Int} (h : ∀x ∈ l,1<=x) : ∀k,k<=l.length->1<=prodTo l k
 | 0,_=>by simp [prodTo]
 | k+1,hk=>by
  have ih:=prodTo_pos h k (by omega)
  have hx:=h _ (nth_mem (show k<l.length by omega))
  rw [prodTo]
  have:=Int.mul_le_mul ih hx (by omega) (by omega)
  omega
theorem prodTo_mono {l : List Int} (h : ∀x ∈ l,1<=x) (i : Nat) : ∀d,i+d<=l.length->prodTo l i<=prodTo l (i+d)
 | 0,_=>Int.le_refl _
 | d+1,hd=>by
  have ih:=prodTo_mono h i d (by omega)
  have hp:=prodTo_pos h (i+d) (by omega)
  have hx:=h _ (nth_mem (show i+d<l.length by omega))
  rw [<- Nat.add_assoc,prodTo]
  have:=Int.mul_le_mul (Int.le_refl (prodTo l (i+d))) hx (by omega) (by omega)
  omega
theorem div_lt_iff {most x o : Int} (hx : 1<=x) (ho : 0<=o) (hm : 0<=most) : most.tdiv x<o ↔ most<o * x:=by
 rw [Int.tdiv_eq_ediv_of_nonneg hm]
 exact Int.ediv_lt_iff_lt_mul (by omega)
end

end Go.Proofs.YtcfmiocdlcapoaaGreat
