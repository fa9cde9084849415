import Derived.Test.YtcfmiocdlcapoaaGreatK1
import Derived.RangeFuncBox
import Derived.RangeFuncLeaves
import Derived.Shelf.Abstract
import Derived.WalkKit
import Derived.OwnWalkIn
import Derived.TacticsInMore
import Derived.LoopNIn
import Derived.LoopIn
import Derived.Maps.AppendAt
namespace Go.Proofs.YtcfmiocdlcapoaaGreat
set_option linter.unusedVariables false
set_option linter.unusedSimpArgs false
set_option linter.unusedSectionVars false
set_option maxRecDepth 100000
set_option maxHeartbeats 2000000
open Go.RowKit
section
def dV (P : Int) (M : Nat) (x : Int) : Nat->Int:=nth (digs x P M)
theorem qa (P : Int) (M : Nat) (x : Int) : Sh M (dV P M x):=λi hi=>jn (by rw [bl];exact hi)
theorem qC {P : Int} (hP : 0<P) : ∀(M : Nat) (x : Int),0<=x->x<P ^ M->valu P (digs x P M)=x
 | 0,x,h0,h1=>by simp at h1;simp [digs,valu];omega
 | M+1,x,h0,h1=>by
  rw [digs,valu,qC hP M (x / P) (Int.ediv_nonneg h0 (by omega)) (Int.ediv_lt_of_lt_mul hP (by rwa [Int.pow_succ] at h1))]
  exact Int.emod_add_mul_ediv x P
theorem qJ {P : Int} (c r : Int) (M : Nat) (hc0 : 0<=c) (hc1 : c<P) : digs (c+P * r) P (M+1)=c :: digs r P M:=by
 rw [digs,Int.add_mul_emod_self_left,Int.emod_eq_of_lt hc0 hc1,Int.add_mul_ediv_left _ _ (by omega),Int.ediv_eq_zero_of_lt hc0 hc1,Int.zero_add]
theorem nD {P : Int} : ∀(l : Lz),cR P l->digs (valu P l) P l.length=l
 | [],_=>rfl
 | c :: l,h=>by
  have h0:=h 0
  simp only [nth,List.getD_cons_zero] at h0
  rw [valu,List.length_cons,qJ c _ _ h0.1 h0.2,nD l (λi=>by simpa [nth] using h (i+1))]
theorem qW (P x : Int) : P ∣ x % P - x:=⟨-(x / P),by have:=Int.emod_add_mul_ediv x P;rw [Int.mul_neg];omega⟩
theorem CV {P a b : Int} (hP : 0<P) (ha : 0<=a) (ha1 : a<P) (hb : 0<=b) (hb1 : b<P) (h : P ∣ a - b) : a=b:=by
 obtain ⟨c,hc⟩:=h
 have hc0 : c=0:=by
  rcases Int.lt_trichotomy c 0 with h1 | h1 | h1
  ·have:=Int.mul_le_mul_of_nonneg_left (show c <= -1 by omega) (show 0<=P by omega)
   omega
  ·exact h1
  ·have:=Int.mul_le_mul_of_nonneg_left (show 1<=c by omega) (show 0<=P by omega)
   omega
 rw [hc0] at hc;omega
theorem I9 {P : Int} (hP : 0<P) {M : Nat} {x y : Int} (hx0 : 0<=x) (hx1 : x<P ^ M) (hy0 : 0<=y) (hy1 : y<P ^ M) (h : Cg P (dV P M x) (dV P M y)) : x=y:=by
 have e : digs x P M=digs y P M:=by
  refine et (by rw [bl,bl]) λi _=>?_
  have h1:=cR.digs hP M x i
  have h2:=cR.digs hP M y i
  exact CV hP h1.1 h1.2 h2.1 h2.2 (h i)
 rw [<- qC hP M x hx0 hx1,<- qC hP M y hy0 hy1,e]
theorem cG (c : Int) (l : Lz) : nth (c :: l) 0=c:=by simp [nth]
theorem cw (c : Int) (l : Lz) (i : Nat) : nth (c :: l) (i+1)=nth l i:=by simp [nth]
theorem ib {P : Int} (hP : 0<P) : ∀(M : Nat) (x y : Int),Cg P (dV P M (fsum P M x y)) (λi=>dV P M x i+dV P M y i)
 | 0,x,y=>λi=>by simp [dV,digs,nth]
 | M+1,x,y=>λi=>by
  simp only [dV,fsum]
  rw [qJ _ _ _ (Int.emod_nonneg _ (by omega)) (Int.emod_lt_of_pos _ hP),digs,digs]
  match i with
  | 0 =>
   rw [cG,cG,cG]
   have h1:=qW P (x+y)
   have h2:=qW P x
   have h3:=qW P y
   have h4:=Int.dvd_sub (Int.dvd_sub h1 h2) h3
   rwa [show (x+y) % P - (x+y) - (x % P - x) - (y % P - y)=(x+y) % P - (x % P+y % P) by omega] at h4
  | i+1 =>
   rw [cw,cw,cw]
   exact ib hP M (x / P) (y / P) i
theorem CI {P : Int} (hP : 0<P) : ∀(M : Nat) (x : Int),Cg P (dV P M (fneg P M x)) (λi=>- dV P M x i)
 | 0,x=>λi=>by simp [dV,digs,nth]
 | M+1,x=>λi=>by
  simp only [dV,fneg]
  rw [qJ _ _ _ (Int.emod_nonneg _ (by omega)) (Int.emod_lt_of_pos _ hP),digs]
  match i with
  | 0 =>
   rw [cG,cG]
   have h1:=qW P (P - x % P)
   have h4:=Int.dvd_add h1 (Int.dvd_refl P)
   rwa [show (P - x % P) % P - (P - x % P)+P=(P - x % P) % P - - (x % P) by omega] at h4
  | i+1 =>
   rw [cw,cw]
   exact CI hP M (x / P) i
theorem pj (P : Int) : ∀(M : Nat),dV P M 0=λ_=>0
 | 0=>by funext i;simp [dV,digs,nth]
 | M+1=>by
  funext i
  simp only [dV,digs]
  match i with
  | 0=>rw [cG];simp
  | i+1=>rw [cw];have:=congrFun (pj P M) i;simpa [dV] using this
theorem I7 {P : Int} (hP : 2<=P) {M : Nat} (hM : 0<M) : dV P M 1=eV 0:=by
 obtain ⟨m,rfl⟩ : ∃m,M=m+1:=⟨M - 1,by omega⟩
 funext i
 simp only [dV,digs]
 match i with
 | 0=>rw [cG];simp [eV];exact Int.emod_eq_of_lt (by omega) (by omega)
 | i+1 =>
  rw [cw,Int.ediv_eq_zero_of_lt (by omega) (by omega)]
  have:=congrFun (pj P m) i
  simpa [dV,eV] using this
theorem G0 {out : Lz} {M i : Nat} (hl : out.length=M) (hi : i<M) : nth (shl out) i=if i=0 then 0 else nth out (i - 1):=by
 match i with
 | 0=>simp [shl,nth]
 | i+1 =>
  rw [shl,cw,if_neg (by omega)]
  simp only [nth,List.getD_eq_getElem?_getD,List.getElem?_dropLast]
  rw [if_pos (by omega)];rfl
theorem wb {P : Int} (hP : 0<P) (low a b : Lz) {M : Nat} (ha : a.length=M) : ∀k,k<=M ->
  Cg P (nth (fB P low a b M k)) (λi=>sm k (λj=>nth b (M - k+j) * fV M (nth low) j (nth a) i))
 | 0,_=>λi=>by
  have e : nth (fB P low a b M 0) i=0:=by
   simp only [fB,nth,List.getD_eq_getElem?_getD,List.getElem?_replicate];split <;> rfl
  rw [e];simp [sm]
 | k+1,hk=>by
  have ih:=EE (M:=M) (low:=nth low) (wb hP low a b ha k (by omega))
  have e1 : (λi=>sm (k+1) (λj=>nth b (M - (k+1)+j) * fV M (nth low) j (nth a) i)) =
    λi=>uJ M (nth low) (λi=>sm k (λj=>nth b (M - k+j) * fV M (nth low) j (nth a) i)) i+nth b (M - 1 - k) * nth a i:=by
   funext i
   rw [EV,show M - (k+1)+0=M - 1 - k by omega]
   have e2:=congrFun (xL (M:=M) (low:=nth low) 1 k (λj i=>nth b (M - k+j) * fV M (nth low) j (nth a) i)) i
   have e3 : uJ M (nth low) (λi=>sm k (λj=>nth b (M - k+j) * fV M (nth low) j (nth a) i)) i=sm k (λj=>nth b (M - (k+1)+(j+1)) * fV M (nth low) (j+1) (nth a) i):=by
    refine Eq.trans e2 (cF λj _=>?_)
    rw [lL,show M - (k+1)+(j+1)=M - k+j by omega]
    rfl
   rw [e3]
   show nth b (M - 1 - k) * nth a i+_=_
   omega
  rw [e1]
  intro i
  show P ∣ nth (fB P low a b M (k+1)) i - (uJ M (nth low) (λi=>sm k (λj=>nth b (M - k+j) * fV M (nth low) j (nth a) i)) i+nth b (M - 1 - k) * nth a i)
  by_cases hi : i<M
  ·rw [fB,nJ _ _ _ _ _ _ _ hi,Cy,G0 (iU ..) hi]
   have h1:=ih i
   generalize hv : uJ M (nth low) (λi=>sm k (λj=>nth b (M - k+j) * fV M (nth low) j (nth a) i)) i=z at *
   simp only [uJ,if_pos hi] at h1
   generalize (if i=0 then (0 : Int) else nth (fB P low a b M k) (i - 1))=u at *
   generalize nth (fB P low a b M k) (M - 1)=t at *
   generalize nth b (M - 1 - k) * nth a i=c at *
   have h2:=qW P (u+(P - t) * nth low i+c)
   have h3 : P ∣ P * nth low i:=Int.dvd_mul_right _ _
   have h4:=Int.dvd_add (Int.dvd_add h2 h1) h3
   rw [Int.sub_mul] at h4 ⊢
   rwa [show (u+(P * nth low i - t * nth low i)+c) % P - (u+(P * nth low i - t * nth low i)+c)+(u - t * nth low i - z)+P * nth low i=(u+(P * nth low i - t * nth low i)+c) % P - (z+c) by omega] at h4
  ·rw [jn (by rw [iU];omega),jn (l:=a) (by omega)]
   have e2 : uJ M (nth low) (λi=>sm k (λj=>nth b (M - k+j) * fV M (nth low) j (nth a) i)) i=0:=F9 _ i (by omega)
   rw [e2];simp
theorem gG {P : Int} (hP : 0<P) (M : Nat) (mod : Lz) (x y : Int) : Cg P (dV P M (dz P M mod x y)) (gS M (nth (nX M mod)) (dV P M x) (dV P M y)):=by
 have h:=wb hP (nX M mod) (digs x P M) (digs y P M) (bl P M x) M (Nat.le_refl _)
 have e : dV P M (dz P M mod x y)=nth (fB P (nX M mod) (digs x P M) (digs y P M) M M):=by
  unfold dV dz
  have:=nD (P:=P) (fB P (nX M mod) (digs x P M) (digs y P M) M M) (cR.fB hP _ _ _ _ _)
  rw [iU] at this
  rw [this]
 rw [e,nF (qa P M x) (qa P M y)]
 refine h.trans (Cg.of_eq ?_)
 funext i
 simp only [gS]
 refine cF λj _=>?_
 rw [show M - M+j=j by omega]
 rfl
structure mx (P : Int) (M : Nat) : Prop where
 p : 2<=P
 m : 0<M
def ee (P : Int) (M : Nat) (x : Int) : Prop:=0<=x/\x<P ^ M
variable {P : Int} {M : Nat} {mod : Lz}
theorem ee.ext (h : mx P M) {x y : Int} (hx : ee P M x) (hy : ee P M y) (e : Cg P (dV P M x) (dV P M y)) : x=y:=I9 (by have:=h.p;omega) hx.1 hx.2 hy.1 hy.2 e
theorem gu (h : mx P M) (x y : Int) : ee P M (dz P M mod x y):=xN (by have:=h.p;omega) M mod x y
theorem gT (h : mx P M) (x y : Int) : ee P M (fsum P M x y):=xH (by have:=h.p;omega) M x y
theorem qg (h : mx P M) (x : Int) : ee P M (fneg P M x):=sq (by have:=h.p;omega) M x
theorem one_lt_pow (h : mx P M) : 1<P ^ M:=by
 have h1:=cW (P:=P) (by have:=h.p;omega) h.m
 have h2:=h.p
 have h3 : P ^ (0+1)=P:=by rw [Int.pow_succ,Int.pow_zero,Int.one_mul]
 have h4 : P ^ (0+1)<=P ^ M:=h1
 omega
theorem xk (h : mx P M) : ee P M 1:=⟨by omega,one_lt_pow h⟩
theorem wX (h : mx P M) : ee P M 0:=⟨by omega,by have:=one_lt_pow h;omega⟩
theorem mx.pos (h : mx P M) : 0<P:=by have:=h.p;omega
theorem jB (h : mx P M) (x y : Int) : dz P M mod x y=dz P M mod y x :=
 (gu h x y).ext h (gu h y x) (((gG h.pos M mod x y).trans (Cg.of_eq (nF (qa _ _ _) (qa _ _ _)))).trans (gG h.pos M mod y x).symm)
theorem tD (h : mx P M) (x y z : Int) : dz P M mod (dz P M mod x y) z=dz P M mod x (dz P M mod y z):=by
 refine (gu h _ z).ext h (gu h x _) ?_
 refine (gG h.pos M mod _ z).trans (((yi (gG h.pos M mod x y) (Cg.refl _ _)).trans (Cg.of_eq (B1 (qa _ _ _) (qa _ _ _) (qa _ _ _)))).trans ?_)
 exact ((gG h.pos M mod x _).trans (yi (Cg.refl _ _) (gG h.pos M mod y z))).symm
theorem iP (h : mx P M) {x : Int} (hx : ee P M x) : dz P M mod 1 x=x:=by
 refine (gu h 1 x).ext h hx ((gG h.pos M mod 1 x).trans (Cg.of_eq ?_))
 rw [I7 h.p h.m,ED h.m (qa _ _ _)]
theorem qR (h : mx P M) (x : Int) : dz P M mod x 0=0:=by
 refine (gu h x 0).ext h (wX h) ((gG h.pos M mod x 0).trans (Cg.of_eq ?_))
 rw [pj]
 funext i
 simp only [gS]
 rw [cF (g:=λ_=>0) λj _=>by rw [yu];simp,kn]
theorem Fz (h : mx P M) (x y z : Int) : dz P M mod x (fsum P M y z)=fsum P M (dz P M mod x y) (dz P M mod x z):=by
 refine (gu h x _).ext h (gT h _ _) ((gG h.pos M mod x _).trans ?_)
 refine (yi (Cg.refl _ _) (ib h.pos M y z)).trans ((Cg.of_eq (uS _ _ _)).trans ?_)
 exact ((ib h.pos M _ _).trans (Cg.add (gG h.pos M mod x y) (gG h.pos M mod x z))).symm
theorem C9 (h : mx P M) (x y : Int) : fsum P M x y=fsum P M y x:=by
 refine (gT h x y).ext h (gT h y x) ((ib h.pos M x y).trans ((Cg.of_eq ?_).trans (ib h.pos M y x).symm))
 funext i;show _=_;omega
theorem Bt (h : mx P M) (x y z : Int) : fsum P M (fsum P M x y) z=fsum P M x (fsum P M y z):=by
 refine (gT h _ z).ext h (gT h x _) ?_
 refine (ib h.pos M _ z).trans ((Cg.add (ib h.pos M x y) (Cg.refl _ _)).trans ((Cg.of_eq ?_).trans ((ib h.pos M x _).trans (Cg.add (Cg.refl _ _) (ib h.pos M y z))).symm))
 funext i;show _=_;omega
theorem GN (h : mx P M) {x : Int} (hx : ee P M x) : fsum P M x 0=x:=by
 refine (gT h x 0).ext h hx ((ib h.pos M x 0).trans (Cg.of_eq ?_))
 rw [pj];funext i;simp
theorem D6 (h : mx P M) (x : Int) : fsum P M x (fneg P M x)=0:=by
 refine (gT h x _).ext h (wX h) ((ib h.pos M x _).trans ((Cg.add (Cg.refl _ _) (CI h.pos M x)).trans (Cg.of_eq ?_)))
 rw [pj];funext i;show _=_;omega
end
section
structure C6 (cl : LN->Nat->Prop) : Prop where
 mem : ∀l x,x ∈ l->cl l x
 mono : ∀l l',(∀x ∈ l,cl l' x)->∀y,cl l y->cl l' y
 exch : ∀l x y,cl (x :: l) y->¬ cl l y->cl (y :: l) x
inductive Rk (cl : LN->Nat->Prop) : LN->Nat->Prop
 | nil : Rk cl [] 0
 | dep {l n} (x : Nat) : cl l x->Rk cl l n->Rk cl (x :: l) n
 | ind {l n} (x : Nat) : ¬ cl l x->Rk cl l n->Rk cl (x :: l) (n+1)
variable {cl : LN->Nat->Prop}
theorem Rk.ex (cl : LN->Nat->Prop) : ∀l,∃n,Rk cl l n
 | []=>⟨0,.nil⟩
 | x :: l=>by
  obtain ⟨n,h⟩:=Rk.ex cl l
  by_cases hx : cl l x
  ·exact ⟨n,.dep x hx h⟩
  ·exact ⟨n+1,.ind x hx h⟩
theorem Rk.uniq {l : LN} {n : Nat} (h : Rk cl l n) : ∀ {m},Rk cl l m->n=m:=by
 induction h with
 | nil=>intro m h;cases h;rfl
 | dep x hx _ ih =>
  intro m h
  cases h with
  | dep _ _ h=>exact ih h
  | ind _ hn _=>exact absurd hx hn
 | ind x hx _ ih =>
  intro m h
  cases h with
  | dep _ hn _=>exact absurd hn hx
  | ind _ _ h=>rw [ih h]
theorem C6.sub (h : C6 cl) {l l' : LN} (hs : ∀x ∈ l,x ∈ l') {y : Nat} (hy : cl l y) : cl l' y:=h.mono l l' (λx hx=>h.mem l' x (hs x hx)) y hy
theorem C6.drop (h : C6 cl) {l : LN} {x y : Nat} (hx : cl l x) (hy : cl (x :: l) y) : cl l y :=
 h.mono (x :: l) l (λz hz=>by
  rcases List.mem_cons.1 hz with rfl | hz
  ·exact hx
  ·exact h.mem l z hz) y hy
theorem Rk.swap (h : C6 cl) {l : LN} {x y n : Nat} (hr : Rk cl (x :: y :: l) n) : Rk cl (y :: x :: l) n:=by
 have up : ∀ {z u},cl l z->cl (u :: l) z:=λhz=>h.sub (λx hx=>by simp [hx]) hz
 cases hr with
 | dep _ hx hr =>
  cases hr with
  | dep _ hy hr=>exact .dep y (up hy) (.dep x (h.drop hy hx) hr)
  | ind _ hy hr =>
   by_cases hxl : cl l x
   ·exact .ind y (λhc=>hy (h.drop hxl hc)) (.dep x hxl hr)
   ·exact .dep y (h.exch l y x hx hxl) (.ind x hxl hr)
 | ind _ hx hr =>
  cases hr with
  | dep _ hy hr=>exact .dep y (up hy) (.ind x (λhc=>hx (up hc)) hr)
  | ind _ hy hr =>
   have hxl : ¬ cl l x:=λhc=>hx (up hc)
   exact .ind y (λhc=>hx (h.exch l x y hc hy)) (.ind x hxl hr)
theorem C6.perm (h : C6 cl) {l l' : LN} (hp : l.Perm l') {x : Nat} : cl l x->cl l' x:=h.sub λy hy=>hp.mem_iff.1 hy
theorem Rk.perm (h : C6 cl) {l l' : LN} (hp : l.Perm l') : ∀ {n},Rk cl l n->Rk cl l' n:=by
 induction hp with
 | nil=>intro n hr;exact hr
 | cons x hp ih =>
  intro n hr
  cases hr with
  | dep _ hx hr=>exact .dep x (h.perm hp hx) (ih hr)
  | ind _ hx hr=>exact .ind x (λhc=>hx (h.perm hp.symm hc)) (ih hr)
 | swap x y l=>intro n hr;exact hr.swap h
 | trans _ _ ih1 ih2=>intro n hr;exact ih2 (ih1 hr)
theorem Rk.BV (h : C6 cl) {l : LN} {n : Nat} (hr : Rk cl l n) : ∀l',(∀x ∈ l',cl l x)->Rk cl (l' ++ l) n
 | [],_=>hr
 | x :: l',hx=>.dep x (h.sub (λy hy=>List.mem_append.2 (.inr hy)) (hx x (by simp))) (Rk.BV h hr l' λy hy=>hx y (by simp [hy]))
theorem Rk.grow {l : LN} {m : Nat} (hr : Rk cl l m) : ∀(l' : LN) {n : Nat},Rk cl (l' ++ l) n->m<=n
 | [],n,hn=>by rw [hr.uniq hn];exact Nat.le_refl _
 | x :: l',n,hn=>by
  cases hn with
  | dep _ _ hn=>exact Rk.grow hr l' hn
  | ind _ _ hn=>exact Nat.le_succ_of_le (Rk.grow hr l' hn)
theorem Rk.le (h : C6 cl) {l l' : LN} {m n : Nat} (hm : Rk cl l m) (hn : Rk cl l' n) (hs : ∀x ∈ l,cl l' x) : m<=n :=
 hm.grow l' ((hn.BV h l hs).perm h List.perm_append_comm)
theorem Rk.same (h : C6 cl) {l l' : LN} {m n : Nat} (hm : Rk cl l m) (hn : Rk cl l' n) (hs : ∀x,x ∈ l ↔ x ∈ l') : m=n :=
 Nat.le_antisymm (hm.le h hn λx hx=>h.mem _ _ ((hs x).1 hx)) (hn.le h hm λx hx=>h.mem _ _ ((hs x).2 hx))
end
section
open Go.RowKit Go.Shelf
attribute [local go_sem] Oper.semAt_some
theorem tf (l : Lz) {k : Nat} (h : k<l.length) : l.take (k+1)=l.take k ++ [nth l k]:=by
 rw [List.take_succ_eq_append_getElem h,ai h]
theorem wI (F : Fence) (n : Nat) (hF : F.fn 277) (hro : F.round=none) (hn : 1<=n) (l Bs n₀ : Nat) (a : OA) (len cap : Nat) (zs : Lz) (hreach : len * 8<=140737488351232) (J Jx : Lz->World->Prop)
  (hY : ∀pre x W,J pre W->pre.length<len->YieldAt F (n - 1) Tryz.prog l #[.int .i64 x] W λe W' =>
   (e = .returned (.bool true)/\J (pre ++ [x]) W'/\Below n₀ W W')\/(e = .returned (.bool false)/\Jx (pre ++ [x]) W'))
  (W : World) (hBs : W.cell? ⟨Bs,0,none⟩=some (.slice a len cap)) (hc : Ints W a len zs) (hb : 0<len->ablk a<n₀) (h0 : J [] W) :
  CallsIn F n Tryz.prog 277 #[.func (.yield l) #[] #[],.pointer (some ⟨Bs,0,none⟩)] W λe W'=>(∃v,e = .returned v) /\
   ((∃ys,ys=zs/\J ys W')\/(∃pre,(∃k,k<=len/\pre=zs.take k)/\Jx pre W')):=by
 have hpl:=hc.pl
 have Hlen:=Z5 hc.len
 refine callsIn_of_wp Tryz.func277 rfl hF ?_ hro
 simp only [Tryz.ntmps277,List.size_toArray,List.length_cons,List.length_nil,Nat.reduceAdd,Nat.reduceSub,Array.replicate_succ,Array.replicate_zero,List.push_toArray,List.append_toArray,List.nil_append,List.cons_append]
 gi_wp2
 gi_loopw [7] (λi wr=>∃k : Nat,k<=len/\i = .int .i64 k/\J (zs.take k) wr/\Below n₀ W wr)
  (λi _=>len - (intOf i).toNat)
 case atStart=>exact ⟨0,Nat.zero_le _,rfl,h0,Below.refl _ _⟩
 case round =>
  obtain ⟨k,hk,rfl,hJs,hnx⟩:=hrel
  by_cases hlt : k<len
  ·have hcx:=(hc.below hnx hb).cell k hlt
   have htk:=tf zs (k:=k) (by rw [Hlen.out];exact hlt)
   have Htk:=Z5 htk
   obtain ⟨fn,tmps,assign,body,hy,hR⟩:=hY _ (nth zs k) wr hJs (by rw [List.length_take,Hlen.out];omega)
   rw [<- htk] at hR
   clear htk
   gi_wp2
   refine hR.mono ?_
   rintro e W3 (⟨rfl,hJ3,hk3⟩ | ⟨rfl,hJx3⟩)
   ·gi_wp2
    go_roundw
    case rel=>exact ⟨k+1,by omega,by simp,hJ3,hnx.trans hk3⟩
    case measure=>simp [intOf];omega
   ·gi_wp2
    refine bodyPost_ret (results_none rfl _ _ _) rfl ?_
    exact ⟨⟨_,rfl⟩,.inr ⟨_,⟨k+1,by omega,rfl⟩,hJx3⟩⟩
  ·obtain rfl : k=len:=by omega
   rw [List.take_of_length_le (by rw [Hlen.out];exact Nat.le_refl _)] at hJs
   gi_wp2
   go_end0
   exact ⟨⟨_,rfl⟩,.inl ⟨_,rfl,hJs⟩⟩
theorem y5 (F : Fence) (n : Nat) (hF : F.fn 271) (hro : F.round=none) (a : OA) (len cap : Nat) (w : World) :
  CallsIn F n Tryz.prog 271 #[.slice a len cap] w λe w'=>e = .returned (.func (.func 277) #[] #[.pointer (some ⟨w.heap.size,0,none⟩)])/\w'=w.alloc (.cells #[.slice a len cap] 22):=by
 refine callsIn_of_wp Tryz.func271 rfl hF ?_ hro
 simp only [Tryz.ntmps271,List.size_toArray,List.length_cons,List.length_nil,Nat.reduceAdd,Nat.reduceSub,Array.replicate_succ,Array.replicate_zero,List.push_toArray,List.append_toArray,List.nil_append,List.cons_append]
 gi_wp2
 go_ret
 exact ⟨rfl,rfl⟩
theorem ue (F : Fence) (n : Nat) (hF : F.fn 277) (hro : F.round=none) (hn : 1<=n) (Bs n₀ : Nat) (a : OA) (len cap : Nat) (zs : Lz) (hreach : len * 8<=140737488351232) (w : World) (hBs : Bs<w.heap.size) (hn₀ : n₀<=w.heap.size)
  (hc : w.cell? ⟨Bs,0,none⟩=some (.slice a len cap)) (hI : Ints w a len zs) (hb : 0<len->ablk a<n₀) :
  SeqStopsK F n Tryz.prog 277 #[.pointer (some ⟨Bs,0,none⟩)] (λx : Int=>#[Value.int .i64 x]) (Below n₀) (λys=>ys=zs) (λpre=>pre <+: zs) len w:=λl J Jx W hW _ _ hY h0=>by
 have hc':=(hW.cell (p:=⟨Bs,0,none⟩) hBs).trans hc
 refine (wI F n hF hro hn l Bs n₀ a len cap zs hreach J Jx hY W hc' (hI.below (hW.mono hn₀) hb) hb h0).mono ?_
 rintro e W' ⟨he,⟨ys,rfl,hj⟩ | ⟨pre,⟨k,hk,rfl⟩,hj⟩⟩
 ·exact ⟨he,.inl ⟨_,rfl,hj⟩⟩
 ·exact ⟨he,.inr ⟨_,List.take_prefix _ _,hj⟩⟩
theorem xZ (F : Fence) (n : Nat) (hA : F.fn 280) (hV : F.fn 277) (hro : F.round=none) (hn : 3<=n) (Bs : Nat) (a : OA) (len cap : Nat) (zs : Lz) (hlen : len<=1000000) (w : World) (hBs : Bs<w.heap.size)
  (hc : w.cell? ⟨Bs,0,none⟩=some (.slice a len cap)) (hI : Ints w a len zs) :
  CallsIn F n Tryz.prog 280 #[.slice none 0 0,.func (.func 277) #[] #[.pointer (some ⟨Bs,0,none⟩)]] w λe W' =>
   ∃v,e = .returned v/\W'.ownsRow w.heap.size 3 1 v len (zs.map (Value.int .i64))/\Below w.heap.size w W':=by
 have h1 : 1<=n:=by omega
 have Hlen:=Z5 hI.len
 obtain ⟨i0,hi,hz0,hz1,hz2⟩:=info_parts aX
 refine callsIn_of_wp_marks Tryz.func280 rfl hA ?_ hro
 simp only [Tryz.ntmps280,List.size_toArray,List.length_cons,List.length_nil,Nat.reduceAdd,Nat.reduceSub,Array.replicate_succ,Array.replicate_zero,List.push_toArray,List.append_toArray,List.nil_append,List.cons_append]
 gi_wp2
 have bO:=Boxed.new w 22 (.slice none 0 0)
 have hB0 : Below w.heap.size w (w.alloc (.cells #[.slice none 0 0] 22)):=(Below.refl _ w).alloc (Nat.le_refl _) _
 refine wpIn_rangeFunc_ownG hro h1 (gf:=277) (lb:=#[.pointer (some ⟨Bs,0,none⟩)]) rfl hV (enters_of Tryz.func277 (by kernel_rfl) rfl)
  (ue F (n - 1) hV hro (by omega) Bs w.heap.size a len cap zs (by omega) w hBs (Nat.le_refl _) hc hI (λh=>hI.lt h)) belowK_t (belowK_b (by simp)) hB0 (λ_=>rfl)
  (λpre W=>(∃v,Boxed W w.heap.size 22 v/\W.ownsRow w.heap.size 3 1 v pre.length (pre.map (Value.int .i64))/\True)/\Below w.heap.size w W)
  (λ_ _ _=>False)
  (OwnFrom.and (Own.from (holdsRow_own w.heap.size w.heap.size 22 3 1 (λpre : Lz=>pre.length) (λpre=>pre.map (Value.int .i64)) (λ_ _=>True)) _) (ownFrom_below (Nat.le_refl _) (by simp)))
  (λ_ _ _ _ _ hs _ _=>hs)
  ⟨⟨_,bO,World.ownsRow_nil _ _ _ _,trivial⟩,hB0⟩
  (λx=>{ tmps:=#[.slice none 0 0,.func (.func 277) #[] #[.pointer (some ⟨Bs,0,none⟩)],.pointer (some ⟨w.heap.size,0,none⟩),undef,.slice none 0 0,.int .i64 x,.func (.func 277) #[] #[.pointer (some ⟨Bs,0,none⟩)],.int .i64 x,undef,undef,undef,undef,undef],defers:=[] }) ?assign ?body ?done ?stop
 case assign =>
  intro l x W K hK
  gi_wp2
  exact hK
 case body =>
  rintro l pre x W ⟨⟨v,hv,hrow,_⟩,hB⟩ hlt
  have hcv:=hv.cell
  gi_wp2_with (gi_at_builtin;refine wpListIn_append_own _ rfl _ _ 22 rfl w.heap.size 3 i0 (.int .i64 0) 1 8 Tryz.underlying22 hi hz0 hz1 hz2 rfl (by decide) _ _ _ rfl (hrow.alloc _) ⟨W.heap.size,0,none⟩ 1 1 [.int .i64 x] rfl rfl (cell_one_new _ _ _) (by simp [Value.oneCell']) (by unfold maxLen;omega) (by omega) (by have:=hB.size;simp;omega) ?_;intro v' w1 hown' hgrow _;obtain ⟨g',cap',rfl⟩:=ownsRow_succ hown';obtain ⟨hv1,hv2,hr2,hk2,hb2⟩:=hv.appended (by decide) hrow hB.size (Nat.le_refl _) hown' hgrow;have hc1:=hv1.cell;have hf1:=hv1.frozen)
  exact ⟨hk2.from _,hb2,⟨_,hv2,by simpa using hr2,trivial⟩,hB.trans hb2⟩
 case done =>
  rintro D ys W hD rfl ⟨⟨v,hv,hrow,_⟩,hB⟩ hK
  have hcv:=hv.cell
  gi_wp2
  refine ⟨by simp,.inl ⟨_,_,rfl,run_takeDeferred hK,?_⟩⟩
  exact ⟨_,results_tmp rfl _ _ _,v,rfl,by have:=ownsRow_putObj hrow (.deferred none) hK rfl;rw [Hlen.out] at this;exact this,hB.trans (belowK_b (w:=w) (Nat.le_refl _) W D _ _ (by simp at hD;omega) hK rfl rfl)⟩
 case stop =>
  rintro D c pre W _ _ h _
  exact h.elim
theorem AX (F : Fence) (n : Nat) (hC : F.fn 276) (hA : F.fn 280) (hV : F.fn 277) (hro : F.round=none) (hn : 4<=n) (Bs : Nat) (a : OA) (len cap : Nat) (zs : Lz) (hlen : len<=1000000) (w : World) (hBs : Bs<w.heap.size)
  (hc : w.cell? ⟨Bs,0,none⟩=some (.slice a len cap)) (hI : Ints w a len zs) :
  CallsIn F n Tryz.prog 276 #[.func (.func 277) #[] #[.pointer (some ⟨Bs,0,none⟩)]] w λe W' =>
   ∃v,e = .returned v/\W'.ownsRow w.heap.size 3 1 v len (zs.map (Value.int .i64))/\Below w.heap.size w W':=by
 refine callsIn_of_wp Tryz.func276 rfl hC ?_ hro
 simp only [Tryz.ntmps276,List.size_toArray,List.length_cons,List.length_nil,Nat.reduceAdd,Nat.reduceSub,Array.replicate_succ,Array.replicate_zero,List.push_toArray,List.append_toArray,List.nil_append,List.cons_append]
 gi_wp2
 refine ⟨λ_=>by omega,?_⟩
 refine (xZ F (n - 1) hA hV hro (by omega) Bs a len cap zs hlen _ hBs hc hI).mono ?_
 rintro e W' ⟨v,rfl,hown,hb⟩
 gi_wp2
 go_ret
 exact ⟨v,rfl,hown,hb⟩
theorem Bd (a : OA) (len cap : Nat) (w : World) :
  Calls Tryz.prog 271 #[.slice a len cap] w λe w'=>e = .returned (.func (.func 277) #[] #[.pointer (some ⟨w.heap.size,0,none⟩)])/\w'=w.alloc (.cells #[.slice a len cap] 22) :=
 callsIn_wide.1 (y5 Fence.wide 8 trivial rfl a len cap w)
theorem y8 (Bs : Nat) (a : OA) (len cap : Nat) (zs : Lz) (hlen : len<=1000000) (w : World) (hBs : Bs<w.heap.size) (hc : w.cell? ⟨Bs,0,none⟩=some (.slice a len cap)) (hI : Ints w a len zs) :
  Calls Tryz.prog 276 #[.func (.func 277) #[] #[.pointer (some ⟨Bs,0,none⟩)]] w λe W' =>
   ∃v,e = .returned v/\W'.ownsRow w.heap.size 3 1 v len (zs.map (Value.int .i64))/\Below w.heap.size w W' :=
 callsIn_wide.1 (AX Fence.wide 8 trivial trivial trivial rfl (by omega) Bs a len cap zs hlen w hBs hc hI)
end
def chN : Nat->Nat->Nat
 | _,0=>1
 | 0,_+1=>0
 | n+1,k+1=>chN n k+chN n (k+1)
theorem wG (k : Nat) : ∀n,((List.range n).map λi=>chN i k).sum=chN n (k+1)
 | 0=>by simp [chN]
 | n+1=>by
  rw [List.range_succ,List.map_append,List.sum_append,wG k n]
  simp [chN]
  omega
theorem p6 : ∀n k,n<k->chN n k=0
 | 0,k+1,_=>by rw [chN]
 | n+1,k+1,h=>by rw [chN,p6 n k (by omega),p6 n (k+1) (by omega)]
theorem sY : ∀n,chN n n=1
 | 0=>by rw [chN]
 | n+1=>by rw [chN,sY n,p6 n (n+1) (by omega)]
theorem ie (n : Nat) : chN n 0=1:=by cases n <;> rw [chN]
theorem Ag (n k : Nat) : chN (n+1) (k+1)=chN n k+chN n (k+1):=by rw [chN]
theorem oX : ∀n k,(k+1) * chN (n+1) (k+1)=(n+1) * chN n k
 | 0,0=>by simp [chN]
 | 0,k+1=>by simp [chN]
 | n+1,0=>by
  have h:=oX n 0
  rw [ie] at h
  rw [Ag (n+1) 0,ie]
  omega
 | n+1,k+1=>by
  have h1:=oX n k
  have h2:=oX n (k+1)
  rw [chN,Nat.mul_add,h2]
  have h3 : chN (n+1) (k+1)=chN n k+chN n (k+1):=by rw [chN]
  have e : (k+1+1) * chN (n+1) (k+1)=(k+1) * chN (n+1) (k+1)+chN (n+1) (k+1):=by rw [Nat.add_mul,Nat.one_mul]
  rw [e,h1]
  have e2 : (n+1+1) * chN (n+1) (k+1)=(n+1) * chN (n+1) (k+1)+chN (n+1) (k+1):=by rw [Nat.add_mul,Nat.one_mul]
  rw [e2]
  have e3 : (n+1) * chN (n+1) (k+1)=(n+1) * chN n k+(n+1) * chN n (k+1):=by rw [h3,Nat.mul_add]
  rw [e3]
  omega
theorem kp : ∀n k,k<=n->1<=chN n k
 | n,0,_=>by rw [ie];exact Nat.le_refl _
 | n+1,k+1,h=>by rw [chN];have:=kp n k (by omega);omega
theorem EG {n k : Nat} : chN n k<=chN (n+1) (k+1):=by rw [chN];omega
theorem o0 : ∀n k,k<=n->chN n k=chN n (n - k)
 | 0,0,_=>rfl
 | n+1,0,_=>by rw [ie,Nat.sub_zero,sY]
 | n+1,k+1,h=>by
  rw [show n+1 - (k+1)=n - k by omega]
  by_cases e : k=n
  ·subst e;rw [sY,Nat.sub_self,ie]
  ·obtain ⟨d,hd⟩ : ∃d,n - k=d+1:=⟨n - k - 1,by omega⟩
   rw [hd,chN,chN,o0 n k (by omega),o0 n (k+1) (by omega),hd,show n - (k+1)=d by omega]
   omega
def sf (n k : Nat) : Int:=if chN n k<=65536 then chN n k else 0
def rT (n k : Nat) : Int:=if chN n k<=65536 then 0 else 8
theorem Fh (n k i : Nat) : chN (n - k+i) i * (n - k+(i+1)) / (i+1)=chN (n - k+(i+1)) (i+1):=by
 have h:=oX (n - k+i) i
 rw [<- Nat.add_assoc,Nat.mul_comm,<- h,Nat.mul_div_cancel_left _ (by omega)]
theorem qE {n k : Nat} (hk : k<=n) : ∀d i,i+d=k->chN (n - k+i) i<=chN n k
 | 0,i,h=>by
  obtain rfl : i=k:=by omega
  rw [show n - i+i=n by omega];exact Nat.le_refl _
 | d+1,i,h=>by
  refine Nat.le_trans ?_ (qE hk d (i+1) (by omega))
  rw [<- Nat.add_assoc]
  exact EG
def prodTo (l : Lz) : Nat->Int
 | 0=>1
 | k+1=>prodTo l k * nth l k
def rW (most : Int) (l : Lz) : Int:=if prodTo l l.length<=most then prodTo l l.length else 0
def qV (most : Int) (l : Lz) : Int:=if prodTo l l.length<=most then 0 else 8
theorem ux {l : Lz} (h : ∀x ∈ l,1<=x) : ∀k,k<=l.length->1<=prodTo l k
 | 0,_=>by simp [prodTo]
 | k+1,hk=>by
  have ih:=ux h k (by omega)
  have hx:=h _ (aN (show k<l.length by omega))
  rw [prodTo]
  have:=Int.mul_le_mul ih hx (by omega) (by omega)
  omega
theorem mG {l : Lz} (h : ∀x ∈ l,1<=x) (i : Nat) : ∀d,i+d<=l.length->prodTo l i<=prodTo l (i+d)
 | 0,_=>Int.le_refl _
 | d+1,hd=>by
  have ih:=mG h i d (by omega)
  have hp:=ux h (i+d) (by omega)
  have hx:=h _ (aN (show i+d<l.length by omega))
  rw [<- Nat.add_assoc,prodTo]
  have:=Int.mul_le_mul (Int.le_refl (prodTo l (i+d))) hx (by omega) (by omega)
  omega
theorem div_lt_iff {most x o : Int} (hx : 1<=x) (ho : 0<=o) (hm : 0<=most) : most.tdiv x<o ↔ most<o * x:=by
 rw [Int.tdiv_eq_ediv_of_nonneg hm]
 exact Int.ediv_lt_iff_lt_mul (by omega)
end Go.Proofs.YtcfmiocdlcapoaaGreat
