import Derived.Test.YtjfiflldinnhmaaGreatHSO14
import Derived.Test.YtjfiflldinnhmaaGreatHSO15
namespace Go.Proofs.YtjfiflldinnhmaaGreat
set_option linter.all false
set_option maxRecDepth 100000
set_option maxHeartbeats 4000000
open Go.RowKit Go.Proofs.Tryz
section
variable {P : Int} {M : Nat} {mod : LI} {q : Nat} {x : Int}
theorem vs (h : ju P M) (hx : ef P M x) : pw P M mod x 1=x:=by show cF P M mod (pw P M mod x 0) x=x;rw [pw,fQ h hx]
theorem CU (h : ju P M) (hx : ef P M x) : pw P M mod x 2=cF P M mod x x:=by show cF P M mod (pw P M mod x 1) x=_;rw [vs h hx]
theorem CH (h : ju P M) (hx : ef P M x) : ∀k,pw P M mod (cF P M mod x x) k=pw P M mod x (2 * k)
 | 0=>rfl
 | k+1=>by rw [pw,CH h hx k,<- CU h hx,gn h];rfl
theorem vr (h : ju P M) : ∀(f n : Nat) (x : Int),ef P M x->n<2 ^ f->DA (cF P M mod) f x n=pw P M mod x n
 | 0,n,x,hx,hn=>by
  have : n=0:=by simpa using hn
  subst this;rfl
 | f+1,n,x,hx,hn=>by
  have ih:=vr h f (n / 2) (cF P M mod x x) (eF h x x) (by rw [Gy] at hn;omega);unfold DA;split
  ·rename_i h0;subst h0;rfl
  ·rw [ih,CH h hx];split
   ·rename_i h1;have e : n=2 * (n / 2)+1:=by omega
    have e2 : pw P M mod x n=pw P M mod x (2 * (n / 2)+1):=congrArg _ e;rw [e2];rfl
   ·rename_i h1;have e : n=2 * (n / 2):=by omega
    exact (congrArg _ e).symm
structure Ord (P : Int) (M : Nat) (mod : LI) (q : Nat) (x : Int) : Prop where
 one : pw P M mod x (q - 1)=1
 ne : ∀k,0<k->k<q - 1->pw P M mod x k ≠ 1
theorem xh (h : ju P M) {a : Nat} (h1 : pw P M mod x a=1) : ∀n,pw P M mod x (a * n)=1
 | 0=>rfl
 | n+1=>by rw [Nat.mul_succ,<- gn h,xh h h1 n,h1,fQ h (sy h)]
theorem Cr (h : ju P M) {a b : Nat} (ha : pw P M mod x a=1) (hb : pw P M mod x b=1) : pw P M mod x (a % b)=1:=by have e : a=b * (a / b)+a % b:=(Nat.div_add_mod a b).symm;rw [e,<- gn h,xh h hb,fQ h (qe h x _)] at ha;exact ha
theorem C7 (h : ju P M) : ∀(b a : Nat),pw P M mod x a=1->pw P M mod x b=1->pw P M mod x (Nat.gcd b a)=1:=by
 intro b;induction b using Nat.strongRecOn with
 | ind b ih =>
  intro a ha hb
  by_cases h0 : b=0
  ·subst h0;rw [Nat.gcd_zero_left];exact ha
  ·rw [Nat.gcd_rec]
   exact ih (a % b) (H6 _ (by omega)) b hb (Cr h ha hb)
theorem Ord.of (h : ju P M) (hx : ef P M x) (hq : q<=256) (ho : tE (cF P M mod) q x=true) : Ord P M mod q x:=by
 unfold tE at ho;rw [EW] at ho;obtain ⟨h1,h2⟩:=ho;have h1':=eq_of_beq h1;rw [vr h 8 _ x hx (by omega)] at h1';refine ⟨h1',λk hk0 hk1 hk=>?_⟩;have hg:=C7 h k (q - 1) h1' hk;have hgd : Nat.gcd k (q - 1) ∣ q - 1:=Nat.gcd_dvd_right _ _;have hgl : Nat.gcd k (q - 1)<=k:=Nat.gcd_le_left _ hk0;have hg0 : 0<Nat.gcd k (q - 1):=Nat.gcd_pos_of_pos_left _ hk0;have h3:=List.all_eq_true.1 h2 (Nat.gcd k (q - 1)) (List.mem_range.2 (by omega));have h4 : (q - 1) % Nat.gcd k (q - 1)=0:=Nat.mod_eq_zero_of_dvd hgd;simp only [GP,beq_iff_eq,bne_iff_ne,ne_eq] at h3;rcases h3 with (h3 | h3) | h3
 ·omega
 ·exact h3 h4
 ·rw [vr h 8 _ x hx (by omega)] at h3;exact h3 hg
theorem Ord.nz (h : ju P M) (o : Ord P M mod q x) {k : Nat} (hk : k<q - 1) : pw P M mod x k ≠ 0:=by intro h0;have h1:=gn (mod:=mod) h x k (q - 1 - k);rw [h0,gK h,mh h,show k+(q - 1 - k)=q - 1 by omega,o.one] at h1;omega
theorem Ord.inj (h : ju P M) (o : Ord P M mod q x) {i j : Nat} (hij : i<j) (hj : j<q - 1) : pw P M mod x i ≠ pw P M mod x j:=by
 intro e;have h1:=gn (mod:=mod) h x i (q - 1 - i);have h2:=gn (mod:=mod) h x j (q - 1 - i);rw [show i+(q - 1 - i)=q - 1 by omega,o.one,e,h2] at h1;have h3 : pw P M mod x (j - i)=1:=by have h4:=gn (mod:=mod) h x (j - i) (q - 1);rw [o.one,gK h,fQ h (qe h x _),show j - i+(q - 1)=j+(q - 1 - i) by omega,h1] at h4;exact h4
 exact o.ne (j - i) (by omega) (by omega) h3
theorem ot (h : ju P M) (hx : ef P M x) (o : Ord P M mod q x) : ∀(n k : Nat),k<=q - 1->q - 1 - k<n->0<k ->
  gq (λz=>cF P M mod z x) n ((List.range k).map λi=>pw P M mod x i) (pw P M mod x k)=(List.range (q - 1)).map λi=>pw P M mod x i
 | 0,k,_,hn,_=>by omega
 | n+1,k,hk,hn,h0=>by
  by_cases hke : k=q - 1
  ·subst hke;refine gN _ _ _ _ (.inr ?_);rw [o.one,II];exact ⟨0,List.mem_range.2 h0,rfl⟩
  ·rw [pd]
   ·have e : (List.range k).map (λi=>pw P M mod x i) ++ [pw P M mod x k]=(List.range (k+1)).map λi=>pw P M mod x i:=by rw [FW,FD];rfl
    rw [e];exact ot h hx o n (k+1) (by omega) (by omega) (by omega)
   ·rintro (h1 | h1)
    ·exact o.nz h (by omega) h1
    ·obtain ⟨i,hi,e⟩:=List.mem_map.1 h1;exact o.inj h (List.mem_range.1 hi) (by omega) e
theorem Ord.eO (h : ju P M) (hx : ef P M x) (hq : 2<=q) (o : Ord P M mod q x) : eO P M mod q x=true:=by
 have hl : dP P M mod q x=(List.range (q - 1)).map λi=>pw P M mod x i:=by
  by_cases h2 : q=2
  ·subst h2;have : x=1:=by have:=o.one;rwa [show 2 - 1=1 from rfl,vs h hx] at this
   subst this;rw [dP,gN _ _ _ _ (.inr (by simp))];rfl
  ·have:=ot h hx o q 1 (by omega) (by omega) (by omega);rw [vs h hx] at this;exact this
 unfold Proofs.YtjfiflldinnhmaaGreat.eO;rw [hl,EW];refine ⟨by simp,?_⟩;have e : nth ((List.range (q - 1)).map λi=>pw P M mod x i) (q - 2)=pw P M mod x (q - 2):=by rw [ai (by simp;omega)];simp
 rw [e];have : cF P M mod (pw P M mod x (q - 2)) x=pw P M mod x (q - 1):=by rw [show q - 1=(q - 2)+1 by omega];rfl
 rw [this,o.one];rfl
theorem oI : ∀(n x y : Nat),2<=q->x<=y->y<x+n->eO P M mod q y=true->jn P M mod q n x ≠ []
 | 0,x,y,_,h1,h2,_=>by omega
 | n+1,x,y,hq,h1,h2,hg=>by
  rw [jn];by_cases hx : eO P M mod q x=true
  ·rw [EH hx];intro e;simp only [eO,EW,beq_iff_eq] at hx;rw [e] at hx;simp at hx;omega
  ·rw [EG hx];refine oI n (x+1) y hq ?_ (by omega) hg;rcases Iv h1 with h3 | h3
   ·subst h3;exact absurd hg hx
   ·exact h3
theorem uF {ex : LI} {y a b : Int} (g : pG P M mod q y ex) (ha : ef P M a) (hb : ef P M b) (ha0 : a ≠ 0) (hb0 : b ≠ 0) : cF P M mod a b ≠ 0:=by obtain ⟨i,_,rfl,_⟩:=g.log ha ha0;obtain ⟨j,_,rfl,_⟩:=g.log hb hb0;rw [gn g.res];exact g.DF _
end
theorem yL {P : Int} {M q : Nat} {l : List (Nat × Nat)} (h : dZ P M q l) {v : Nat} (hv : v<q) : ∃c,wK P M q v c=true:=⟨_,h v hv⟩
theorem DU (p m : Nat) (hp : eU p=true) (h2 : 2<=p) (hm : 2<=m) (hm8 : m<=8) (hpw : (p : Int) ^ m<=256) : ∃l,dZ p m (((p : Int) ^ m).toNat) l:=by
 have hp16 : p<=16:=by
  have h1:=dB (P:=(p : Int)) (by omega) hm;have h3 : (p : Int) ^ 2=p * p:=by rw [Fv,Fv,Gf,GL]
  rcases Fm 16 p with h4 | h4
  ·have h5 : 17 * 17<=p * p:=I3 h4 h4;have h6 : ((17 * 17 : Nat) : Int)<=((p * p : Nat) : Int):=Int.ofNat_le.2 h5;rw [Int.natCast_mul] at h6;omega
  ·exact h4
 have hc : p=2\/p=3\/p=4\/p=5\/p=6\/p=7\/p=8\/p=9\/p=10\/p=11\/p=12\/p=13\/p=14\/p=15\/p=16:=by omega
 have hd : m=2\/m=3\/m=4\/m=5\/m=6\/m=7\/m=8:=by omega
 rcases hc with rfl | rfl | rfl | rfl | rfl | rfl | rfl | rfl | rfl | rfl | rfl | rfl | rfl | rfl | rfl
 ·rcases hd with rfl | rfl | rfl | rfl | rfl | rfl | rfl
  ·exact ⟨_,CX⟩
  ·exact ⟨_,Dh⟩
  ·exact ⟨_,C8⟩
  ·exact ⟨_,CW⟩
  ·exact ⟨_,Dj⟩
  ·exact ⟨_,Dx⟩
  ·exact ⟨_,CV⟩
 ·rcases hd with rfl | rfl | rfl | rfl | rfl | rfl | rfl
  ·exact ⟨_,Dr⟩
  ·exact ⟨_,Dp⟩
  ·exact ⟨_,Dw⟩
  ·exact ⟨_,CN⟩
  ·exact absurd hpw (by decide)
  ·exact absurd hpw (by decide)
  ·exact absurd hpw (by decide)
 ·exact absurd hp (by decide)
 ·rcases hd with rfl | rfl | rfl | rfl | rfl | rfl | rfl
  ·exact ⟨_,C5⟩
  ·exact ⟨_,CP⟩
  ·exact absurd hpw (by decide)
  ·exact absurd hpw (by decide)
  ·exact absurd hpw (by decide)
  ·exact absurd hpw (by decide)
  ·exact absurd hpw (by decide)
 ·exact absurd hp (by decide)
 ·rcases hd with rfl | rfl | rfl | rfl | rfl | rfl | rfl
  ·exact ⟨_,Dd⟩
  ·exact absurd hpw (by decide)
  ·exact absurd hpw (by decide)
  ·exact absurd hpw (by decide)
  ·exact absurd hpw (by decide)
  ·exact absurd hpw (by decide)
  ·exact absurd hpw (by decide)
 ·exact absurd hp (by decide)
 ·exact absurd hp (by decide)
 ·exact absurd hp (by decide)
 ·rcases hd with rfl | rfl | rfl | rfl | rfl | rfl | rfl
  ·exact ⟨_,BI⟩
  ·exact absurd hpw (by decide)
  ·exact absurd hpw (by decide)
  ·exact absurd hpw (by decide)
  ·exact absurd hpw (by decide)
  ·exact absurd hpw (by decide)
  ·exact absurd hpw (by decide)
 ·exact absurd hp (by decide)
 ·rcases hd with rfl | rfl | rfl | rfl | rfl | rfl | rfl
  ·exact ⟨_,BF⟩
  ·exact absurd hpw (by decide)
  ·exact absurd hpw (by decide)
  ·exact absurd hpw (by decide)
  ·exact absurd hpw (by decide)
  ·exact absurd hpw (by decide)
  ·exact absurd hpw (by decide)
 ·exact absurd hp (by decide)
 ·exact absurd hp (by decide)
 ·exact absurd hp (by decide)
theorem BG {P : Int} {m : Nat} (hf : RF P m) {mod : LI} (hd : cU P mod) (hl : mod.length=m) : 0<=cO P mod/\cO P mod<P ^ m:=by have:=kR (P:=P) (by have:=hf.p2;omega) mod hd;rwa [hl] at this
theorem jl (P M : Int) (mod : LI) : bq P M mod=bA P M mod:=by
 by_cases hs : bL P M mod=true
 ·unfold bq bA;rw [hs,GK,GK];have hs2:=hs;unfold bL at hs2;simp only [EW,bne_iff_ne,ne_eq] at hs2;obtain ⟨⟨h1,h2⟩,h3⟩:=hs2;obtain ⟨m,rfl,hrf⟩:=RF.of h1;obtain ⟨p,rfl⟩ : ∃p : Nat,P=p:=⟨P.toNat,by have:=hrf.p2;omega⟩
  rw [EM] at h2 ⊢;have hp2 : 2<=p:=by have:=hrf.p2;omega
  have hp256 : p<=256:=by have:=hrf.p256;omega
  have hord:=hrf.order;have hres:=hrf.res;obtain ⟨q,hq⟩ : ∃q : Nat,(p : Int) ^ m=q:=⟨((p : Int) ^ m).toNat,by have:=one_lt_pow hres;omega⟩
  have hq2 : 2<=q:=by have:=one_lt_pow hres;omega
  have hq256 : q<=256:=by have:=hrf.pw;omega
  rw [hord,hq,EM];have hgen : ∀x : Nat,0<x->x<q->tE (cF p m mod) q x=true->(eX p m mod q).isEmpty=false:=λx hx0 hx1 ho=>by
   have hel : ef (p : Int) m x:=⟨by omega,by rw [hq];omega⟩
   have hg:=(Ord.of hres hel hq256 ho).eO hres hel hq2;have:=oI (P:=p) (M:=m) (mod:=mod) (q - 1) 1 x hq2 (by omega) (by omega) hg;unfold eX;cases h : jn p m mod q (q - 1) 1 with
   | nil=>exact absurd h this
   | cons y l=>rfl
  by_cases hm : m=1
  ·subst hm;have hmod : mod=[]:=by rw [EH (by simp)] at h3;exact Fi (by simpa using h3)
   subst hmod;have hr:=List.all_eq_true.1 AU p (List.mem_range.2 (by omega));have hp2' : decide (p<2)=false:=by simp;omega
   rw [hp2',h2] at hr;simp only [Bool.not_true,Bool.false_or,List.any_eq_true] at hr;obtain ⟨c,hc,hcp⟩:=hr;have hck:=List.all_eq_true.1 Ef c hc;have hcp2 : c.1=p:=by simpa using hcp
   unfold DW at hck;rw [hcp2] at hck;simp only [EW,E3] at hck;have hqp : q=p:=by
    have : (p : Int) ^ 1=p:=by rw [Fv,Gf,GL]
    omega
   rw [hgen c.2 hck.1.2 (by omega) (by rw [hqp];exact hck.1.1)];rfl
  ·have hM : ¬ (m : Int)=1:=by omega
   rw [EG hM] at h3;simp only [EW,E3] at h3;have hlen : mod.length=m:=by omega
   have hdig : cU (p : Int) mod:=Jy (by omega) λx hx=>by have:=List.all_eq_true.1 h3.2 x hx;simpa using this
   have hv:=BG hrf hdig hlen;obtain ⟨v,hvv⟩ : ∃v : Nat,cO p mod=v:=⟨(cO p mod).toNat,by omega⟩
   have hdv : bg v p m=mod:=by rw [<- hvv,<- hlen];exact j8 mod hdig
   obtain ⟨l,hl⟩:=DU p m h2 hp2 (by have:=hrf.m1;omega) hrf.m8 hrf.pw;rw [hq,EM] at hl;obtain ⟨c,hc⟩:=yL hl (v:=v) (by omega);have hM' : ((m : Int) == 1)=false:=by simpa using hM
   rw [hM',Bool.false_or];unfold wK at hc;rw [hdv] at hc;split at hc
   ·simp only [EW,E3] at hc;rw [hc.1.1.1,hgen c.1 hc.1.2 hc.2 hc.1.1.2];rfl
   ·rename_i hc2;simp only [EW,E3,Bool.not_eq_true',beq_iff_eq] at hc;rw [hc.1.1.1.1];cases h : (eX p m mod q).isEmpty with
    | true=>rfl
    | false =>
     exfalso
     have hne : eX p m mod q ≠ []:=λe=>by rw [e] at h;cases h
     obtain ⟨y,hy1,hy2,hy3,hy4⟩:=mi hne
     have g:=pG.tu (mod:=mod) hres hq.symm ⟨by omega,by omega⟩ hy3
     exact uF g (a:=(c.1 : Int)) (b:=(c.2 : Int)) ⟨by omega,by omega⟩ ⟨by omega,by omega⟩ (by omega) (by omega) hc.1.1.1.2
 ·have hs' : bL P M mod=false:=by simpa using hs
  simp [bq,bA,hs']
def sR (O : aL) (L : LL) (cols : Nat) : LL:=(aB O L cols).1.take (aB O L cols).2.length
def oS (O : aL) (L : LL) (cols : Nat) (w : World) (e : Ending) (w' : World) : Prop :=
 ∃a c ap cp,e = .returned (.tuple #[.slice a (aB O L cols).2.length c,.slice ap (aB O L cols).2.length cp])/\bX w.heap.size w' a (aB O L cols).2.length (sR O L cols) /\
  cQ w.heap.size w' ap (aB O L cols).2.length (aB O L cols).2/\JA w w'
theorem vM (P : Int) (m : Nat) (am : OA) (mn cm : Nat) (mod : LI) (a : OA) (n c cols : Nat) (L : LL) (w : World) (hf : rT w P m am mn mod) (hi : bY w a n L)
  (hR : bx (ef P m) cols L) (hlen : cols<=1000000) (hn : n<=1000000) (hinv : ∀p,ef P m p->p ≠ 0->(fE P m mod p=1 ↔ p=1)) :
  Calls prog 119 #[.agg #[.int .i64 P,.int .i64 m,.slice am mn cm],.slice a n c,.int .i64 cols] w (oS (kn P m mod) L cols w):=by
 have Hlen:=Z5 hi.len;have Hc : Hid (∀V,JA w V->Calls prog 184 #[.agg #[.int .i64 P,.int .i64 m,.slice am mn cm],.slice a n c,.int .i64 cols] V (mj (kn P m mod) L cols V)) :=
  λV hV=>zl P m am mn cm mod a n c cols cols L V (hf.aa hV) (hi.aa hV) hR (EF _) hlen hn hinv
 obtain ⟨O,hO⟩ : ∃O,kn P m mod=O:=⟨_,rfl⟩
 rw [hO] at Hc ⊢;clear hO hinv hR;go_enter func119,ntmps119;go_wp2_with fail;obtain ⟨W,hW⟩ : ∃W : World,W=w.alloc (.cells #[.int .i64 P,.int .i64 m,.slice am mn cm] 24):=⟨_,rfl⟩
 rw [<- hW];have hbW : JA w W:=by rw [hW];exact aA _ _
 clear hW;refine (Hc.out W hbW).mono ?_;rintro e w1 ⟨a1,c1,R1,ap,cp,rfl,hO1,hp1,hb1⟩;have hpl:=e9 O L cols;have hcap:=nE hO1.own;have hpv:=(cQ.own hp1).mono hbW.size;have hmt:=((bX.own hO1).take (k:=(aB O L cols).2.length) hpl.2).mono hbW.size;have hF : oS O L cols w (.returned (.tuple #[.slice a1 (aB O L cols).2.length c1,.slice ap (aB O L cols).2.length cp])) w1:=⟨a1,_,ap,cp,rfl,hmt,hpv,I8 hbW hb1⟩
 have HF:=Z5 hF;have hle : (aB O L cols).2.length<=c1:=ET hpl.2 hcap;clear hF hpv hmt hp1 hcap hpl;generalize (aB O L cols).2.length=k at *;go_wp2_with fail;go_ret2;simpa using HF.out
def eT (P M : Int) (mod : LI) (cols : Int) (L : LL) : Int :=
 if eG P M mod cols L=0 then (if sR (kn P M.toNat mod) L cols.toNat=L then 0 else 5) else eG P M mod cols L
theorem oX {P M : Int} {mod : LI} (h : bq P M mod=true) : ∃m : Nat,M=m/\RF P m/\(∀(w : World) am mn,Ints w am mn mod->tY w P m am mn mod):=by
 unfold bq bL at h;simp only [EW,bne_iff_ne,ne_eq] at h;obtain ⟨⟨⟨h1,h2⟩,h3⟩,h4⟩:=h;obtain ⟨m,rfl,hrf⟩:=RF.of h1;refine ⟨m,rfl,hrf,λw am mn hi=>⟨hi,λhm=>?_,?_⟩⟩
 ·rw [EG (by omega)] at h3;simp only [EW,E3] at h3;have:=hi.len;omega
 ·by_cases hm : (m : Int)=1
  ·rw [EH hm] at h3;have : mod=[]:=Fi (by simpa using h3);subst this;exact Jy (by have:=hrf.p2;omega) (by simp)
  ·rw [EG hm] at h3;simp only [EW] at h3;refine Jy (by have:=hrf.p2;omega) λx hx=>?_;have:=List.all_eq_true.1 h3.2 x hx;simpa using this
theorem wz {P M : Int} {mod : LI} {cols : Int} {L : LL} (h : eG P M mod cols L=0) : bq P M mod=true/\ed (aH P M) cols L=0:=by
 unfold eG at h;split at h
 ·rename_i h1;exact ⟨h1,h⟩
 ·omega
theorem nh (P M : Int) (am : OA) (mn cm : Nat) (mod : LI) (cols : Int) (a : OA) (n c : Nat) (L : LL) (w : World) (hmod : Ints w am mn mod) (hi : bY w a n L)
  (hinv : bq P M mod=true->∀p,ef P M.toNat p->p ≠ 0->(fE P M.toNat mod p=1 ↔ p=1)) :
  Calls prog 56 #[.agg #[.int .i64 P,.int .i64 M,.slice am mn cm],.agg #[.int .i64 cols,.slice a n c]] w λe w'=>e = .returned (.int .i64 (eT P M mod cols L))/\JA w w':=by
 have Hlen:=Z5 hi.len;have Hinv:=Z5 hinv;clear hinv;go_enter func56,ntmps56;go_wp2_with fail;obtain ⟨W,hW⟩ : ∃W : World,W=(w.alloc (.cells #[.int .i64 P,.int .i64 M,.slice am mn cm] 24)).alloc (.cells #[.int .i64 cols,.slice a n c] 87):=⟨_,rfl⟩
 rw [<- hW];have hbW : JA w W:=by rw [hW];exact fI _ _ _
 have x0 : ba W w.heap.size [.int .i64 P,.int .i64 M,.slice am mn cm]:=by rw [hW];exact (Ja _ _ _ rfl).alloc _
 have y0 : ba W (w.heap.size+1) [.int .i64 cols,.slice a n c]:=by rw [hW];exact Ja _ _ _ (by simp)
 have HX:=Z5 (E6 x0 y0);have hiW:=hi.aa hbW;have hmW:=hmod.aa hbW;clear hW x0 y0;refine (pW P M am mn cm mod cols a n c L W hmW hiW).mono ?_;rintro e w1 ⟨rfl,hb1⟩;have hbw1:=I8 hbW hb1;by_cases hE : eG P M mod cols L=0
 ·obtain ⟨hB,hm⟩:=wz hE;obtain ⟨m,rfl,hrf,hmods⟩:=oX hB;obtain ⟨k,rfl,hk,hl,hR⟩:=gG hm;have HE : Hid (eT P m mod k L=if sR (kn P m mod) L k=L then 0 else 5):=by show _=_;rw [eT,EH hE,EM,EM]
  rw [hE];have hinv:=Hinv.out hB;rw [EM] at hinv;have hRw : bx (ef P m) k L:=λr hr=>⟨(hR r hr).1,λx hx=>by have:=(hR r hr).2 x hx;rw [hrf.order] at this;exact this⟩
  have x1:=HX.out.1.aa hb1;have y1:=HX.out.2.aa hb1;have d0:=x1.cell 0 rfl;have d1:=x1.cell 1 rfl;have d2:=x1.cell 2 rfl;have d3:=y1.cell 0 rfl;have d4:=y1.cell 1 rfl;have hm1:=hmW.aa hb1;have hi1:=hiW.aa hb1;have hn : n<=1000000:=by rw [<- Hlen.out];omega
  have HC:=Z5 (vM P m am mn cm mod a n c k L w1 ⟨hrf,hmods w1 am mn hm1⟩ hi1 hRw (by omega) hn hinv);clear hE hB hm hmods hR hinv hRw x1 y1;obtain ⟨O,hO⟩ : ∃O,kn P m mod=O:=⟨_,rfl⟩
  rw [hO] at HC HE;clear hO;go_wp2_with fail;refine HC.out.mono ?_;rintro e w2 ⟨a2,c2,ap,cp,rfl,hM2,hp2,hb2⟩;have hbw2:=I8 hbw1 hb2;have y2:=(HX.out.2.aa hb1).aa hb2;have d3:=y2.cell 0 rfl;have d4:=y2.cell 1 rfl;have hi2:=hi1.aa hb2;have hM3:=hM2.pA;have HS:=Z5 (fO a2 (aB O L k).2.length c2 (sR O L k) a n c L hM3 hi2);clear hM2 hp2 y2;generalize (aB O L k).2.length=kk at *;by_cases hc : sR O L k=L
  ·have hc' : decide (sR O L k=L)=true:=by simpa using hc
   have HF : Hid (eT P m mod k L=0):=by show _=_;rw [HE.out,EH hc]
   rw [hc'] at HS;clear hc hc';go_wp2_with fail;refine HS.out.mono ?_;rintro e w3 ⟨rfl,hd3⟩;go_wp2_with fail;go_ret;exact ⟨aF HF.out.symm,I8 hbw2 hd3.below⟩
  ·have hc' : decide (sR O L k=L)=false:=by simpa using hc
   have HF : Hid (eT P m mod k L=5):=by show _=_;rw [HE.out,EG hc]
   rw [hc'] at HS;clear hc hc';go_wp2_with fail;refine HS.out.mono ?_;rintro e w3 ⟨rfl,hd3⟩;go_wp2_with fail;go_ret;exact ⟨aF HF.out.symm,I8 hbw2 hd3.below⟩
 ·have HE : Hid (eT P M mod cols L=eG P M mod cols L):=by show _=_;rw [eT,EG hE]
  have hE' : (eG P M mod cols L != 0)=true:=by simpa using hE
  clear hE;go_wp2_with fail;go_ret;exact ⟨aF HE.out.symm,hbw1⟩
theorem BT {N : Int} (h : N<1) : gY N=4:=by rw [gY,EH (.inl h)]
theorem Ct {N : Int} (h : 64<N) : gY N=4:=by rw [gY,EH (.inr h)]
theorem xa {N : Int} (h1 : ¬ N<1) (h2 : ¬ 64<N) : gY N=0:=by rw [gY,EG (by omega)]
def iK (P M : Int) (mod : LI) (N : Int) (L : LL) : Int :=
 if bq P M mod=true then (if gY N=0 then eT P M mod N L else 4) else 1
theorem oF (P M : Int) (am : OA) (mn cm : Nat) (mod : LI) (N : Int) (a : OA) (n c : Nat) (L : LL) (w : World) (hmod : Ints w am mn mod) (hi : bY w a n L)
  (hinv : bq P M mod=true->∀p,ef P M.toNat p->p ≠ 0->(fE P M.toNat mod p=1 ↔ p=1)) :
  Calls prog 16 #[.agg #[.int .i64 P,.int .i64 M,.slice am mn cm,.int .i64 N,.slice a n c]] w λe w'=>e = .returned (.int .i64 (iK P M mod N L))/\JA w w':=by
 have Hinv:=Z5 hinv;clear hinv;go_enter func16,ntmps16;go_wp2_with fail;obtain ⟨W,hW⟩ : ∃W : World,W=w.alloc (.cells #[.int .i64 P,.int .i64 M,.slice am mn cm,.int .i64 N,.slice a n c] 27):=⟨_,rfl⟩
 rw [<- hW];have hbW : JA w W:=by rw [hW];exact aA _ _
 have x0 : ba W w.heap.size [.int .i64 P,.int .i64 M,.slice am mn cm,.int .i64 N,.slice a n c]:=by rw [hW];exact Ja _ _ _ rfl
 have HX:=Z5 x0;clear hW x0;refine (jo P M am mn cm mod W (hmod.aa hbW)).mono ?_;rintro e w1 ⟨rfl,hb1⟩;have hbw1:=I8 hbW hb1;by_cases hB : bq P M mod=true
 ·have hE : bP (bq P M mod)=0:=by rw [hB];rfl
  rw [hE];have HB : Hid (iK P M mod N L=if gY N=0 then eT P M mod N L else 4):=by show _=_;rw [iK,EH hB]
  have x1:=HX.out.aa hb1;have c0:=x1.cell 0 rfl;have c1:=x1.cell 1 rfl;have c2:=x1.cell 2 rfl;have c3:=x1.cell 3 rfl;have c4:=x1.cell 4 rfl;have hm1:=(hmod.aa hbW).aa hb1;have hi1:=(hi.aa hbW).aa hb1;clear hE hB x1;by_cases h1 : N<1
  ·have Hf : Hid (iK P M mod N L=4):=by show _=_;rw [HB.out,BT h1];rfl
   have t1 : decide (N<1)=true:=by simpa using h1
   go_wp2_with fail;go_ret;exact ⟨aF Hf.out.symm,hbw1⟩
  ·have t1 : decide (N<1)=false:=by simpa using h1
   by_cases h2 : 64<N
   ·have Hf : Hid (iK P M mod N L=4):=by show _=_;rw [HB.out,Ct h2];rfl
    have t2 : decide (64<N)=true:=by simpa using h2
    go_wp2_with fail;go_ret;exact ⟨aF Hf.out.symm,hbw1⟩
   ·have t2 : decide (64<N)=false:=by simpa using h2
    have Hf : Hid (iK P M mod N L=eT P M mod N L):=by show _=_;rw [HB.out,xa h1 h2,EH rfl]
    clear h1 h2;go_wp2_with fail;refine (nh P M am mn cm mod N a n c L w1 hm1 hi1 Hinv.out).mono ?_;rintro e w2 ⟨rfl,hb2⟩;go_wp2_with fail;go_ret;exact ⟨aF Hf.out.symm,I8 hbw1 hb2⟩
 ·have hB' : bq P M mod=false:=by simpa using hB
  have Hf : Hid (iK P M mod N L=1):=by show _=_;rw [iK,EG hB]
  have hE : bP (bq P M mod)=1:=by rw [hB'];rfl
  rw [hE];clear hB hB' hE;go_wp2_with fail;go_ret;exact ⟨aF Hf.out.symm,hbw1⟩
section
variable {O : aL} {El : Int->Prop} {m n : Nat}
structure nc (L : LL) (P : LI) : Prop where
 lead : ∀i x,i<P.length->x<(nth P i).toNat->nth (af L i) x=0
 asc : ∀i j,i<j->j<P.length->nth P i<nth P j
theorem qp (F : bU O El) {L : LL} (hL : bx El m L) : ∀k,k<=m->nc (aB O L k).1 (aB O L k).2
 | 0,_=>⟨λi x hi=>by simp [aB] at hi,λi j _ hj=>by simp [aB] at hj⟩
 | k+1,hk=>by
  have ih:=qp F hL k (by omega);obtain ⟨h1,_,_⟩:=i7 F hL k (by omega);have hR:=kS F hL k (by omega);have hb:=jf (L:=(aB O L k).1) (c:=k) (k:=(aB O L k).2.length) h1.le;by_cases hlt : (aB O L k).2.length<(aB O L k).1.length
  ·rw [dn (Lk:=(aB O L k).1) (P:=(aB O L k).2) rfl hlt];split
   ·exact ih
   ·rename_i hf;have hfl : aM (aB O L k).1 k (aB O L k).2.length<(aB O L k).1.length:=by omega
    have hne : nth (af (aB O L k).1 (aM (aB O L k).1 k (aB O L k).2.length)) k ≠ 0:=eB _ k _ _ (by show aM _ k _<_;omega);generalize aM (aB O L k).1 k (aB O L k).2.length=r at *;generalize (aB O L k).1=A at *;generalize (aB O L k).2=P at *;have hp : El (nth (af A r) k):=Jd (hR.row hfl) (by omega);have hpi:=F.cl.inv _ hp hne;refine ⟨λi x hi hx=>?_,λi j hij hj=>?_⟩
    ·rw [ER,E0] at hi;have hx' : x<m:=by
      rw [fU] at hx;by_cases e : i<P.length
      ·rw [EH e] at hx;have:=h1.lt i e;omega
      ·rw [EG e,EH (by omega)] at hx;omega
     rw [dG F hR hlt hfl (by omega) hne (i:=i) (by omega) hx'];rw [fU] at hx;by_cases e : i<P.length
     ·rw [EH e] at hx;have h2:=h1.lt i e;rw [EG (by omega),show sw P.length r i=i by unfold sw;rw [EG (by omega),EG (by omega)],h1.zero r x hb.1 hfl (by omega),F.dh hpi,F.jh (Jd (hR.row (by omega)) (by omega)),F.ey,F.add_zero _ (Jd (hR.row (by omega)) hx')];exact ih.lead i x e hx
     ·rw [EG e,EH (by omega)] at hx;rw [EH (by omega),h1.zero r x hb.1 hfl (by omega),F.dh hpi]
    ·rw [ER,E0] at hj;rw [fU,fU,EH (by omega)];by_cases e : j<P.length
     ·rw [EH e];exact ih.asc i j hij e
     ·rw [EG e,EH (by omega)];have:=h1.lt i (by omega);omega
  ·have hfull : (aB O L k).2.length=L.length:=by have:=cN O L k;have:=h1.le;omega
   rw [fh hfull 1];exact ih
theorem inv_one (F : bU O El) : O.inv 1=1:=by have h:=F.mul_inv 1 F.one (by decide);rwa [F.one_mul _ (F.cl.inv 1 F.one (by decide))] at h
theorem oL (O : aL) {R : LL} {t c : Nat} (h : ∀i,i<R.length->i ≠ t->nth (af R i) c=0) : ∀i,i<=R.length->aT O t c R i=R
 | 0,_=>rfl
 | i+1,hi=>by
  unfold aT;rw [oL O h i (by omega)];split
  ·rfl
  ·rename_i e;unfold bW;rw [EH (h i (by omega) e),jH]
theorem tG (F : bU O El) {R : LL} {P : LI} (hP : kY R P m) (hl : nc R P) (hlen : R.length=P.length) : ∀k,k<=m ->
  ∃t,t<=P.length/\aB O R k=(R,P.take t)/\(∀j,j<t->nth P j<k)/\(∀j,t<=j->j<P.length->(k : Int)<=nth P j)
 | 0,_=>⟨0,EL _,by simp [aB],λj hj=>by omega,λj _ hj=>(hP.lt j hj).1⟩
 | k+1,hk=>by
  obtain ⟨t,ht,he,h1,h2⟩:=tG F hP hl hlen k (by omega);have htl : (P.take t).length=t:=by rw [Fg];omega
  by_cases htt : t=P.length
  ·refine ⟨t,ht,?_,λj hj=>by have:=h1 j hj;omega,λj h3 h4=>by omega⟩;have hfull : (aB O R k).2.length=R.length:=by rw [he];show (P.take t).length=_;omega
   rw [fh hfull 1,he]
  ·have htR : t<R.length:=by omega
   rw [dn (Lk:=R) (P:=P.take t) he.symm (by rw [htl];exact htR),htl];by_cases hpk : nth P t=k
   ·have h11:=hP.one t t (by omega) htR;rw [hpk,EH rfl,EM] at h11;have hf : aM R k t=t:=by rw [gx htR,EG (by rw [h11];decide)]
    rw [hf,EG (by omega)];have hpv : et O R t t k=R:=by
     rw [gH,EH rfl];have hn : bw O R t k=R:=by unfold bw;rw [h11,EH (inv_one F)]
     rw [hn];refine oL O (λi hi hit=>?_) _ (EF _);have:=hP.one t i (by omega) hi;rw [hpk,EG hit,EM] at this;exact this
    rw [hpv];refine ⟨t+1,by omega,?_,λj hj=>?_,λj h3 h4=>?_⟩
    ·rw [EV (by omega),<- ai,hpk]
    ·by_cases e : j=t
     ·subst e;omega
     ·have:=h1 j (by omega);omega
    ·have:=hl.asc t j (by omega) h4;omega
   ·have hgt : (k : Int)<nth P t:=by have:=h2 t (EF _) (by omega);omega
    have hz : ∀i,t<=i->i<R.length->nth (af R i) k=0:=λi h3 h4=>by
     refine hl.lead i k (by omega) ?_;by_cases e : i=t
     ·subst e;omega
     ·have:=hl.asc t i (by omega) (by omega);omega
    have hf : ∀d i,d=R.length - i->t<=i->i<=R.length->aM R k i=R.length:=by
     intro d;induction d with
     | zero=>intro i h3 _ h5;rw [jE (by omega)];omega
     | succ d ih =>
      intro i h3 h4 h5
      rw [gx (by omega),EH (hz i h4 (by omega))]
      exact ih (i+1) (by omega) (by omega) (by omega)
    rw [hf _ t rfl (EF _) (by omega),EH rfl];refine ⟨t,ht,rfl,λj hj=>by have:=h1 j hj;omega,λj h3 h4=>?_⟩;by_cases e : j=t
    ·subst e;omega
    ·have:=hl.asc t j (by omega) h4;omega
theorem nN (F : bU O El) {R : LL} {P : LI} (hP : kY R P m) (hl : nc R P) (hlen : R.length=P.length) : aB O R m=(R,P):=by
 obtain ⟨t,ht,he,h1,h2⟩:=tG F hP hl hlen m (EF _);have : t=P.length:=by apply Fe;intro h;have h3:=h2 t (EF _) (by omega);have h4:=hP.lt t (by omega);omega
 rw [he,this,IP]
def fq (O : aL) (m : Nat) (L : LL) : LL:=(aB O L m).1.take (aB O L m).2.length
theorem jg {L : LL} {t i : Nat} (h : i<t) : af (L.take t) i=af L i:=by unfold af;simp only [EJ,FE];rw [EH h]
theorem de (F : bU O El) {L : LL} (hL : bx El m L) : (fq O m L).length=(aB O L m).2.length:=by have h1:=(i7 F hL m (EF _)).1.le;unfold fq;rw [Fg];omega
theorem eA (F : bU O El) {L : LL} (hL : bx El m L) : bx El m (fq O m L):=λr hr=>kS F hL m (EF _) r (Gl hr)
theorem dK (F : bU O El) {L : LL} (hL : bx El m L) : kY (fq O m L) (aB O L m).2 m/\nc (fq O m L) (aB O L m).2:=by
 have h1:=(i7 F hL m (EF _)).1;have h2:=qp F hL m (EF _);have hl:=de F hL;refine ⟨⟨by omega,h1.lt,λj i hj hi=>?_,λi x hi1 hi2 _=>by omega⟩,⟨λi x hi hx=>?_,h2.asc⟩⟩
 ·unfold fq;rw [jg (by omega)];exact h1.one j i hj (by have:=h1.le;omega)
 ·unfold fq;rw [jg hi];exact h2.lead i x hi hx
theorem y4 (F : bU O El) {L : LL} (hL : bx El m L) : fq O m (fq O m L)=fq O m L:=by
 obtain ⟨h1,h2⟩:=dK F hL;have hl:=de F hL;have h3:=nN F h1 h2 hl;have e : fq O m (fq O m L)=(fq O m L).take (aB O L m).2.length:=by show (aB O (fq O m L) m).1.take (aB O (fq O m L) m).2.length=_;rw [h3]
 rw [e,ES (by omega)]
theorem RS.Cv (F : bU O El) {L : LL} {f : Nat->Int} (h : ∀x,x<m->f x=0) : RS O El m L f:=by refine ⟨λ_=>0,⟨λ_ _=>F.zero,λv r x hv hr hx=>?_,λr x hr hx=>(F.dh hx).symm⟩,λx hx=>h x hx⟩;show (0 : Int)=O.add 0 (O.neg (O.mul x 0));rw [F.dh hx,F.ey,F.add_zero 0 F.zero]
theorem ja (F : bU O El) {L : LL} (hL : bx El m L) : gy O El m (fq O m L) L/\gy O El m L (fq O m L):=by
 obtain ⟨h1,h2,h3⟩:=i7 F hL m (EF _);have hl:=de F hL;refine ⟨λi hi=>?_,h3.trans λi hi=>?_⟩
 ·have e : af (fq O m L) i=af (aB O L m).1 i:=by unfold fq;exact jg (by omega)
  rw [e];exact h2 i (by have:=h1.le;omega)
 ·by_cases e : i<(aB O L m).2.length
  ·have e2 : af (aB O L m).1 i=af (fq O m L) i:=by unfold fq;exact (jg e).symm
   rw [e2];exact Jp F (by omega)
  ·exact RS.Cv F λx hx=>h1.zero i x (by omega) hi hx
theorem xH (F : bU O El) {L : LL} (hL : bx El m L) : Rk (lQ O El (fq O m L).length (aQ (fq O m L))) (List.range m) (fq O m L).length:=by have h:=Dl F (eA F hL);obtain ⟨h1,h2⟩:=dK F hL;rw [nN F h1 h2 (de F hL)] at h;rw [de F hL];rw [de F hL] at h;exact h
def cW (O : aL) (m : Nat) (R : LL) (P : LI) (c : Nat) : Nat->LI
 | 0=>(List.replicate m 0).set c 1
 | i+1=>(cW O m R P c i).set (nth P i).toNat (O.neg (nth (af R i) c))
def ek (O : aL) (m : Nat) (R : LL) (P : LI) : Nat->LL
 | 0=>[]
 | k+1=>if (k : Int) ∈ P then ek O m R P k else ek O m R P k ++ [cW O m R P k P.length]
def gr (P : LI) : Nat->LN
 | 0=>[]
 | k+1=>if (k : Int) ∈ P then gr P k else gr P k ++ [k]
theorem fJ (O : aL) (m : Nat) (R : LL) (P : LI) (c : Nat) : ∀i,(cW O m R P c i).length=m
 | 0=>by simp [cW]
 | i+1=>by rw [cW,Fu,fJ O m R P c i]
theorem iX (O : aL) (m : Nat) (R : LL) (P : LI) : ∀k,(ek O m R P k).length=(gr P k).length
 | 0=>rfl
 | k+1=>by
  rw [ek,gr];split
  ·exact iX O m R P k
  ·rw [ER,ER,iX O m R P k];rfl
theorem nH {P : LI} {x : Nat} : ∀k,x ∈ gr P k ↔ x<k/\¬ (x : Int) ∈ P
 | 0=>by simp [gr]
 | k+1=>by
  rw [gr];split
  ·rename_i h;rw [nH k];constructor
   ·rintro ⟨h1,h2⟩;exact ⟨by omega,h2⟩
   ·rintro ⟨h1,h2⟩;by_cases e : x=k
    ·subst e;exact absurd h h2
    ·exact ⟨by omega,h2⟩
  ·rename_i h;rw [FH,nH k,Fw];constructor
   ·rintro (⟨h1,h2⟩ | rfl)
    ·exact ⟨by omega,h2⟩
    ·exact ⟨by omega,h⟩
   ·rintro ⟨h1,h2⟩;by_cases e : x=k
    ·exact .inr e
    ·exact .inl ⟨by omega,h2⟩
theorem lA (O : aL) (m : Nat) (R : LL) (P : LI) {j : Nat} : ∀k,j<(gr P k).length->af (ek O m R P k) j=cW O m R P ((gr P k).getD j 0) P.length
 | 0,h=>by simp [gr] at h
 | k+1,h=>by
  rw [ek,gr] at *;split
  ·rename_i hc;rw [EH hc] at h;exact lA O m R P k h
  ·rename_i hc;rw [EG hc,ER,E0] at h;have hl:=iX O m R P k;by_cases e : j<(gr P k).length
   ·have e1 : af (ek O m R P k ++ [cW O m R P k P.length]) j=af (ek O m R P k) j:=by unfold af;simp only [EJ];rw [E2 (by omega)]
    have e2 : (gr P k ++ [k]).getD j 0=(gr P k).getD j 0:=by simp only [EJ];rw [E2 e]
    rw [e1,e2];exact lA O m R P k e
   ·have ej : j=(gr P k).length:=by omega
    have e1 : af (ek O m R P k ++ [cW O m R P k P.length]) j=cW O m R P k P.length:=by unfold af;simp only [EJ];rw [F0 (by omega)];simp [ej,hl]
    have e2 : (gr P k ++ [k]).getD j 0=k:=by simp only [EJ];rw [F0 (by omega)];simp [ej]
    rw [e1,e2]
variable {R : LL} {P : LI}
theorem jD (hP : kY R P m) {c x : Nat} (hx : x<m) (hxc : x ≠ c) : ∀i,i<=P.length->(∀j,j<i->(nth P j).toNat ≠ x)->nth (cW O m R P c i) x=0
 | 0,_,_=>by
  by_cases hc : c<m
  ·rw [cW,cX _ _ _ _ (by simpa using hc),EG hxc];simp [nth,EJ,E9];split <;> rfl
  ·rw [cW,FN (by simp;omega)];simp [nth,EJ,E9];split <;> rfl
 | i+1,hi,h=>by have hb:=hP.lt i (by omega);rw [cW,cX _ _ _ _ (by rw [fJ];omega),EG (λe=>h i (by omega) e.symm)];exact jD hP hx hxc i (by omega) λj hj=>h j (by omega)
theorem kL (hP : kY R P m) {c : Nat} (hc : c<m) (hn : ¬ (c : Int) ∈ P) : ∀i,i<=P.length->nth (cW O m R P c i) c=1
 | 0,_=>by rw [cW,cX _ _ _ _ (by simpa using hc),EH rfl]
 | i+1,hi=>by have hb:=hP.lt i (by omega);have hne : c ≠ (nth P i).toNat:=λe=>hn (by have : nth P i ∈ P:=aO (by omega);rwa [show nth P i=(c : Int) by omega] at this);rw [cW,cX _ _ _ _ (by rw [fJ];omega),EG hne];exact kL hP hc hn i (by omega)
theorem qI (hP : kY R P m) (hl : nc R P) {c j : Nat} : ∀i,i<=P.length->j<i->nth (cW O m R P c i) (nth P j).toNat=O.neg (nth (af R j) c)
 | 0,_,h=>by omega
 | i+1,hi,h=>by
  have hb:=hP.lt i (by omega);have hbj:=hP.lt j (by omega);rw [cW,cX _ _ _ _ (by rw [fJ];omega)];by_cases e : j=i
  ·subst e;rw [EH rfl]
  ·have:=hl.asc j i (by omega) (by omega);rw [EG (by omega)];exact qI hP hl i (by omega) (by omega)
theorem lH (F : bU O El) (hR : bx El m R) (hP : kY R P m) (hlen : R.length=P.length) {c : Nat} (hc : c<m) : ∀i,i<=P.length->Vc El m (cW O m R P c i)
 | 0,_=>⟨fJ O m R P c 0,λy hy=>by
  rw [cW] at hy;rcases FK hy with h | rfl
  ·rw [FM h];exact F.zero
  ·exact F.one⟩
 | i+1,hi=>⟨fJ O m R P c (i+1),λy hy=>by
  rw [cW] at hy;rcases FK hy with h | rfl
  ·exact (lH F hR hP hlen hc i (by omega)).2 y h
  ·exact F.cl.neg _ (Jd (hR.row (by omega)) hc)⟩
theorem l5 {P : LI} {k j : Nat} (h : j<(gr P k).length) : (gr P k).getD j 0<k/\¬ (((gr P k).getD j 0 : Nat) : Int) ∈ P:=by
 have e : (gr P k).getD j 0=(gr P k)[j]:=by simp [EJ,h]
 rw [e];exact (nH k).1 (Fj h)
theorem iZ (F : bU O El) (hR : bx El m R) (hP : kY R P m) (hlen : R.length=P.length) : bx El m (ek O m R P m):=λr hr=>by
 obtain ⟨j,hj,rfl⟩:=List.mem_iff_getElem.1 hr;have hj' : j<(gr P m).length:=by rw [<- iX O m R P m];exact hj
 rw [<- aE hj,lA O m R P m hj'];exact lH F hR hP hlen (l5 hj').1 P.length (EF _)
theorem uo (F : bU O El) (hR : bx El m R) (hP : kY R P m) (hl : nc R P) (hlen : R.length=P.length) : nj O m R (ek O m R P m):=λi j hi hj=>by
 rw [iX] at hj;rw [lA O m R P m hj];obtain ⟨hc,hn⟩:=l5 hj;generalize (gr P m).getD j 0=c at *;have hb:=hP.lt i (by omega);have hne : c ≠ (nth P i).toNat:=λe=>hn (by have : nth P i ∈ P:=aO (by omega);rwa [show nth P i=(c : Int) by omega] at this);have hx : El (nth (af R i) c):=Jd (hR.row hi) hc;have e1 : nth (cW O m R P c P.length) c=1:=kL hP hc hn _ (EF _);have e2 : nth (cW O m R P c P.length) (nth P i).toNat=O.neg (nth (af R i) c):=qI hP hl _ (EF _) (by omega);have e3 : nth (af R i) (nth P i).toNat=1:=by rw [hP.one i i (by omega) hi,EH rfl]
 rw [uG F hne (by rw [e1,F.kg hx];exact hx) (by rw [e2,e3,F.one_mul _ (F.cl.neg _ hx)];exact F.cl.neg _ hx) m λp hp hpc hpi=>?_,EH hc,EH (by omega),e1,e2,e3,F.kg hx,F.one_mul _ (F.cl.neg _ hx),F.add_neg _ hx];show O.mul (nth (af R i) p) (nth (cW O m R P c P.length) p)=0;have hxp : El (nth (af R i) p):=Jd (hR.row hi) hp;by_cases hpp : ∃q,q<P.length/\(nth P q).toNat=p
 ·obtain ⟨q,hq,rfl⟩:=hpp;have hqi : i ≠ q:=λe=>hpi (by rw [e]);rw [hP.one q i hq hi,EG hqi,F.jh ((lH F hR hP hlen hc _ (EF _)).at hp)]
 ·rw [jD hP hp hpc _ (EF _) λq hq e=>hpp ⟨q,hq,e⟩,F.dh hxp]
end
theorem oa (f : Int->Int) : ∀(n : Nat) (y z : Int),y<=z->z<y+n->f z=1->f (gd f n y)=1/\y<=gd f n y/\gd f n y<y+n
 | 0,y,z,h1,h2,_=>by omega
 | n+1,y,z,h1,h2,hz=>by
  unfold gd;split
  ·exact ⟨by assumption,by omega,by omega⟩
  ·rename_i hn;have hne : y ≠ z:=λe=>hn (e ▸ hz);have:=oa f n (y+1) z (by omega) (by omega) hz;exact ⟨this.1,by omega,by omega⟩
theorem wQ {P M : Int} {mod : LI} (h : bA P M mod=true) : ∃m : Nat,M=m/\ef P m=(an P m mod).El/\((an P m mod).q : Int)=aH P M/\bU (an P m mod).ops (ef P m)/\C0 (an P m mod).ops (kn P m mod) (ef P m) /\
  ∀p,ef P m p->p ≠ 0->(fE P m mod p=1 ↔ p=1):=by
 have hF:=ji h;obtain ⟨m,y,rfl,hr,h256,hsh,hq,g⟩:=oP h;have hrf : RF P m:=by
  obtain ⟨m',e,h2,_⟩:=oX (by rw [jl];exact h);have : m=m':=by omega
  rw [this];exact h2
 rw [EM] at hF;have e : ef P m=(an P m mod).El:=by funext x;simp only [cC.El,an,ef];rw [hq]
 rw [<- e] at hF;have hq2:=g.q2;have hmul : ∀x z,ef P m x->ef P m z->(an P m mod).ops.mul x z=mulR P m mod x z:=λx z hx hz=>by rw [Bx hrf];exact g.wZ hx hz
 have hqo : ((aH P m).toNat : Int)=aH P m:=by omega
 have hinv : ∀x,ef P m x->x ≠ 0->(an P m mod).ops.inv x=fE P m mod x:=by
  intro x hx h0;have hi:=hF.cl.inv x hx h0;have hm:=hF.mul_inv x hx h0;rw [hmul x _ hx hi] at hm;have hi0 : (an P m mod).ops.inv x ≠ 0:=by intro e0;have h2:=hF.mul_inv x hx h0;rw [e0,hF.dh hx] at h2;exact absurd h2 (by decide)
  have hb1:=hi.1;have hb2:=hi.2;obtain ⟨h1,h2,h3⟩:=oa (mulR P m mod x) ((aH P m).toNat - 1) 1 _ (by omega) (by omega) hm;have hel : ef P m (fE P m mod x):=⟨by unfold fE;omega,by unfold fE;omega⟩
  have h4 : (an P m mod).ops.mul x (fE P m mod x)=1:=by rw [hmul x _ hx hel];exact h1
  have h5:=hF.mul_inv x hx h0;have e1 : (an P m mod).ops.mul ((an P m mod).ops.inv x) ((an P m mod).ops.mul x (fE P m mod x))=fE P m mod x:=by rw [<- hF.mul_assoc _ x _ hi hx hel,hF.mul_comm _ x hi hx,h5,hF.one_mul _ hel]
  rw [h4,hF.kg hi] at e1;exact e1
 refine ⟨m,rfl,e,hqo,hF,⟨λx z _ _=>rfl,hmul,λx _=>rfl,hinv⟩,λp hp h0=>?_⟩;rw [<- hinv p hp h0];have hi:=hF.cl.inv p hp h0;have hm:=hF.mul_inv p hp h0;constructor
 ·intro e1;rw [e1,hF.kg hp] at hm;exact hm
 ·intro e1;rw [e1] at hm hi ⊢;rw [hF.one_mul _ hi] at hm;exact hm
theorem Ax {P M : Int} {mod : LI} (h : bq P M mod=true) : ∀p,ef P M.toNat p->p ≠ 0->(fE P M.toNat mod p=1 ↔ p=1):=by obtain ⟨m,rfl,_,_,_,_,h6⟩:=wQ (by rw [<- jl];exact h);exact h6
theorem AI (P M : Int) (mod : LI) (cols : Int) (L : LL) : eG P M mod cols L=dC P M mod cols L:=by
 unfold eG dC;rw [jl];split
 ·rename_i h;obtain ⟨m,rfl,_,hq,_⟩:=wQ h;rw [EM,hq]
 ·rfl
theorem BD {P M : Int} {mod : LI} (h : bA P M mod=true) {L : LL} {m : Nat} (hL : bx (an P M.toNat mod).El m L) : sR (kn P M.toNat mod) L m=dM (an P M.toNat mod) L m:=by obtain ⟨k,rfl,he,_,hF,hA,_⟩:=wQ h;rw [EM] at hL ⊢;rw [<- he] at hL;unfold sR dM;rw [(kC hA hF.cl hL m (EF _)).1]
theorem vH (P M : Int) (mod : LI) (cols : Int) (L : LL) : eT P M mod cols L=dX P M mod cols L:=by
 unfold eT dX;rw [AI];split
 ·rename_i h0;obtain ⟨h1,h2⟩:=e8 h0;obtain ⟨m,rfl,_,_,hR⟩:=gG h2;rw [EM,BD h1 hR]
 ·rfl
theorem x8 (P M : Int) (mod : LI) (N : Int) (L : LL) : iK P M mod N L=aZ P M mod N L:=by unfold iK aZ;rw [jl,vH]
theorem dk {P M : Int} {mod : LI} {N : Int} {L : LL} (h : aZ P M mod N L=0) : ∃n : Nat,N=n/\1<=n/\n<=64/\bU (an P M.toNat mod).ops (an P M.toNat mod).El/\bx (an P M.toNat mod).El n L:=by obtain ⟨m,rfl,h1,h2,_,hR⟩:=eE h;exact ⟨m,rfl,h1,h2,ji (dq h).1,hR⟩
theorem kA (x : Nat) (i : Int) : ∀k,i ∈ aR x k ↔ ∃j : Nat,j<k/\i=j/\x.testBit j=true
 | 0=>by simp [aR]
 | k+1=>by
  have ih:=kA x i k;unfold aR;split
  ·rename_i ht;rw [FH,ih,Fw];constructor
   ·rintro (⟨j,h1,h2,h3⟩ | rfl)
    ·exact ⟨j,by omega,h2,h3⟩
    ·exact ⟨k,by omega,rfl,ht⟩
   ·rintro ⟨j,h1,h2,h3⟩;by_cases e : j=k
    ·subst e;exact .inr h2
    ·exact .inl ⟨j,by omega,h2,h3⟩
  ·rename_i ht;rw [ih];constructor
   ·rintro ⟨j,h1,h2,h3⟩;exact ⟨j,by omega,h2,h3⟩
   ·rintro ⟨j,h1,h2,h3⟩;by_cases e : j=k
    ·subst e;exact absurd h3 ht
    ·exact ⟨j,by omega,h2,h3⟩
theorem mU {Q : LI} : ∀k,(∀j,j<k->0<=nth Q j/\nth Q j<64)->∀i,(lW Q k).testBit i=true ↔ ∃j,j<k/\nth Q j=(i : Int)
 | 0,_,i=>by simp [lW]
 | k+1,h,i=>by
  have ih:=mU k (λj hj=>h j (by omega)) i;have hk:=h k (by omega);rw [lW,Nat.testBit_or,GP,ih,Nat.testBit_two_pow,E3];constructor
  ·rintro (⟨j,h1,h2⟩ | h1)
   ·exact ⟨j,by omega,h2⟩
   ·exact ⟨k,by omega,by omega⟩
  ·rintro ⟨j,h1,h2⟩;by_cases e : j=k
   ·subst e;exact .inr (by omega)
   ·exact .inl ⟨j,by omega,h2⟩
section
variable {P M : Int} {mod : LI} {n : Nat} {L : LL}
end
def xz (n : Nat) (Q : LI) : Prop:=∀j,j<Q.length->0<=nth Q j/\nth Q j<n
theorem aN.lit (w : World) {B : Nat} (hB : B<=w.heap.size) : aN (w.alloc (.cells #[] 22)) B (some ⟨w.heap.size,0,none⟩) 0 0 [] [] :=
 ⟨rfl,rfl,aW (ke w 22) hB,λi hi=>by omega,λi hi=>by omega,λi j hi=>by omega⟩
theorem sZ (f : LI->LI) (L : LL) {k : Nat} (hk : k<L.length) : af (L.map f) k=f (af L k):=by rw [aE (by simpa using hk),aE hk];simp
theorem xz.bd {n : Nat} {Q : LI} (h : xz n Q) (hn : n<=64) {k : Nat} (hk : k<=Q.length) : ∀j,j<k->0<=nth Q j/\nth Q j<64:=λj hj=>by have:=h j (by omega);omega
theorem xz.Ed {n : Nat} {Q : LI} (h : bI n Q=true) : xz n Q:=λj hj=>by have:=fY h hj;omega
theorem xz.bits (x n : Nat) : xz n (aR x n):=λj hj=>jP x n j hj
theorem xz.mask {n : Nat} {Q : LI} (h : xz n Q) (hn : n<=64) : qd Q<18446744073709551616:=qy _ (h.bd hn (EF _))
def CM (P M : Int) (mod : LI) (N : Int) (L : LL) (Q : LI) : Int × Int :=
 if aZ P M mod N L=0 then (if bI N Q=true then (D6 (an P M.toNat mod).ops L N.toNat (qd Q),0) else (0,5)) else (0,aZ P M mod N L)
theorem xl.val {P M : Int} {mod : LI} {N : Int} {L : LL} {Q : LI} {w : World} {e : Ending} {w' : World} (h : xl P M mod N L Q w e w') :
  e = .returned (.tuple #[.int .i64 (CM P M mod N L Q).1,.int .i64 (CM P M mod N L Q).2])/\JA w w':=by
 obtain ⟨hb,h⟩:=h;refine ⟨?_,hb⟩;unfold CM;rcases h with ⟨h1,rfl⟩ | ⟨h1,h2,rfl⟩ | ⟨h1,h2,rfl⟩
 ·rw [EG h1]
 ·rw [EH h1,EG (by rw [h2];decide)]
 ·rw [EH h1,EH h2]
theorem yD (a : OA) (n c : Nat) (l : LI) (v : Int) (w : World) (h : Ints w a n l) :
  Calls prog 123 #[.slice a n c,.int .i64 v] w λe w'=>∃z : Int,e = .returned (.int .i64 z)/\(0<=z ↔ v ∈ l)/\w'=w:=by
 have Hl:=Z5 h.len;have hpl:=h.pl;have hmax:=h.max;unfold maxLen at hmax;go_enter func123,ntmps123;go_wp2_with fail;go_loopw [8] (λiv wr=>∃k : Nat,k<=n/\iv = .int .i64 k/\Hid (∀j,j<k->nth l j ≠ v)/\wr=w) (λi _=>n - (intOf i).toNat);case atStart=>exact ⟨0,EL _,rfl,λj hj=>by omega,rfl⟩
 case round =>
  obtain ⟨k,hk,rfl,hno,rfl⟩:=hrel
  by_cases hlt : k<n
  ·have c1:=h.cell k hlt
   by_cases he : nth l k=v
   ·have he' : (v == nth l k)=true:=by rw [he];simp
    have Hm : Hid (v ∈ l):=by show v ∈ l;rw [<- he];exact aO (by rw [Hl.out];exact hlt)
    clear he
    go_wp2_with fail
    go_ret
    exact ⟨k,rfl,⟨λ_=>Hm.out,λ_=>Int.natCast_nonneg _⟩,rfl⟩
   ·have he' : (v == nth l k)=false:=by simpa using λe=>he e.symm
    have Hn2 : Hid (∀j,j<k+1->nth l j ≠ v):=λj hj=>by
     by_cases e : j=k
     ·subst e;exact he
     ·exact hno.out j (by omega)
    clear he
    go_wp2_with fail
    go_roundw
    case rel=>exact ⟨k+1,by omega,by go_num,Hn2.out,by simp⟩
    case measure=>simp [intOf] <;> omega
  ·obtain rfl : k=n:=by omega
   have Hm : Hid (¬ v ∈ l):=λhm=>by obtain ⟨j,hj,e⟩:=List.mem_iff_getElem.1 hm;rw [<- ai hj] at e;exact hno.out j (by have:=Hl.out;omega) e
   go_wp2_with fail
   go_ret
   exact ⟨-1,rfl,⟨λh=>absurd h (by omega),λh=>absurd h Hm.out⟩,rfl⟩
theorem bJ (a : OA) (n c : Nat) (l : LI) (v : Int) (w : World) (h : Ints w a n l) :
  Calls prog 58 #[.slice a n c,.int .i64 v] w λe w'=>e = .returned (.bool (decide (v ∈ l)))/\w'=w:=by
 go_enter func58,ntmps58;go_wp2_with fail;refine (yD a n c l v w h).mono ?_;rintro e w1 ⟨z,rfl,hz,rfl⟩;by_cases h0 : 0<=z
 ·have Hz : Hid (decide (v ∈ l)=true):=by show _=_;simpa using hz.1 h0
  have h0' : decide (0<=z)=true:=by simpa using h0
  clear hz h0;go_wp2_with fail;go_ret;exact ⟨bj Hz.out.symm,rfl⟩
 ·have Hz : Hid (decide (v ∈ l)=false):=by show _=_;simpa using λh=>h0 (hz.2 h)
  have h0' : decide (0<=z)=false:=by simpa using h0
  clear hz h0;go_wp2_with fail;go_ret;exact ⟨bj Hz.out.symm,rfl⟩
def iI (G : cC) (L : LL) (m : Nat) : LL:=dM G (ek G.ops m (dM G L m) (dD G L m) m) m
def xP (G : cC) (L : LL) (m : Nat) (w : World) (e : Ending) (w' : World) : Prop :=
 ∃a c,e = .returned (.tuple #[.agg #[.int .i64 m,.slice a (iI G L m).length c],.int .i64 0])/\bX w.heap.size w' a (iI G L m).length (iI G L m)/\JA w w'
theorem AA (P : LI) : ∀k,(gr P k).length<=k
 | 0=>EF _
 | k+1=>by have:=AA P k;rw [gr];split <;> simp <;> omega
def xC (P M : Int) (mod : LI) (w : World) (e : Ending) (w' : World) : Prop :=
 ∃a c,e = .returned (.agg #[.int .i64 P,.int .i64 M,.slice a mod.length c])/\cQ w.heap.size w' a mod.length mod/\JA w w'
theorem Cw (P M : Int) (am : OA) (mn cm : Nat) (mod : LI) (w : World) (hmod : Ints w am mn mod) (hmn : mn<=1000000) :
  Calls prog 193 #[.agg #[.int .i64 P,.int .i64 M,.slice am mn cm]] w (xC P M mod w):=by
 go_enter func193,ntmps193;go_wp2_with fail;obtain ⟨W,hW⟩ : ∃W : World,W=(w.alloc (.cells #[.int .i64 P,.int .i64 M,.slice am mn cm] 24)).alloc (.cells #[.int .i64 0,.int .i64 0,.slice none 0 0] 24):=⟨_,rfl⟩
 rw [<- hW];have hbW : JA w W:=by rw [hW];exact fI _ _ _
 have hsW : W.heap.size=w.heap.size+2:=by rw [hW];simp
 have x0 : ba W w.heap.size [.int .i64 P,.int .i64 M,.slice am mn cm]:=by rw [hW];exact (Ja _ _ _ rfl).alloc _
 have y0 : ba W (w.heap.size+1) [.int .i64 0,.int .i64 0,.slice none 0 0]:=by rw [hW];exact Ja _ _ _ (by simp)
 clear hW;refine (dI am mn cm mod (hmod.aa hbW) hmn).mono ?_;rintro e w1 ⟨a1,c1,rfl,hown1,hb1⟩;have x1:=x0.aa hb1;have y1:=y0.aa hb1;have d0:=x1.cell 0 rfl;have d1:=x1.cell 1 rfl;have d2:=x1.cell 2 rfl;have e0:=y1.cell 0 rfl;have e1:=y1.cell 1 rfl;have e2:=y1.cell 2 rfl;have fx:=x1.frozen 2;have f0:=y1.frozen 0;have f1:=y1.frozen 1;have f2:=y1.frozen 2;have hbw1:=I8 hbW hb1;have hl:=Z5 (cQ.own hown1);have hN : cQ w.heap.size ((((w1.setCell ⟨w.heap.size,2,none⟩ (.slice a1 mod.length c1)).setCell ⟨w.heap.size+1,0,none⟩ (.int .i64 P)).setCell ⟨w.heap.size+1,1,none⟩ (.int .i64 M)).setCell ⟨w.heap.size+1,2,none⟩ (.slice a1 mod.length c1)) a1 mod.length mod :=
  ((((hl.out.setCell (p:=⟨w.heap.size,2,none⟩) (by simp;omega) _).setCell (p:=⟨w.heap.size+1,0,none⟩) (by simp;omega) _).setCell (p:=⟨w.heap.size+1,1,none⟩) (by simp;omega) _).setCell (p:=⟨w.heap.size+1,2,none⟩) (by simp;omega) _).mono (by omega)
 have hB : JA w ((((w1.setCell ⟨w.heap.size,2,none⟩ (.slice a1 mod.length c1)).setCell ⟨w.heap.size+1,0,none⟩ (.int .i64 P)).setCell ⟨w.heap.size+1,1,none⟩ (.int .i64 M)).setCell ⟨w.heap.size+1,2,none⟩ (.slice a1 mod.length c1)) :=
  (((hbw1.setCell (p:=⟨w.heap.size,2,none⟩) (by simp) _).setCell (p:=⟨w.heap.size+1,0,none⟩) (by simp) _).setCell (p:=⟨w.heap.size+1,1,none⟩) (by simp) _).setCell (p:=⟨w.heap.size+1,2,none⟩) (by simp) _
 have HF:=Z5 (E6 hN hB);clear hN hB hown1 hl x0 y0 hbw1;go_wp2_with fail;exact bodyPost_ret (v:=.agg #[.int .i64 P,.int .i64 M,.slice a1 mod.length c1]) (by simp [results,results193,go_sem,e0,e1,e2]) rfl ⟨a1,c1,rfl,HF.out.1,HF.out.2⟩
def wq (P M : Int) (mod : LI) (m : Int) (a : OA) (k c : Nat) (w : World) (e : Ending) (w' : World) : Prop :=
 ∃a1 c1,e = .returned (.tuple #[.agg #[.int .i64 P,.int .i64 M,.slice a1 mod.length c1,.int .i64 m,.slice a k c],.int .i64 0])/\cQ w.heap.size w' a1 mod.length mod/\JA w w'
theorem CO (P M : Int) (am : OA) (mn cm : Nat) (mod : LI) (m : Int) (a : OA) (k c : Nat) (w : World) (hmod : Ints w am mn mod) (hmn : mn<=1000000) :
  Calls prog 134 #[.agg #[.int .i64 P,.int .i64 M,.slice am mn cm],.agg #[.int .i64 m,.slice a k c],.int .i64 0] w (wq P M mod m a k c w):=by
 go_enter func134,ntmps134;go_wp2_with fail;obtain ⟨W,hW⟩ : ∃W : World,W=((w.alloc (.cells #[.int .i64 P,.int .i64 M,.slice am mn cm] 24)).alloc (.cells #[.int .i64 m,.slice a k c] 87)).alloc (.cells #[.int .i64 0,.int .i64 0,.slice none 0 0,.int .i64 0,.slice none 0 0] 27):=⟨_,rfl⟩
 rw [<- hW];have hbW : JA w W:=by rw [hW];exact ph _ _ _ _
 have hsW : W.heap.size=w.heap.size+3:=by rw [hW];simp
 have x0 : ba W w.heap.size [.int .i64 P,.int .i64 M,.slice am mn cm]:=by rw [hW];exact ((Ja _ _ _ rfl).alloc _).alloc _
 have y0 : ba W (w.heap.size+1) [.int .i64 m,.slice a k c]:=by rw [hW];exact (Ja _ _ _ (by simp)).alloc _
 have z0 : ba W (w.heap.size+1+1) [.int .i64 0,.int .i64 0,.slice none 0 0,.int .i64 0,.slice none 0 0]:=by rw [hW];exact Ja _ _ _ (by simp)
 have Hown : Hid (∀V,JA W V->Calls prog 193 #[.agg #[.int .i64 P,.int .i64 M,.slice am mn cm]] V (xC P M mod V)):=λV hV=>Cw P M am mn cm mod V (hmod.aa (I8 hbW hV)) hmn;have hS : ∀V,JA W V->V.cell? ⟨w.heap.size,0,none⟩=some (.int .i64 P)/\V.cell? ⟨w.heap.size,1,none⟩=some (.int .i64 M)/\V.cell? ⟨w.heap.size,2,none⟩=some (.slice am mn cm)/\V.cell? ⟨w.heap.size+1,0,none⟩=some (.int .i64 m)/\V.cell? ⟨w.heap.size+1,1,none⟩=some (.slice a k c) /\
   ba V (w.heap.size+1+1) [.int .i64 0,.int .i64 0,.slice none 0 0,.int .i64 0,.slice none 0 0]:=λV hV=>by have x1:=x0.aa hV;have y1:=y0.aa hV;exact ⟨x1.cell 0 rfl,x1.cell 1 rfl,x1.cell 2 rfl,y1.cell 0 rfl,y1.cell 1 rfl,z0.aa hV⟩
 have HS:=Z5 hS;have HbW:=Z5 hbW;have HsW:=Z5 hsW;obtain ⟨c0,c1,c2,c3,c4,_⟩:=HS.out W (EI _ _);have HP : Hid (∀(w4 : World) (a4 : OA) (c4' : Nat),cQ W.drew.heap.size w4 a4 mod.length mod->Below W.drew.heap.size W.drew w4 ->
   wq P M mod m a k c w (.returned (.tuple #[.agg #[.int .i64 P,.int .i64 M,.slice a4 mod.length c4',.int .i64 m,.slice a k c],.int .i64 0]))
    (((((w4.setCell ⟨w.heap.size+1+1,0,none⟩ (.int .i64 P)).setCell ⟨w.heap.size+1+1,1,none⟩ (.int .i64 M)).setCell ⟨w.heap.size+1+1,2,none⟩ (.slice a4 mod.length c4')).setCell ⟨w.heap.size+1+1,3,none⟩ (.int .i64 m)).setCell ⟨w.heap.size+1+1,4,none⟩ (.slice a k c))):=λw4 a4 c4' h1 h2=>by
  have h1' : cQ W.heap.size w4 a4 mod.length mod:=h1;have hb:=I8 hbW (I8 (EI _ _).drew h2);have hs:=HsW.out;refine ⟨a4,c4',rfl,?_,?_⟩
  ·exact (((((h1'.setCell (p:=⟨w.heap.size+1+1,0,none⟩) (by simp;omega) _).setCell (p:=⟨w.heap.size+1+1,1,none⟩) (by simp;omega) _).setCell (p:=⟨w.heap.size+1+1,2,none⟩) (by simp;omega) _).setCell (p:=⟨w.heap.size+1+1,3,none⟩) (by simp;omega) _).setCell (p:=⟨w.heap.size+1+1,4,none⟩) (by simp;omega) _).mono (by omega)
  ·exact ((((hb.setCell (p:=⟨w.heap.size+1+1,0,none⟩) (by simp;omega) _).setCell (p:=⟨w.heap.size+1+1,1,none⟩) (by simp;omega) _).setCell (p:=⟨w.heap.size+1+1,2,none⟩) (by simp;omega) _).setCell (p:=⟨w.heap.size+1+1,3,none⟩) (by simp;omega) _).setCell (p:=⟨w.heap.size+1+1,4,none⟩) (by simp;omega) _
 clear hW x0 y0 z0 hS hmod hbW hsW;go_wp2_with fail;go_region_law (
  (go_simp;go_at_call 193;((with_reducible refine (Hown.out _ (EI _ _).drew).mono ?_);rintro e w4 ⟨a4,c4',rfl,hN4,hb4⟩;obtain ⟨c0,c1,c2,c3,c4,zz⟩:=HS.out w4 (I8 (EI _ _).drew hb4);have z0:=zz.cell 0 rfl;have z1:=zz.cell 1 rfl;have z2:=zz.cell 2 rfl;have z3:=zz.cell 3 rfl;have z4:=zz.cell 4 rfl;have f0:=zz.frozen 0;have f1:=zz.frozen 1;have f2:=zz.frozen 2;have f3:=zz.frozen 3;have f4:=zz.frozen 4)))
 all_goals (
  have HP4:=Z5 (HP.out w4 a4 c4' hN4 hb4)
  clear hN4 hb4 Hown HS HP
  go_wp2_with fail
  exact bodyPost_ret (v:=.tuple #[.agg #[.int .i64 P,.int .i64 M,.slice a4 mod.length c4',.int .i64 m,.slice a k c],.int .i64 0]) (by simp [results,results134,go_sem,z0,z1,z2,z3,z4]) rfl HP4.out)
theorem BY {P M : Int} {mod : LI} (h : bA P M mod=true) : mod.length<=8:=by
 unfold bA bL at h;simp only [EW,bne_iff_ne,ne_eq] at h;obtain ⟨⟨⟨h1,_⟩,h3⟩,_⟩:=h;have h2:=gJ h1;by_cases hM : M=1
 ·rw [EH hM] at h3;have : mod.length=0:=by simpa using h3
  omega
 ·rw [EG hM] at h3;simp only [EW,E3] at h3;omega
section
variable {f : Nat->Int} {N : Nat} (hf : ∀y,f y<=N)
include hf
end

section
variable {O : aL} {El : Int->Prop} {m : Nat}
end
section
variable {P M : Int} {mod : LI} {m : Nat} {L : LL} {Q : LI}
end
section
variable {m : Nat} {Q : LI}
end
def n7 (P M : Int) (mod : LI) (m : Nat) (L : LL) (w : World) (e : Ending) (w' : World) : Prop :=
 ∃a1 c1 a2 c2,e = .returned (.tuple #[.agg #[.int .i64 P,.int .i64 M,.slice a1 mod.length c1,.int .i64 m,.slice a2 (dM (an P M.toNat mod) L m).length c2],.int .i64 0])/\cQ w.heap.size w' a1 mod.length mod /\
  bX w.heap.size w' a2 (dM (an P M.toNat mod) L m).length (dM (an P M.toNat mod) L m)/\JA w w'
theorem uV (P M : Int) (am : OA) (mn cm : Nat) (mod : LI) (m : Nat) (a : OA) (n c : Nat) (L : LL) (w : World) (hmod : Ints w am mn mod) (hi : bY w a n L)
  (hE : dC P M mod m L=0) (hm1 : 1<=m) (hm64 : m<=64) (hmn : mn<=1000000) :
  Calls prog 64 #[.agg #[.int .i64 P,.int .i64 M,.slice am mn cm],.agg #[.int .i64 m,.slice a n c]] w (n7 P M mod m L w):=by
 go_enter func64,ntmps64;go_upto_region 1 with fail;obtain ⟨W,hW⟩ : ∃W : World,W=((w.alloc (.cells #[.int .i64 P,.int .i64 M,.slice am mn cm] 24)).alloc (.cells #[.int .i64 m,.slice a n c] 87)).alloc (.cells #[.int .i64 0,.int .i64 0,.slice none 0 0,.int .i64 0,.slice none 0 0] 27):=⟨_,rfl⟩
 rw [<- hW];have hbW : JA w W:=by rw [hW];exact ph _ _ _ _
 have hsW : W.heap.size=w.heap.size+3:=by rw [hW];simp
 have x0 : ba W w.heap.size [.int .i64 P,.int .i64 M,.slice am mn cm]:=by rw [hW];exact ((Ja _ _ _ rfl).alloc _).alloc _
 have y0 : ba W (w.heap.size+1) [.int .i64 m,.slice a n c]:=by rw [hW];exact (Ja _ _ _ (by simp)).alloc _
 have z0 : ba W (w.heap.size+1+1) [.int .i64 0,.int .i64 0,.slice none 0 0,.int .i64 0,.slice none 0 0]:=by rw [hW];exact Ja _ _ _ (by simp)
 clear hW;have HC : Hid (Calls prog 133 #[.agg #[.int .i64 P,.int .i64 M,.slice am mn cm],.agg #[.int .i64 m,.slice a n c]] W λe w'=>JA W w'/\∃a2 c2 ap cp,e = .returned (.tuple #[.agg #[.int .i64 m,.slice a2 (dM (an P M.toNat mod) L m).length c2],.slice ap (dM (an P M.toNat mod) L m).length cp,.int .i64 0]) /\
   bX W.heap.size w' a2 (dM (an P M.toNat mod) L m).length (dM (an P M.toNat mod) L m)):=by
  refine (iO P M am mn cm mod m a n c L W (hmod.aa hbW) (hi.aa hbW)).mono ?_;rintro e w1 ⟨hb1,⟨h0,_⟩ | ⟨_,m',hm',a1,c1,ap,cp,rfl,hN1,_⟩⟩
  ·exact absurd hE h0
  ·obtain rfl : m=m':=by omega
   rw [<- fR] at hN1 ⊢;exact ⟨hb1,a1,c1,ap,cp,rfl,hN1⟩
 have HO : Hid (∀V a5 k5 c5,JA W V->Calls prog 134 #[.agg #[.int .i64 P,.int .i64 M,.slice am mn cm],.agg #[.int .i64 m,.slice a5 k5 c5],.int .i64 0] V (wq P M mod m a5 k5 c5 V)):=λV a5 k5 c5 hV =>
  CO P M am mn cm mod m a5 k5 c5 V (hmod.aa (I8 hbW hV)) hmn
 have HPost : Hid (∀a1 c1 a2 c2 w',cQ w.heap.size w' a1 mod.length mod->bX w.heap.size w' a2 (dM (an P M.toNat mod) L m).length (dM (an P M.toNat mod) L m)->JA w w' ->
   n7 P M mod m L w (.returned (.tuple #[.agg #[.int .i64 P,.int .i64 M,.slice a1 mod.length c1,.int .i64 m,.slice a2 (dM (an P M.toNat mod) L m).length c2],.int .i64 0])) w'):=λa1 c1 a2 c2 w' h1 h2 h3=>⟨a1,c1,a2,c2,rfl,h1,h2,h3⟩
 have Hle : Hid (gY (m : Int)=0):=xa (by omega) (by omega);obtain ⟨KM,hKM⟩ : ∃KM,dM (an P M.toNat mod) L m=KM:=⟨_,rfl⟩
 rw [hKM] at HC HPost;have hS : ∀V,JA W V->V.cell? ⟨w.heap.size,0,none⟩=some (.int .i64 P)/\V.cell? ⟨w.heap.size,1,none⟩=some (.int .i64 M)/\V.cell? ⟨w.heap.size,2,none⟩=some (.slice am mn cm)/\V.cell? ⟨w.heap.size+1,0,none⟩=some (.int .i64 m)/\V.cell? ⟨w.heap.size+1,1,none⟩=some (.slice a n c) /\
   ba V (w.heap.size+1+1) [.int .i64 0,.int .i64 0,.slice none 0 0,.int .i64 0,.slice none 0 0]:=λV hV=>by have x1:=x0.aa hV;have y1:=y0.aa hV;exact ⟨x1.cell 0 rfl,x1.cell 1 rfl,x1.cell 2 rfl,y1.cell 0 rfl,y1.cell 1 rfl,z0.aa hV⟩
 have HS:=Z5 hS;have HbW:=Z5 hbW;have HsW:=Z5 hsW;obtain ⟨q,hq⟩ : ∃q,KM.length=q:=⟨_,rfl⟩
 rw [hq] at HC HPost;clear hE hKM hS x0 y0 z0 hbW hsW hmod hi hq;go_cut [6,7,8] (λv6 v7 v8 wx=>∃g a5 c5,v6 = .pointer (some ⟨g,0,none⟩)/\v8 = .int .i64 0/\wx.cell? ⟨g,0,none⟩=some (.int .i64 m)/\wx.cell? ⟨g,1,none⟩=some (.slice a5 q c5)/\bX W.heap.size wx a5 q KM/\JA W wx);case first =>
  obtain ⟨c0,c1,c2,c3,c4,_⟩:=HS.out W (EI _ _)
  go_wp2_with fail
  refine HC.out.mono ?_
  rintro e w1 ⟨hb1,a5,c5,ap,cp,rfl,hN5⟩
  clear c0 c1 c2 c3 c4
  go_wp2_with fail
  go_meet
  exact ⟨w1.heap.size,a5,c5,rfl,rfl,aC _ _ _ rfl 0,aC _ _ _ rfl 1,hN5.aa (aA _ _),I8 hb1 (aA _ _)⟩
 obtain ⟨g,a5,c5,rfl,rfl,g0,g1,hN5,hb5⟩:=hcut;generalize wc=V at *;obtain ⟨c0,c1,c2,c3,c4,zz⟩:=HS.out V hb5;have HOV:=Z5 (HO.out V a5 q c5 hb5);clear HC HO;go_wp2_with fail;refine (n9 m V).mono ?_;rintro e w5 ⟨rfl,rfl⟩;rw [Hle.out];go_wp2_with fail;refine HOV.out.mono ?_;rintro e w6 ⟨a6,c6,rfl,hN6,hb6⟩;obtain ⟨_,_,_,_,_,zz6⟩:=HS.out w6 (I8 hb5 hb6);have z0:=zz6.cell 0 rfl;have z1:=zz6.cell 1 rfl;have z2:=zz6.cell 2 rfl;have z3:=zz6.cell 3 rfl;have z4:=zz6.cell 4 rfl;have f0:=zz6.frozen 0;have f1:=zz6.frozen 1;have f2:=zz6.frozen 2;have f3:=zz6.frozen 3;have f4:=zz6.frozen 4;have hbF:=I8 HbW.out (I8 hb5 hb6);have hs:=HsW.out;have hs2:=hb5.size;have hM6:=hN5.aa hb6;have hFin:=HPost.out a6 c6 a5 c5 (((((w6.setCell ⟨w.heap.size+1+1,0,none⟩ (.int .i64 P)).setCell ⟨w.heap.size+1+1,1,none⟩ (.int .i64 M)).setCell ⟨w.heap.size+1+1,2,none⟩ (.slice a6 mod.length c6)).setCell ⟨w.heap.size+1+1,3,none⟩ (.int .i64 m)).setCell ⟨w.heap.size+1+1,4,none⟩ (.slice a5 q c5))
  ((((((hN6.setCell (p:=⟨w.heap.size+1+1,0,none⟩) (by simp;omega) _).setCell (p:=⟨w.heap.size+1+1,1,none⟩) (by simp;omega) _).setCell (p:=⟨w.heap.size+1+1,2,none⟩) (by simp;omega) _).setCell (p:=⟨w.heap.size+1+1,3,none⟩) (by simp;omega) _).setCell (p:=⟨w.heap.size+1+1,4,none⟩) (by simp;omega) _).mono (by omega))
  ((((((hM6.setCell (p:=⟨w.heap.size+1+1,0,none⟩) (by simp;omega) _).setCell (p:=⟨w.heap.size+1+1,1,none⟩) (by simp;omega) _).setCell (p:=⟨w.heap.size+1+1,2,none⟩) (by simp;omega) _).setCell (p:=⟨w.heap.size+1+1,3,none⟩) (by simp;omega) _).setCell (p:=⟨w.heap.size+1+1,4,none⟩) (by simp;omega) _).mono (by omega))
  (((((hbF.setCell (p:=⟨w.heap.size+1+1,0,none⟩) (by simp;omega) _).setCell (p:=⟨w.heap.size+1+1,1,none⟩) (by simp;omega) _).setCell (p:=⟨w.heap.size+1+1,2,none⟩) (by simp;omega) _).setCell (p:=⟨w.heap.size+1+1,3,none⟩) (by simp;omega) _).setCell (p:=⟨w.heap.size+1+1,4,none⟩) (by simp;omega) _)
 have HFin:=Z5 hFin;clear hFin hM6 hN5 hN6 HOV zz zz6;go_wp2_with fail;exact bodyPost_ret (v:=.tuple #[.agg #[.int .i64 P,.int .i64 M,.slice a6 mod.length c6,.int .i64 m,.slice a5 q c5],.int .i64 0]) (by simp [results,results64,go_sem,z0,z1,z2,z3,z4]) rfl HFin.out
section
variable {O : aL} {El : Int->Prop} {m : Nat} {R : LL} {P : LI}
def da (O : aL) (m : Nat) (x : LI) (L : LL) : Nat->LI
 | 0=>List.replicate m 0
 | k+1=>if nth x k=0 then da O m x L k else cw O (da O m x L k) (nth x k) (af L k)
theorem RS.add (F : bU O El) {L : LL} {f g : Nat->Int} (hL : bx El m L) (hf : RS O El m L f) (hg : RS O El m L g) {s : Int} (hs : El s) : RS O El m L (λx=>O.add (f x) (O.mul (g x) s)):=by
 refine (hf.comb F hg (F.cl.neg s hs)).congr λx hx=>?_;obtain ⟨e,he,h⟩:=hg;have hgx : El (g x):=by rw [h x hx];exact he.el _ (cA hL F.zero x)
 rw [F.mul_neg hgx hs,F.neg_neg (F.cl.mul _ _ hgx hs)]
theorem jR (F : bU O El) {L : LL} (hL : bx El m L) {x : LI} (hx : ∀k,k<L.length->El (nth x k)) : ∀k,k<=L.length->Vc El m (da O m x L k)/\RS O El m L (λi=>nth (da O m x L k) i)
 | 0,_=>by
  have h0 : ∀i,nth (List.replicate m (0 : Int)) i=0:=λi=>by unfold nth;simp only [EJ,E9];split <;> rfl
  exact ⟨⟨by simp [da],λy hy=>by rw [FM hy];exact F.zero⟩,RS.Cv F λi _=>h0 i⟩
 | k+1,hk=>by
  obtain ⟨h1,h2⟩:=jR F hL hx k (by omega);have hr:=hL.row (i:=k) (by omega);have hs:=hx k (by omega);rw [da];split
  ·exact ⟨h1,h2⟩
  ·have hl : (af L k).length=(da O m x L k).length:=by rw [hr.1,h1.1]
   refine ⟨⟨by rw [dT _ _ _ _ hl];exact h1.1,qq F.cl h1.2 hr.2 hs⟩,(RS.add F hL h2 (.row F (i:=k) (by omega)) hs).congr λi hi=>?_⟩;have hri : El (nth (af L k) i):=Jd hr hi;rw [gM O _ _ _ i hl (by rw [h1.1];exact hi)];split
   ·rename_i e0;rw [e0,F.jh hs,F.add_zero _ (h1.at hi)]
   ·rw [F.mul_comm _ _ hs hri]
theorem RS.pick {L : LL} {w Q : LI} (hQ : Q.length=m) (hI : xz m Q) (h : RS O El m L (λx=>nth w x)) : RS O El m (L.map (bK Q)) (λx=>nth (bK Q w) x):=by
 obtain ⟨e,he,h⟩:=h;refine ⟨e,by rw [Fo];exact he,λx hx=>?_⟩;have hq:=hI x (by omega);have hcol : aQ (L.map (bK Q)) x=aQ L (nth Q x).toNat:=by unfold aQ;rw [List.map_map];exact GV λr _=>j5 Q r (by omega)
 show nth (bK Q w) x=_;rw [j5 Q w (by omega),hcol];exact h _ (by omega)
end
section
def gg (n k : Nat) : LI:=(List.replicate n 0).set k 1
theorem zh (n k : Nat) : (gg n k).length=n:=by simp [gg]
variable {w : World} {b : Nat} {G : cC}
theorem Cb (ax : OA) (cx : Nat) (x : LI) (a : OA) (n c : Nat) (L : LL) (cols : Nat) (h : dY w b G) (F : bU G.ops G.El) (hx : Ints w ax n x) (hi : bY w a n L) (hxe : ∀k,k<n->G.El (nth x k)) (hR : bx G.El cols L) (hc1 : 1<=cols) (hc : cols<=1000000) (hn : n<=1000000) :
  Calls prog 173 #[.pointer (some ⟨b,0,none⟩),.slice ax n cx,.slice a n c,.int .i64 cols] w λe w' =>
   ∃a1 c1,e = .returned (.slice a1 cols c1)/\w'.ownsRow w.heap.size 3 1 (.slice a1 cols c1) cols ((da G.ops cols x L n).map (Value.int .i64))/\JA w w':=by
 have Hil:=Z5 hi.len;have hplx:=hx.pl;have hpla:=hi.pl;have hcm:=jR F hR (x:=x) (by rw [hi.len];exact hxe);have Hcm:=Z5 hcm;have HR:=Z5 hR;have hz : (da G.ops cols x L 0).map (Value.int .i64)=List.replicate cols (Value.int .i64 0):=by simp [da]
 have Hz:=Z5 hz;clear hcm hR hz F;go_enter func173,ntmps173;go_wp2_with (at_make;refine bZ rfl _ _ 22 3 rfl (.int .i64 0) 8 underlying22 bh rfl cols rfl rfl (by omega) (by unfold maxLen;omega) ?_;intro a5 w5 hown hbel hge hlt);have hown0 : w5.ownsRow w.heap.size 3 1 (.slice a5 cols cols) cols ((da G.ops cols x L 0).map (Value.int .i64)):=by rw [Hz.out];exact hown
 clear hown hlt;go_loopw [16] (λiv wr=>∃k : Nat,k<=n/\iv = .int .i64 k/\wr.ownsRow w.heap.size 3 1 (.slice a5 cols cols) cols ((da G.ops cols x L k).map (Value.int .i64))/\JA w wr) (λiv _=>n - (intOf iv).toNat);case atStart=>exact ⟨0,EL _,rfl,hown0,hbel⟩
 case round =>
  clear hown0 hbel
  obtain ⟨k,hk,rfl,hown,hbr⟩:=hrel
  by_cases hlt : k<n
  ·have cxk:=(hx.aa hbr).cell k hlt
   have hrow:=HR.out.row (i:=k) (by rw [Hil.out];exact hlt)
   obtain ⟨ra,rn,rc,er0,ir0⟩:=hi.cell k hlt
   have hrn : rn=cols:=by rw [<- ir0.len];exact hrow.1
   rw [hrn] at er0 ir0
   have er:=aj hbr er0
   have hra : ah ra<w.heap.size:=EP w _ (ir0.cell 0 (by omega))
   clear hrn er0
   by_cases h0 : nth x k=0
   ·have h0' : (nth x k != 0)=false:=by simpa using h0
    have Hn : Hid (da G.ops cols x L (k+1)=da G.ops cols x L k):=by show _=_;rw [da,EH h0]
    clear h0
    go_wp2_with fail
    go_roundw
    case rel=>exact ⟨k+1,by omega,by go_num,by rw [Hn.out];exact hown,hbr⟩
    case measure=>simp [intOf] <;> omega
   ·have h0' : (nth x k != 0)=true:=by simpa using h0
    have Hn : Hid (da G.ops cols x L (k+1)=cw G.ops (da G.ops cols x L k) (nth x k) (af L k)):=by show _=_;rw [da,EG h0]
    have hvk:=(Hcm.out k (by rw [Hil.out];exact hk)).1
    have Ha:=Z5 (xk w a5 cols cols (da G.ops cols x L k) (nth x k) ra rc (af L k) h hbr hown (ir0.aa hbr) (.inr (.inr (by omega))) hvk.2 hrow.2 (hxe k hlt))
    clear h0 hown ir0 hrow hvk
    go_wp2_with fail
    refine Ha.out.mono ?_
    rintro e w4 ⟨rfl,hown4,honly⟩
    have hb4 : JA w w4:=hbr.trans (honly.below (λ_=>hge) hbr.size)
    go_wp2_with fail
    go_roundw
    case rel=>exact ⟨k+1,by omega,by go_num,by rw [Hn.out];exact hown4,hb4⟩
    case measure=>simp [intOf] <;> omega
  ·obtain rfl : k=n:=by omega
   have HF:=Z5 hown
   clear hown
   go_wp2_with fail
   go_ret
   exact ⟨a5,cols,rfl,HF.out,hbr⟩
end
section
open Go.RowKit
end

theorem xz.take {n : Nat} {Q : LI} (h : xz n Q) {i : Nat} (hi : i<=Q.length) : xz n (Q.take i):=λj hj=>by
 rw [Fg] at hj;have e : nth (Q.take i) j=nth Q j:=by unfold nth;simp only [EJ,FE];rw [EH (by omega)]
 rw [e];exact h j (by omega)
section
open Go.RowKit
end
theorem uz {P M : Int} {mod : LI} {m : Nat} {D : LL} (hfB : bA P M mod=true) (hm : m<=256) (hD : D.length<=256) (hR : bx (an P M.toNat mod).El m D) : dC P M mod m D=0:=by
 unfold dC;rw [EH hfB];unfold ed;rw [EG (by omega)];have hsh : gR (m : Int) D=true:=by unfold gR;rw [Fs];intro r hr;have:=(hR r hr).1;simp;omega
 rw [EG (by rw [hsh];decide),EH];rw [Fs];intro r hr;unfold jj gZ;rw [Fs];intro x hx;have:=(hR r hr).2 x hx;unfold cC.El at this;simp;exact this
section
open Go.RowKit
end
theorem tO {l : LI} {x : Int} {i : Nat} (h : i<l.length) : nth (l ++ [x]) i=nth l i:=by simp only [nth,EJ];rw [E2 h]
theorem A4 (l : LI) (x : Int) : nth (l ++ [x]) l.length=x:=by simp [nth]
theorem ux (l : LI) (x : Int) : ∀k,k<=l.length->pL (l ++ [x]) k=pL l k
 | 0,_=>rfl
 | k+1,h=>by rw [pL,pL,tO (by omega),ux l x k (by omega)]
theorem rD (l : LI) (x : Int) : pL (l ++ [x]) (l ++ [x]).length=x.toNat :: pL l l.length:=by rw [ER,E0,pL,A4,ux l x l.length (EF _)]
def gA (Q : LI) : LN:=pL Q Q.length
theorem xF (l : LI) (x : Int) : gA (l ++ [x])=x.toNat :: gA l:=rD l x
theorem kF {Q : LI} {x : Nat} : x ∈ gA Q ↔ ∃y ∈ Q,y.toNat=x:=by
 unfold gA;rw [jd];constructor
 ·rintro ⟨j,hj,e⟩;exact ⟨nth Q j,aO hj,e⟩
 ·rintro ⟨y,hy,e⟩;obtain ⟨j,hj,rfl⟩:=List.mem_iff_getElem.1 hy;exact ⟨j,hj,by rw [ai hj];exact e⟩
section
variable {O : aL} {El : Int->Prop} {m : Nat} {L : LL}
def lC (O : aL) (L : LL) (Q : LI) : Nat:=(mz O L Q).length
theorem kE (F : bU O El) (hL : bx El m L) (Q : LI) : Rk (lQ O El L.length (aQ L)) (gA Q) (lC O L Q):=Dk F hL Q
theorem Aa (F : bU O El) (hL : bx El m L) {Q Q' : LI} (h : ∀x ∈ gA Q,lQ O El L.length (aQ L) (gA Q') x) : lC O L Q<=lC O L Q':=Rk.le (lE F hL) (kE F hL Q) (kE F hL Q') h
end
def aP (b : Bool) (U : LI) : Nat->LI
 | 0=>[]
 | k+1=>if decide ((k : Int) ∈ U)=b then aP b U k ++ [(k : Int)] else aP b U k
theorem eo {b : Bool} {U : LI} {x : Int} : ∀k,x ∈ aP b U k ↔ ∃j : Nat,j<k/\x=j/\decide ((j : Int) ∈ U)=b
 | 0=>by simp [aP]
 | k+1=>by
  rw [aP];by_cases h : decide ((k : Int) ∈ U)=b
  ·rw [EH h,FH,eo k,Fw];constructor
   ·rintro (⟨j,hj,e,hb⟩ | e)
    ·exact ⟨j,by omega,e,hb⟩
    ·exact ⟨k,by omega,e,h⟩
   ·rintro ⟨j,hj,e,hb⟩;by_cases ejk : j=k
    ·subst ejk;exact .inr e
    ·exact .inl ⟨j,by omega,e,hb⟩
  ·rw [EG h,eo k];constructor
   ·rintro ⟨j,hj,e,hb⟩;exact ⟨j,by omega,e,hb⟩
   ·rintro ⟨j,hj,e,hb⟩;by_cases ejk : j=k
    ·subst ejk;exact absurd hb h
    ·exact ⟨j,by omega,e,hb⟩
theorem fB (b : Bool) (U : LI) : ∀k,(aP b U k).length<=k
 | 0=>EF _
 | k+1=>by have:=fB b U k;rw [aP];split <;> simp <;> omega
theorem og (O : aL) (L : LL) (Q : LI) : ∀k,k<=Q.length->∀x ∈ (dy O L Q k).2,x ∈ Q
 | 0,_,x,hx=>by simp [dy] at hx
 | k+1,hk,x,hx=>by
  rw [dy] at hx;split at hx
  ·rcases List.mem_append.1 hx with hx | hx
   ·exact og O L Q k (by omega) x hx
   ·rw [Fw] at hx;rw [hx];exact aO (by omega)
  ·exact og O L Q k (by omega) x hx
section
open Go.RowKit
end
theorem EC.set {m : Nat} {A : LI} (hA : ∀k,k<A.length->0<=nth A k/\nth A k<m) {t : Nat} (ht : t<A.length) {j : Int} (hj : 0<=j/\j<m) : ∀k,k<A.length->0<=nth (A.set t j) k/\nth (A.set t j) k<m:=λk hk=>by
 rw [cX _ _ _ _ ht];split
 ·exact hj
 ·exact hA k hk
section
open Go.RowKit
end
section
variable {O : aL} {k : Nat}
end
section
variable {O : aL} {El : Int->Prop} {m : Nat}
end
end Go.Proofs.YtjfiflldinnhmaaGreat
