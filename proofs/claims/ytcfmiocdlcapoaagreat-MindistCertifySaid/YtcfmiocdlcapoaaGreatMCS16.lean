import Derived.Test.YtcfmiocdlcapoaaGreatMCS15
namespace Go.Proofs.YtcfmiocdlcapoaaGreat
set_option linter.all false
set_option maxRecDepth 100000
set_option maxHeartbeats 4000000
open Go.RowKit Go.Proofs.Tryz
section
variable {P : Int} {M : Nat} {mod : Lz} {q : Nat} {x : Int}
theorem zM (h : ku P M) (hx : e9 P M x) : pw P M mod x 1=x:=by show dj P M mod (pw P M mod x 0) x=x;rw [pw,gV h hx]
theorem Gs (h : ku P M) (hx : e9 P M x) : pw P M mod x 2=dj P M mod x x:=by show dj P M mod (pw P M mod x 1) x=_;rw [zM h hx]
theorem Gd (h : ku P M) (hx : e9 P M x) : ∀k,pw P M mod (dj P M mod x x) k=pw P M mod x (2 * k)
 | 0=>rfl
 | k+1=>by rw [pw,Gd h hx k,<- Gs h hx,iA h];rfl
theorem zI (h : ku P M) : ∀(f n : Nat) (x : Int),e9 P M x->n<2 ^ f->G2 (dj P M mod) f x n=pw P M mod x n
 | 0,n,x,hx,hn=>by
  have : n=0:=by simpa using hn
  subst this;rfl
 | f+1,n,x,hx,hn=>by
  have ih:=zI h f (n / 2) (dj P M mod x x) (fE h x x) (by rw [Mg] at hn;omega);unfold G2;split
  ·rename_i h0;subst h0;rfl
  ·rw [ih,Gd h hx];split
   ·rename_i h1;have e : n=2 * (n / 2)+1:=by omega
    have e2 : pw P M mod x n=pw P M mod x (2 * (n / 2)+1):=congrArg _ e;rw [e2];rfl
   ·rename_i h1;have e : n=2 * (n / 2):=by omega
    exact (congrArg _ e).symm
structure Ord (P : Int) (M : Nat) (mod : Lz) (q : Nat) (x : Int) : Prop where
 one : pw P M mod x (q - 1)=1
 ne : ∀k,0<k->k<q - 1->pw P M mod x k ≠ 1
theorem A3 (h : ku P M) {a : Nat} (h1 : pw P M mod x a=1) : ∀n,pw P M mod x (a * n)=1
 | 0=>rfl
 | n+1=>by rw [Nat.mul_succ,<- iA h,A3 h h1 n,h1,gV h (uw h)]
theorem FM (h : ku P M) {a b : Nat} (ha : pw P M mod x a=1) (hb : pw P M mod x b=1) : pw P M mod x (a % b)=1:=by have e : a=b * (a / b)+a % b:=(Nat.div_add_mod a b).symm;rw [e,<- iA h,A3 h hb,gV h (sQ h x _)] at ha;exact ha
theorem GI (h : ku P M) : ∀(b a : Nat),pw P M mod x a=1->pw P M mod x b=1->pw P M mod x (Nat.gcd b a)=1:=by
 intro b;induction b using Nat.strongRecOn with
 | ind b ih =>
  intro a ha hb
  by_cases h0 : b=0
  ·subst h0;rw [Nat.gcd_zero_left];exact ha
  ·rw [Nat.gcd_rec]
   exact ih (a % b) (LP _ (by omega)) b hb (FM h ha hb)
theorem Ord.of (h : ku P M) (hx : e9 P M x) (hq : q<=256) (ho : wD (dj P M mod) q x=true) : Ord P M mod q x:=by
 unfold wD at ho;rw [Jo] at ho;obtain ⟨h1,h2⟩:=ho;have h1':=eq_of_beq h1;rw [zI h 8 _ x hx (by omega)] at h1';refine ⟨h1',λk hk0 hk1 hk=>?_⟩;have hg:=GI h k (q - 1) h1' hk;have hgd : Nat.gcd k (q - 1) ∣ q - 1:=MM _ _;have hgl : Nat.gcd k (q - 1)<=k:=Nat.gcd_le_left _ hk0;have hg0 : 0<Nat.gcd k (q - 1):=Nat.gcd_pos_of_pos_left _ hk0;have h3:=List.all_eq_true.1 h2 (Nat.gcd k (q - 1)) (List.mem_range.2 (by omega));have h4 : (q - 1) % Nat.gcd k (q - 1)=0:=Nat.mod_eq_zero_of_dvd hgd;simp only [Mj,beq_iff_eq,bne_iff_ne,ne_eq] at h3;rcases h3 with (h3 | h3) | h3
 ·omega
 ·exact h3 h4
 ·rw [zI h 8 _ x hx (by omega)] at h3;exact h3 hg
theorem Ord.nz (h : ku P M) (o : Ord P M mod q x) {k : Nat} (hk : k<q - 1) : pw P M mod x k ≠ 0:=by intro h0;have h1:=iA (mod:=mod) h x k (q - 1 - k);rw [h0,iW h,oc h,show k+(q - 1 - k)=q - 1 by omega,o.one] at h1;omega
theorem Ord.inj (h : ku P M) (o : Ord P M mod q x) {i j : Nat} (hij : i<j) (hj : j<q - 1) : pw P M mod x i ≠ pw P M mod x j:=by
 intro e;have h1:=iA (mod:=mod) h x i (q - 1 - i);have h2:=iA (mod:=mod) h x j (q - 1 - i);rw [show i+(q - 1 - i)=q - 1 by omega,o.one,e,h2] at h1;have h3 : pw P M mod x (j - i)=1:=by have h4:=iA (mod:=mod) h x (j - i) (q - 1);rw [o.one,iW h,gV h (sQ h x _),show j - i+(q - 1)=j+(q - 1 - i) by omega,h1] at h4;exact h4
 exact o.ne (j - i) (by omega) (by omega) h3
theorem p3 (h : ku P M) (hx : e9 P M x) (o : Ord P M mod q x) : ∀(n k : Nat),k<=q - 1->q - 1 - k<n->0<k ->
  iJ (λz=>dj P M mod z x) n ((List.range k).map λi=>pw P M mod x i) (pw P M mod x k)=(List.range (q - 1)).map λi=>pw P M mod x i
 | 0,k,_,hn,_=>by omega
 | n+1,k,hk,hn,h0=>by
  by_cases hke : k=q - 1
  ·subst hke;refine i6 _ _ _ _ (.inr ?_);rw [o.one,Lj];exact ⟨0,List.mem_range.2 h0,rfl⟩
  ·rw [rI]
   ·have e : (List.range k).map (λi=>pw P M mod x i) ++ [pw P M mod x k]=(List.range (k+1)).map λi=>pw P M mod x i:=by rw [Kz,JR];rfl
    rw [e];exact p3 h hx o n (k+1) (by omega) (by omega) (by omega)
   ·rintro (h1 | h1)
    ·exact o.nz h (by omega) h1
    ·obtain ⟨i,hi,e⟩:=List.mem_map.1 h1;exact o.inj h (List.mem_range.1 hi) (by omega) e
theorem Ord.fM (h : ku P M) (hx : e9 P M x) (hq : 2<=q) (o : Ord P M mod q x) : fM P M mod q x=true:=by
 have hl : eR P M mod q x=(List.range (q - 1)).map λi=>pw P M mod x i:=by
  by_cases h2 : q=2
  ·subst h2;have : x=1:=by have:=o.one;rwa [show 2 - 1=1 from rfl,zM h hx] at this
   subst this;rw [eR,i6 _ _ _ _ (.inr (by simp))];rfl
  ·have:=p3 h hx o q 1 (by omega) (by omega) (by omega);rw [zM h hx] at this;exact this
 unfold Proofs.YtcfmiocdlcapoaaGreat.fM;rw [hl,Jo];refine ⟨by simp,?_⟩;have e : nth ((List.range (q - 1)).map λi=>pw P M mod x i) (q - 2)=pw P M mod x (q - 2):=by rw [ai (by simp;omega)];simp
 rw [e];have : dj P M mod (pw P M mod x (q - 2)) x=pw P M mod x (q - 1):=by rw [show q - 1=(q - 2)+1 by omega];rfl
 rw [this,o.one];rfl
theorem qi : ∀(n x y : Nat),2<=q->x<=y->y<x+n->fM P M mod q y=true->kp P M mod q n x ≠ []
 | 0,x,y,_,h1,h2,_=>by omega
 | n+1,x,y,hq,h1,h2,hg=>by
  rw [kp];by_cases hx : fM P M mod q x=true
  ·rw [I6 hx];intro e;simp only [fM,Jo,beq_iff_eq] at hx;rw [e] at hx;simp at hx;omega
  ·rw [I5 hx];refine qi n (x+1) y hq ?_ (by omega) hg;rcases MA h1 with h3 | h3
   ·subst h3;exact absurd hg hx
   ·exact h3
theorem yg {ex : Lz} {y a b : Int} (g : sd P M mod q y ex) (ha : e9 P M a) (hb : e9 P M b) (ha0 : a ≠ 0) (hb0 : b ≠ 0) : dj P M mod a b ≠ 0:=by obtain ⟨i,_,rfl,_⟩:=g.log ha ha0;obtain ⟨j,_,rfl,_⟩:=g.log hb hb0;rw [iA g.res];exact g.G8 _
end
theorem Bv {P : Int} {M q : Nat} {l : List (Nat × Nat)} (h : eZ P M q l) {v : Nat} (hv : v<q) : ∃c,zK P M q v c=true:=⟨_,h v hv⟩
theorem Ii (p m : Nat) (hp : fT p=true) (h2 : 2<=p) (hm : 2<=m) (hm8 : m<=8) (hpw : (p : Int) ^ m<=256) : ∃l,eZ p m (((p : Int) ^ m).toNat) l:=by
 have hp16 : p<=16:=by
  have h1:=dE (P:=(p : Int)) (by omega) hm;have h3 : (p : Int) ^ 2=p * p:=by rw [JP,JP,KE,Ld]
  rcases JV 16 p with h4 | h4
  ·have h5 : 17 * 17<=p * p:=Mt h4 h4;have h6 : ((17 * 17 : Nat) : Int)<=((p * p : Nat) : Int):=Int.ofNat_le.2 h5;rw [Int.natCast_mul] at h6;omega
  ·exact h4
 have hc : p=2\/p=3\/p=4\/p=5\/p=6\/p=7\/p=8\/p=9\/p=10\/p=11\/p=12\/p=13\/p=14\/p=15\/p=16:=by omega
 have hd : m=2\/m=3\/m=4\/m=5\/m=6\/m=7\/m=8:=by omega
 rcases hc with rfl | rfl | rfl | rfl | rfl | rfl | rfl | rfl | rfl | rfl | rfl | rfl | rfl | rfl | rfl
 ·rcases hd with rfl | rfl | rfl | rfl | rfl | rfl | rfl
  ·exact ⟨_,Gi⟩
  ·exact ⟨_,Gl⟩
  ·exact ⟨_,Gp⟩
  ·exact ⟨_,Gh⟩
  ·exact ⟨_,GQ⟩
  ·exact ⟨_,Gv⟩
  ·exact ⟨_,Gz⟩
 ·rcases hd with rfl | rfl | rfl | rfl | rfl | rfl | rfl
  ·exact ⟨_,Gy⟩
  ·exact ⟨_,Gt⟩
  ·exact ⟨_,Gw⟩
  ·exact ⟨_,G0⟩
  ·exact absurd hpw (by decide)
  ·exact absurd hpw (by decide)
  ·exact absurd hpw (by decide)
 ·exact absurd hp (by decide)
 ·rcases hd with rfl | rfl | rfl | rfl | rfl | rfl | rfl
  ·exact ⟨_,GG⟩
  ·exact ⟨_,GA⟩
  ·exact absurd hpw (by decide)
  ·exact absurd hpw (by decide)
  ·exact absurd hpw (by decide)
  ·exact absurd hpw (by decide)
  ·exact absurd hpw (by decide)
 ·exact absurd hp (by decide)
 ·rcases hd with rfl | rfl | rfl | rfl | rfl | rfl | rfl
  ·exact ⟨_,GZ⟩
  ·exact absurd hpw (by decide)
  ·exact absurd hpw (by decide)
  ·exact absurd hpw (by decide)
  ·exact absurd hpw (by decide)
  ·exact absurd hpw (by decide)
  ·exact absurd hpw (by decide)
 ·exact absurd hp (by decide)
 ·exact absurd hp (by decide)
 ·exact absurd hp (by decide)
 ·rcases hd with rfl | rfl | rfl | rfl | rfl | rfl | rfl
  ·exact ⟨_,E8⟩
  ·exact absurd hpw (by decide)
  ·exact absurd hpw (by decide)
  ·exact absurd hpw (by decide)
  ·exact absurd hpw (by decide)
  ·exact absurd hpw (by decide)
  ·exact absurd hpw (by decide)
 ·exact absurd hp (by decide)
 ·rcases hd with rfl | rfl | rfl | rfl | rfl | rfl | rfl
  ·exact ⟨_,F5⟩
  ·exact absurd hpw (by decide)
  ·exact absurd hpw (by decide)
  ·exact absurd hpw (by decide)
  ·exact absurd hpw (by decide)
  ·exact absurd hpw (by decide)
  ·exact absurd hpw (by decide)
 ·exact absurd hp (by decide)
 ·exact absurd hp (by decide)
 ·exact absurd hp (by decide)
theorem Fh {P : Int} {m : Nat} (hf : RF P m) {mod : Lz} (hd : dC P mod) (hl : mod.length=m) : 0<=dr P mod/\dr P mod<P ^ m:=by have:=nB (P:=P) (by have:=hf.p2;omega) mod hd;rwa [hl] at this
theorem da (P M : Int) (mod : Lz) : bG P M mod=bp P M mod:=by
 by_cases hs : cB P M mod=true
 ·unfold bG bp;rw [hs,Ku,Ku];have hs2:=hs;unfold cB at hs2;simp only [Jo,bne_iff_ne,ne_eq] at hs2;obtain ⟨⟨h1,h2⟩,h3⟩:=hs2;obtain ⟨m,rfl,hrf⟩:=RF.of h1;obtain ⟨p,rfl⟩ : ∃p : Nat,P=p:=⟨P.toNat,by have:=hrf.p2;omega⟩
  rw [Jd] at h2 ⊢;have hp2 : 2<=p:=by have:=hrf.p2;omega
  have hp256 : p<=256:=by have:=hrf.p256;omega
  have hord:=hrf.order;have hres:=hrf.res;obtain ⟨q,hq⟩ : ∃q : Nat,(p : Int) ^ m=q:=⟨((p : Int) ^ m).toNat,by have:=one_lt_pow hres;omega⟩
  have hq2 : 2<=q:=by have:=one_lt_pow hres;omega
  have hq256 : q<=256:=by have:=hrf.pw;omega
  rw [hord,hq,Jd];have hgen : ∀x : Nat,0<x->x<q->wD (dj p m mod) q x=true->(fX p m mod q).isEmpty=false:=λx hx0 hx1 ho=>by
   have hel : e9 (p : Int) m x:=⟨by omega,by rw [hq];omega⟩
   have hg:=(Ord.of hres hel hq256 ho).fM hres hel hq2;have:=qi (P:=p) (M:=m) (mod:=mod) (q - 1) 1 x hq2 (by omega) (by omega) hg;unfold fX;cases h : kp p m mod q (q - 1) 1 with
   | nil=>exact absurd h this
   | cons y l=>rfl
  by_cases hm : m=1
  ·subst hm;have hmod : mod=[]:=by rw [I6 (by simp)] at h3;exact Jp (by simpa using h3)
   subst hmod;have hr:=List.all_eq_true.1 EN p (List.mem_range.2 (by omega));have hp2' : decide (p<2)=false:=by simp;omega
   rw [hp2',h2] at hr;simp only [Bool.not_true,Bool.false_or,Md] at hr;obtain ⟨c,hc,hcp⟩:=hr;have hck:=List.all_eq_true.1 Iz c hc;have hcp2 : c.1=p:=by simpa using hcp
   unfold Im at hck;rw [hcp2] at hck;simp only [Jo,JH] at hck;have hqp : q=p:=by
    have : (p : Int) ^ 1=p:=by rw [JP,KE,Ld]
    omega
   rw [hgen c.2 hck.1.2 (by omega) (by rw [hqp];exact hck.1.1)];rfl
  ·have hM : ¬ (m : Int)=1:=by omega
   rw [I5 hM] at h3;simp only [Jo,JH] at h3;have hlen : mod.length=m:=by omega
   have hdig : dC (p : Int) mod:=NM (by omega) λx hx=>by have:=List.all_eq_true.1 h3.2 x hx;simpa using this
   have hv:=Fh hrf hdig hlen;obtain ⟨v,hvv⟩ : ∃v : Nat,dr p mod=v:=⟨(dr p mod).toNat,by omega⟩
   have hdv : bq v p m=mod:=by rw [<- hvv,<- hlen];exact lK mod hdig
   obtain ⟨l,hl⟩:=Ii p m h2 hp2 (by have:=hrf.m1;omega) hrf.m8 hrf.pw;rw [hq,Jd] at hl;obtain ⟨c,hc⟩:=Bv hl (v:=v) (by omega);have hM' : ((m : Int) == 1)=false:=by simpa using hM
   rw [hM',Bool.false_or];unfold zK at hc;rw [hdv] at hc;split at hc
   ·simp only [Jo,JH] at hc;rw [hc.1.1.1,hgen c.1 hc.1.2 hc.2 hc.1.1.2];rfl
   ·rename_i hc2;simp only [Jo,JH,MN,beq_iff_eq] at hc;rw [hc.1.1.1.1];cases h : (fX p m mod q).isEmpty with
    | true=>rfl
    | false =>
     exfalso
     have hne : fX p m mod q ≠ []:=λe=>by rw [e] at h;cases h
     obtain ⟨y,hy1,hy2,hy3,hy4⟩:=od hne
     have g:=sd.xu (mod:=mod) hres hq.symm ⟨by omega,by omega⟩ hy3
     exact yg g (a:=(c.1 : Int)) (b:=(c.2 : Int)) ⟨by omega,by omega⟩ ⟨by omega,by omega⟩ (by omega) (by omega) hc.1.1.1.2
 ·have hs' : cB P M mod=false:=by simpa using hs
  simp [bG,bp,hs']
def vs (O : aS) (L : Ll) (cols : Nat) : Ll:=(aD O L cols).1.take (aD O L cols).2.length
def qF (O : aS) (L : Ll) (cols : Nat) (w : World) (e : Ending) (w' : World) : Prop :=
 ∃a c ap cp,e = .returned (.tuple #[.slice a (aD O L cols).2.length c,.slice ap (aD O L cols).2.length cp])/\cH w.heap.size w' a (aD O L cols).2.length (vs O L cols) /\
  dW w.heap.size w' ap (aD O L cols).2.length (aD O L cols).2/\NS w w'
theorem mA (P : Int) (m : Nat) (am : OA) (mn cm : Nat) (mod : Lz) (a : OA) (n c cols : Nat) (L : Ll) (w : World) (hf : rZ w P m am mn mod) (hi : ch w a n L)
  (hR : cw (e9 P m) cols L) (hlen : cols<=1000000) (hn : n<=1000000) (hinv : ∀p,e9 P m p->p ≠ 0->(gy P m mod p=1 ↔ p=1)) :
  Calls prog 120 #[.agg #[.int .i64 P,.int .i64 m,.slice am mn cm],.slice a n c,.int .i64 cols] w (qF (ia P m mod) L cols w):=by
 have Hlen:=Z5 hi.len;have Hc : Hid (∀V,NS w V->Calls prog 183 #[.agg #[.int .i64 P,.int .i64 m,.slice am mn cm],.slice a n c,.int .i64 cols] V (oK (ia P m mod) L cols V)) :=
  λV hV=>tS P m am mn cm mod a n c cols cols L V (hf.aa hV) (hi.aa hV) hR (IZ _) hlen hn hinv
 obtain ⟨O,hO⟩ : ∃O,ia P m mod=O:=⟨_,rfl⟩
 rw [hO] at Hc ⊢;clear hO hinv hR;go_enter func120,ntmps120;go_wp2_with fail;obtain ⟨W,hW⟩ : ∃W : World,W=w.alloc (.cells #[.int .i64 P,.int .i64 m,.slice am mn cm] 24):=⟨_,rfl⟩
 rw [<- hW];have hbW : NS w W:=by rw [hW];exact aw _ _
 clear hW;refine (Hc.out W hbW).mono ?_;rintro e w1 ⟨a1,c1,R1,ap,cp,rfl,hO1,hp1,hb1⟩;have hpl:=jd O L cols;have hcap:=nR hO1.own;have hpv:=(dW.own hp1).mono hbW.size;have hmt:=((NG hO1).take (k:=(aD O L cols).2.length) hpl.2).mono hbW.size;have hF : qF O L cols w (.returned (.tuple #[.slice a1 (aD O L cols).2.length c1,.slice ap (aD O L cols).2.length cp])) w1:=⟨a1,_,ap,cp,rfl,hmt,hpv,Nh hbW hb1⟩
 have HF:=Z5 hF;have hle : (aD O L cols).2.length<=c1:=Ji hpl.2 hcap;clear hF hpv hmt hp1 hcap hpl;generalize (aD O L cols).2.length=k at *;go_wp2_with fail;go_ret2;simpa using HF.out
def fS (P M : Int) (mod : Lz) (cols : Int) (L : Ll) : Int :=
 if fH P M mod cols L=0 then (if vs (ia P M.toNat mod) L cols.toNat=L then 0 else 5) else fH P M mod cols L
theorem eK {P M : Int} {mod : Lz} (h : bG P M mod=true) : ∃m : Nat,M=m/\RF P m/\(∀(w : World) am mn,Ints w am mn mod->xQ w P m am mn mod):=by
 unfold bG cB at h;simp only [Jo,bne_iff_ne,ne_eq] at h;obtain ⟨⟨⟨h1,h2⟩,h3⟩,h4⟩:=h;obtain ⟨m,rfl,hrf⟩:=RF.of h1;refine ⟨m,rfl,hrf,λw am mn hi=>⟨hi,λhm=>?_,?_⟩⟩
 ·rw [I5 (by omega)] at h3;simp only [Jo,JH] at h3;have:=hi.len;omega
 ·by_cases hm : (m : Int)=1
  ·rw [I6 hm] at h3;have : mod=[]:=Jp (by simpa using h3);subst this;exact NM (by have:=hrf.p2;omega) (by simp)
  ·rw [I5 hm] at h3;simp only [Jo] at h3;refine NM (by have:=hrf.p2;omega) λx hx=>?_;have:=List.all_eq_true.1 h3.2 x hx;simpa using this
theorem yL {P M : Int} {mod : Lz} {cols : Int} {L : Ll} (h : fH P M mod cols L=0) : bG P M mod=true/\eW (aN P M) cols L=0:=by
 unfold fH at h;split at h
 ·rename_i h1;exact ⟨h1,h⟩
 ·omega
theorem py (P M : Int) (am : OA) (mn cm : Nat) (mod : Lz) (cols : Int) (a : OA) (n c : Nat) (L : Ll) (w : World) (hmod : Ints w am mn mod) (hi : ch w a n L)
  (hinv : bG P M mod=true->∀p,e9 P M.toNat p->p ≠ 0->(gy P M.toNat mod p=1 ↔ p=1)) :
  Calls prog 58 #[.agg #[.int .i64 P,.int .i64 M,.slice am mn cm],.agg #[.int .i64 cols,.slice a n c]] w λe w'=>e = .returned (.int .i64 (fS P M mod cols L))/\NS w w':=by
 have Hlen:=Z5 hi.len;have Hinv:=Z5 hinv;clear hinv;go_enter func58,ntmps58;go_wp2_with fail;obtain ⟨W,hW⟩ : ∃W : World,W=(w.alloc (.cells #[.int .i64 P,.int .i64 M,.slice am mn cm] 24)).alloc (.cells #[.int .i64 cols,.slice a n c] 82):=⟨_,rfl⟩
 rw [<- hW];have hbW : NS w W:=by rw [hW];exact dA _ _ _
 have x0 : aZ W w.heap.size [.int .i64 P,.int .i64 M,.slice am mn cm]:=by rw [hW];exact (Nj _ _ _ rfl).alloc _
 have y0 : aZ W (w.heap.size+1) [.int .i64 cols,.slice a n c]:=by rw [hW];exact Nj _ _ _ (by simp)
 have HX:=Z5 (Jg x0 y0);have hiW:=hi.aa hbW;have hmW:=hmod.aa hbW;clear hW x0 y0;refine (l9 P M am mn cm mod cols a n c L W hmW hiW).mono ?_;rintro e w1 ⟨rfl,hb1⟩;have hbw1:=Nh hbW hb1;by_cases hE : fH P M mod cols L=0
 ·obtain ⟨hB,hm⟩:=yL hE;obtain ⟨m,rfl,hrf,hmods⟩:=eK hB;obtain ⟨k,rfl,hk,hl,hR⟩:=lE hm;have HE : Hid (fS P m mod k L=if vs (ia P m mod) L k=L then 0 else 5):=by show _=_;rw [fS,I6 hE,Jd,Jd]
  rw [hE];have hinv:=Hinv.out hB;rw [Jd] at hinv;have hRw : cw (e9 P m) k L:=λr hr=>⟨(hR r hr).1,λx hx=>by have:=(hR r hr).2 x hx;rw [hrf.order] at this;exact this⟩
  have x1:=HX.out.1.aa hb1;have y1:=HX.out.2.aa hb1;have d0:=x1.cell 0 rfl;have d1:=x1.cell 1 rfl;have d2:=x1.cell 2 rfl;have d3:=y1.cell 0 rfl;have d4:=y1.cell 1 rfl;have hm1:=hmW.aa hb1;have hi1:=hiW.aa hb1;have hn : n<=1000000:=by rw [<- Hlen.out];omega
  have HC:=Z5 (mA P m am mn cm mod a n c k L w1 ⟨hrf,hmods w1 am mn hm1⟩ hi1 hRw (by omega) hn hinv);clear hE hB hm hmods hR hinv hRw x1 y1;obtain ⟨O,hO⟩ : ∃O,ia P m mod=O:=⟨_,rfl⟩
  rw [hO] at HC HE;clear hO;go_wp2_with fail;refine HC.out.mono ?_;rintro e w2 ⟨a2,c2,ap,cp,rfl,hM2,hp2,hb2⟩;have hbw2:=Nh hbw1 hb2;have y2:=(HX.out.2.aa hb1).aa hb2;have d3:=y2.cell 0 rfl;have d4:=y2.cell 1 rfl;have hi2:=hi1.aa hb2;have hM3:=hM2.l7;have HS:=Z5 (jD a2 (aD O L k).2.length c2 (vs O L k) a n c L hM3 hi2);clear hM2 hp2 y2;generalize (aD O L k).2.length=kk at *;by_cases hc : vs O L k=L
  ·have hc' : decide (vs O L k=L)=true:=by simpa using hc
   have HF : Hid (fS P m mod k L=0):=by show _=_;rw [HE.out,I6 hc]
   rw [hc'] at HS;clear hc hc';go_wp2_with fail;refine HS.out.mono ?_;rintro e w3 ⟨rfl,hd3⟩;go_wp2_with fail;go_ret;exact ⟨aH HF.out.symm,Nh hbw2 hd3.below⟩
  ·have hc' : decide (vs O L k=L)=false:=by simpa using hc
   have HF : Hid (fS P m mod k L=5):=by show _=_;rw [HE.out,I5 hc]
   rw [hc'] at HS;clear hc hc';go_wp2_with fail;refine HS.out.mono ?_;rintro e w3 ⟨rfl,hd3⟩;go_wp2_with fail;go_ret;exact ⟨aH HF.out.symm,Nh hbw2 hd3.below⟩
 ·have HE : Hid (fS P M mod cols L=fH P M mod cols L):=by show _=_;rw [fS,I5 hE]
  have hE' : (fH P M mod cols L != 0)=true:=by simpa using hE
  clear hE;go_wp2_with fail;go_ret;exact ⟨aH HE.out.symm,hbw1⟩
theorem FV {N : Int} (h : N<1) : jC N=4:=by rw [jC,I6 (.inl h)]
theorem E3 {N : Int} (h : 64<N) : jC N=4:=by rw [jC,I6 (.inr h)]
theorem F7 {N : Int} (h1 : ¬ N<1) (h2 : ¬ 64<N) : jC N=0:=by rw [jC,I5 (by omega)]
def jx (P M : Int) (mod : Lz) (N : Int) (L : Ll) : Int :=
 if bG P M mod=true then (if jC N=0 then fS P M mod N L else 4) else 1
theorem kW (P M : Int) (am : OA) (mn cm : Nat) (mod : Lz) (N : Int) (a : OA) (n c : Nat) (L : Ll) (w : World) (hmod : Ints w am mn mod) (hi : ch w a n L)
  (hinv : bG P M mod=true->∀p,e9 P M.toNat p->p ≠ 0->(gy P M.toNat mod p=1 ↔ p=1)) :
  Calls prog 22 #[.agg #[.int .i64 P,.int .i64 M,.slice am mn cm,.int .i64 N,.slice a n c]] w λe w'=>e = .returned (.int .i64 (jx P M mod N L))/\NS w w':=by
 have Hinv:=Z5 hinv;clear hinv;go_enter func22,ntmps22;go_wp2_with fail;obtain ⟨W,hW⟩ : ∃W : World,W=w.alloc (.cells #[.int .i64 P,.int .i64 M,.slice am mn cm,.int .i64 N,.slice a n c] 27):=⟨_,rfl⟩
 rw [<- hW];have hbW : NS w W:=by rw [hW];exact aw _ _
 have x0 : aZ W w.heap.size [.int .i64 P,.int .i64 M,.slice am mn cm,.int .i64 N,.slice a n c]:=by rw [hW];exact Nj _ _ _ rfl
 have HX:=Z5 x0;clear hW x0;refine (kt P M am mn cm mod W (hmod.aa hbW)).mono ?_;rintro e w1 ⟨rfl,hb1⟩;have hbw1:=Nh hbW hb1;by_cases hB : bG P M mod=true
 ·have hE : cK (bG P M mod)=0:=by rw [hB];rfl
  rw [hE];have HB : Hid (jx P M mod N L=if jC N=0 then fS P M mod N L else 4):=by show _=_;rw [jx,I6 hB]
  have x1:=HX.out.aa hb1;have c0:=x1.cell 0 rfl;have c1:=x1.cell 1 rfl;have c2:=x1.cell 2 rfl;have c3:=x1.cell 3 rfl;have c4:=x1.cell 4 rfl;have hm1:=(hmod.aa hbW).aa hb1;have hi1:=(hi.aa hbW).aa hb1;clear hE hB x1;by_cases h1 : N<1
  ·have Hf : Hid (jx P M mod N L=4):=by show _=_;rw [HB.out,FV h1];rfl
   have t1 : decide (N<1)=true:=by simpa using h1
   go_wp2_with fail;go_ret;exact ⟨aH Hf.out.symm,hbw1⟩
  ·have t1 : decide (N<1)=false:=by simpa using h1
   by_cases h2 : 64<N
   ·have Hf : Hid (jx P M mod N L=4):=by show _=_;rw [HB.out,E3 h2];rfl
    have t2 : decide (64<N)=true:=by simpa using h2
    go_wp2_with fail;go_ret;exact ⟨aH Hf.out.symm,hbw1⟩
   ·have t2 : decide (64<N)=false:=by simpa using h2
    have Hf : Hid (jx P M mod N L=fS P M mod N L):=by show _=_;rw [HB.out,F7 h1 h2,I6 rfl]
    clear h1 h2;go_wp2_with fail;refine (py P M am mn cm mod N a n c L w1 hm1 hi1 Hinv.out).mono ?_;rintro e w2 ⟨rfl,hb2⟩;go_wp2_with fail;go_ret;exact ⟨aH Hf.out.symm,Nh hbw1 hb2⟩
 ·have hB' : bG P M mod=false:=by simpa using hB
  have Hf : Hid (jx P M mod N L=1):=by show _=_;rw [jx,I5 hB]
  have hE : cK (bG P M mod)=1:=by rw [hB'];rfl
  rw [hE];clear hB hB' hE;go_wp2_with fail;go_ret;exact ⟨aH Hf.out.symm,hbw1⟩
section
variable {O : aS} {El : Int->Prop} {m n : Nat}
structure sj (L : Ll) (P : Lz) : Prop where
 lead : ∀i x,i<P.length->x<(nth P i).toNat->nth (an L i) x=0
 asc : ∀i j,i<j->j<P.length->nth P i<nth P j
theorem ou (F : dw O El) {L : Ll} (hL : cw El m L) : ∀k,k<=m->sj (aD O L k).1 (aD O L k).2
 | 0,_=>⟨λi x hi=>by simp [aD] at hi,λi j _ hj=>by simp [aD] at hj⟩
 | k+1,hk=>by
  have ih:=ou F hL k (by omega);obtain ⟨h1,_,_⟩:=i5 F hL k (by omega);have hR:=jI F hL k (by omega);have hb:=my (L:=(aD O L k).1) (c:=k) (k:=(aD O L k).2.length) h1.le;by_cases hlt : (aD O L k).2.length<(aD O L k).1.length
  ·rw [du (Lk:=(aD O L k).1) (P:=(aD O L k).2) rfl hlt];split
   ·exact ih
   ·rename_i hf;have hfl : bn (aD O L k).1 k (aD O L k).2.length<(aD O L k).1.length:=by omega
    have hne : nth (an (aD O L k).1 (bn (aD O L k).1 k (aD O L k).2.length)) k ≠ 0:=jw _ k _ _ (by show bn _ k _<_;omega);generalize bn (aD O L k).1 k (aD O L k).2.length=r at *;generalize (aD O L k).1=A at *;generalize (aD O L k).2=P at *;have hp : El (nth (an A r) k):=NH (hR.row hfl) (by omega);have hpi:=F.cl.inv _ hp hne;refine ⟨λi x hi hx=>?_,λi j hij hj=>?_⟩
    ·rw [Jh,Js] at hi;have hx' : x<m:=by
      rw [gY] at hx;by_cases e : i<P.length
      ·rw [I6 e] at hx;have:=h1.lt i e;omega
      ·rw [I5 e,I6 (by omega)] at hx;omega
     rw [eJ F hR hlt hfl (by omega) hne (i:=i) (by omega) hx'];rw [gY] at hx;by_cases e : i<P.length
     ·rw [I6 e] at hx;have h2:=h1.lt i e;rw [I5 (by omega),show sw P.length r i=i by unfold sw;rw [I5 (by omega),I5 (by omega)],h1.zero r x hb.1 hfl (by omega),F.et hpi,F.oD (NH (hR.row (by omega)) (by omega)),F.gU,F.add_zero _ (NH (hR.row (by omega)) hx')];exact ih.lead i x e hx
     ·rw [I5 e,I6 (by omega)] at hx;rw [I6 (by omega),h1.zero r x hb.1 hfl (by omega),F.et hpi]
    ·rw [Jh,Js] at hj;rw [gY,gY,I6 (by omega)];by_cases e : j<P.length
     ·rw [I6 e];exact ih.asc i j hij e
     ·rw [I5 e,I6 (by omega)];have:=h1.lt i (by omega);omega
  ·have hfull : (aD O L k).2.length=L.length:=by have:=b9 O L k;have:=h1.le;omega
   rw [fu hfull 1];exact ih
theorem inv_one (F : dw O El) : O.inv 1=1:=by have h:=F.mul_inv 1 F.one (by decide);rwa [F.one_mul _ (F.cl.inv 1 F.one (by decide))] at h
theorem rz (O : aS) {R : Ll} {t c : Nat} (h : ∀i,i<R.length->i ≠ t->nth (an R i) c=0) : ∀i,i<=R.length->aR O t c R i=R
 | 0,_=>rfl
 | i+1,hi=>by
  unfold aR;rw [rz O h i (by omega)];split
  ·rfl
  ·rename_i e;unfold bY;rw [I6 (h i (by omega) e),jG]
theorem xT (F : dw O El) {R : Ll} {P : Lz} (hP : pM R P m) (hl : sj R P) (hlen : R.length=P.length) : ∀k,k<=m ->
  ∃t,t<=P.length/\aD O R k=(R,P.take t)/\(∀j,j<t->nth P j<k)/\(∀j,t<=j->j<P.length->(k : Int)<=nth P j)
 | 0,_=>⟨0,I7 _,by simp [aD],λj hj=>by omega,λj _ hj=>(hP.lt j hj).1⟩
 | k+1,hk=>by
  obtain ⟨t,ht,he,h1,h2⟩:=xT F hP hl hlen k (by omega);have htl : (P.take t).length=t:=by rw [Jy];omega
  by_cases htt : t=P.length
  ·refine ⟨t,ht,?_,λj hj=>by have:=h1 j hj;omega,λj h3 h4=>by omega⟩;have hfull : (aD O R k).2.length=R.length:=by rw [he];show (P.take t).length=_;omega
   rw [fu hfull 1,he]
  ·have htR : t<R.length:=by omega
   rw [du (Lk:=R) (P:=P.take t) he.symm (by rw [htl];exact htR),htl];by_cases hpk : nth P t=k
   ·have h11:=hP.one t t (by omega) htR;rw [hpk,I6 rfl,Jd] at h11;have hf : bn R k t=t:=by rw [gh htR,I5 (by rw [h11];decide)]
    rw [hf,I5 (by omega)];have hpv : ed O R t t k=R:=by
     rw [gN,I6 rfl];have hn : bm O R t k=R:=by unfold bm;rw [h11,I6 (inv_one F)]
     rw [hn];refine rz O (λi hi hit=>?_) _ (IZ _);have:=hP.one t i (by omega) hi;rw [hpk,I5 hit,Jd] at this;exact this
    rw [hpv];refine ⟨t+1,by omega,?_,λj hj=>?_,λj h3 h4=>?_⟩
    ·rw [Ja (by omega),<- ai,hpk]
    ·by_cases e : j=t
     ·subst e;omega
     ·have:=h1 j (by omega);omega
    ·have:=hl.asc t j (by omega) h4;omega
   ·have hgt : (k : Int)<nth P t:=by have:=h2 t (IZ _) (by omega);omega
    have hz : ∀i,t<=i->i<R.length->nth (an R i) k=0:=λi h3 h4=>by
     refine hl.lead i k (by omega) ?_;by_cases e : i=t
     ·subst e;omega
     ·have:=hl.asc t i (by omega) (by omega);omega
    have hf : ∀d i,d=R.length - i->t<=i->i<=R.length->bn R k i=R.length:=by
     intro d;induction d with
     | zero=>intro i h3 _ h5;rw [jq (by omega)];omega
     | succ d ih =>
      intro i h3 h4 h5
      rw [gh (by omega),I6 (hz i h4 (by omega))]
      exact ih (i+1) (by omega) (by omega) (by omega)
    rw [hf _ t rfl (IZ _) (by omega),I6 rfl];refine ⟨t,ht,rfl,λj hj=>by have:=h1 j hj;omega,λj h3 h4=>?_⟩;by_cases e : j=t
    ·subst e;omega
    ·have:=hl.asc t j (by omega) h4;omega
theorem zq (F : dw O El) {R : Ll} {P : Lz} (hP : pM R P m) (hl : sj R P) (hlen : R.length=P.length) : aD O R m=(R,P):=by
 obtain ⟨t,ht,he,h1,h2⟩:=xT F hP hl hlen m (IZ _);have : t=P.length:=by apply JE;intro h;have h3:=h2 t (IZ _) (by omega);have h4:=hP.lt t (by omega);omega
 rw [he,this,MW]
def iE (O : aS) (m : Nat) (L : Ll) : Ll:=(aD O L m).1.take (aD O L m).2.length
theorem j6 {L : Ll} {t i : Nat} (h : i<t) : an (L.take t) i=an L i:=by unfold an;simp only [Jc,J9];rw [I6 h]
theorem fx (F : dw O El) {L : Ll} (hL : cw El m L) : (iE O m L).length=(aD O L m).2.length:=by have h1:=(i5 F hL m (IZ _)).1.le;unfold iE;rw [Jy];omega
theorem wR (F : dw O El) {L : Ll} (hL : cw El m L) : cw El m (iE O m L):=λr hr=>jI F hL m (IZ _) r (JY hr)
theorem je (F : dw O El) {L : Ll} (hL : cw El m L) : pM (iE O m L) (aD O L m).2 m/\sj (iE O m L) (aD O L m).2:=by
 have h1:=(i5 F hL m (IZ _)).1;have h2:=ou F hL m (IZ _);have hl:=fx F hL;refine ⟨⟨by omega,h1.lt,λj i hj hi=>?_,λi x hi1 hi2 _=>by omega⟩,⟨λi x hi hx=>?_,h2.asc⟩⟩
 ·unfold iE;rw [j6 (by omega)];exact h1.one j i hj (by have:=h1.le;omega)
 ·unfold iE;rw [j6 hi];exact h2.lead i x hi hx
theorem RS.GS (F : dw O El) {L : Ll} {f : Nat->Int} (h : ∀x,x<m->f x=0) : RS O El m L f:=by refine ⟨λ_=>0,⟨λ_ _=>F.zero,λv r x hv hr hx=>?_,λr x hr hx=>(F.et hx).symm⟩,λx hx=>h x hx⟩;show (0 : Int)=O.add 0 (O.neg (O.mul x 0));rw [F.et hx,F.gU,F.add_zero 0 F.zero]
theorem oG (F : dw O El) {L : Ll} (hL : cw El m L) : iB O El m (iE O m L) L/\iB O El m L (iE O m L):=by
 obtain ⟨h1,h2,h3⟩:=i5 F hL m (IZ _);have hl:=fx F hL;refine ⟨λi hi=>?_,h3.trans λi hi=>?_⟩
 ·have e : an (iE O m L) i=an (aD O L m).1 i:=by unfold iE;exact j6 (by omega)
  rw [e];exact h2 i (by have:=h1.le;omega)
 ·by_cases e : i<(aD O L m).2.length
  ·have e2 : an (aD O L m).1 i=an (iE O m L) i:=by unfold iE;exact (j6 e).symm
   rw [e2];exact RS.row F (by omega)
  ·exact RS.GS F λx hx=>h1.zero i x (by omega) hi hx
theorem FI (F : dw O El) {L : Ll} (hL : cw El m L) : Rk (oV O El (iE O m L).length (bs (iE O m L))) (List.range m) (iE O m L).length:=by have h:=Dc F (wR F hL);obtain ⟨h1,h2⟩:=je F hL;rw [zq F h1 h2 (fx F hL)] at h;rw [fx F hL];rw [fx F hL] at h;exact h
variable {R : Ll} {P : Lz}
end
theorem rO (f : Int->Int) : ∀(n : Nat) (y z : Int),y<=z->z<y+n->f z=1->f (gT f n y)=1/\y<=gT f n y/\gT f n y<y+n
 | 0,y,z,h1,h2,_=>by omega
 | n+1,y,z,h1,h2,hz=>by
  unfold gT;split
  ·exact ⟨by assumption,by omega,by omega⟩
  ·rename_i hn;have hne : y ≠ z:=λe=>hn (e ▸ hz);have:=rO f n (y+1) z (by omega) (by omega) hz;exact ⟨this.1,by omega,by omega⟩
theorem fU {P M : Int} {mod : Lz} (h : bp P M mod=true) : ∃m : Nat,M=m/\e9 P m=(ah P m mod).El/\((ah P m mod).q : Int)=aN P M/\dw (ah P m mod).ops (e9 P m)/\F8 (ah P m mod).ops (ia P m mod) (e9 P m) /\
  ∀p,e9 P m p->p ≠ 0->(gy P m mod p=1 ↔ p=1):=by
 have hF:=fq h;obtain ⟨m,y,rfl,hr,h256,hsh,hq,g⟩:=rE h;have hrf : RF P m:=by
  obtain ⟨m',e,h2,_⟩:=eK (by rw [da];exact h);have : m=m':=by omega
  rw [this];exact h2
 rw [Jd] at hF;have e : e9 P m=(ah P m mod).El:=by funext x;simp only [cW.El,ah,e9];rw [hq]
 rw [<- e] at hF;have hq2:=g.q2;have hmul : ∀x z,e9 P m x->e9 P m z->(ah P m mod).ops.mul x z=mulR P m mod x z:=λx z hx hz=>by rw [FJ hrf];exact g.Bk hx hz
 have hqo : ((aN P m).toNat : Int)=aN P m:=by omega
 have hinv : ∀x,e9 P m x->x ≠ 0->(ah P m mod).ops.inv x=gy P m mod x:=by
  intro x hx h0;have hi:=hF.cl.inv x hx h0;have hm:=hF.mul_inv x hx h0;rw [hmul x _ hx hi] at hm;have hi0 : (ah P m mod).ops.inv x ≠ 0:=by intro e0;have h2:=hF.mul_inv x hx h0;rw [e0,hF.et hx] at h2;exact absurd h2 (by decide)
  have hb1:=hi.1;have hb2:=hi.2;obtain ⟨h1,h2,h3⟩:=rO (mulR P m mod x) ((aN P m).toNat - 1) 1 _ (by omega) (by omega) hm;have hel : e9 P m (gy P m mod x):=⟨by unfold gy;omega,by unfold gy;omega⟩
  have h4 : (ah P m mod).ops.mul x (gy P m mod x)=1:=by rw [hmul x _ hx hel];exact h1
  have h5:=hF.mul_inv x hx h0;have e1 : (ah P m mod).ops.mul ((ah P m mod).ops.inv x) ((ah P m mod).ops.mul x (gy P m mod x))=gy P m mod x:=by rw [<- hF.mul_assoc _ x _ hi hx hel,hF.mul_comm _ x hi hx,h5,hF.one_mul _ hel]
  rw [h4,hF.lV hi] at e1;exact e1
 refine ⟨m,rfl,e,hqo,hF,⟨λx z _ _=>rfl,hmul,λx _=>rfl,hinv⟩,λp hp h0=>?_⟩;rw [<- hinv p hp h0];have hi:=hF.cl.inv p hp h0;have hm:=hF.mul_inv p hp h0;constructor
 ·intro e1;rw [e1,hF.lV hp] at hm;exact hm
 ·intro e1;rw [e1] at hm hi ⊢;rw [hF.one_mul _ hi] at hm;exact hm
theorem lj {P M : Int} {mod : Lz} (h : bG P M mod=true) : ∀p,e9 P M.toNat p->p ≠ 0->(gy P M.toNat mod p=1 ↔ p=1):=by obtain ⟨m,rfl,_,_,_,_,h6⟩:=fU (by rw [<- da];exact h);exact h6
theorem xM (P M : Int) (mod : Lz) (cols : Int) (L : Ll) : fH P M mod cols L=fI P M mod cols L:=by
 unfold fH fI;rw [da];split
 ·rename_i h;obtain ⟨m,rfl,_,hq,_⟩:=fU h;rw [Jd,hq]
 ·rfl
theorem FU {P M : Int} {mod : Lz} (h : bp P M mod=true) {L : Ll} {m : Nat} (hL : cw (ah P M.toNat mod).El m L) : vs (ia P M.toNat mod) L m=pD (ah P M.toNat mod) L m:=by obtain ⟨k,rfl,he,_,hF,hA,_⟩:=fU h;rw [Jd] at hL ⊢;rw [<- he] at hL;unfold vs pD;rw [(fV hA hF.cl hL m (IZ _)).1]
theorem yR (P M : Int) (mod : Lz) (cols : Int) (L : Ll) : fS P M mod cols L=fb P M mod cols L:=by
 unfold fS fb;rw [xM];split
 ·rename_i h0;obtain ⟨h1,h2⟩:=fo h0;obtain ⟨m,rfl,_,_,hR⟩:=lE h2;rw [Jd,FU h1 hR]
 ·rfl
theorem tB (P M : Int) (mod : Lz) (N : Int) (L : Ll) : jx P M mod N L=aJ P M mod N L:=by unfold jx aJ;rw [da,yR]
theorem br {P M : Int} {mod : Lz} {N : Int} {L : Ll} (h : aJ P M mod N L=0) : ∃n : Nat,N=n/\1<=n/\n<=64/\dw (ah P M.toNat mod).ops (ah P M.toNat mod).El/\cw (ah P M.toNat mod).El n L:=by obtain ⟨m,rfl,h1,h2,_,hR⟩:=dP h;exact ⟨m,rfl,h1,h2,fq (bl h).1,hR⟩
section
variable {P M : Int} {mod : Lz} {n : Nat} {L : Ll}
end
def pA (n : Nat) (Q : Lz) : Prop:=∀j,j<Q.length->0<=nth Q j/\nth Q j<n
theorem BW (av : OA) (nv cv : Nat) (v : Lz) (ao : OA) (no co : Nat) (Q : Lz) (w : World) (hv : Ints w av nv v) (hq : Ints w ao no Q) (hQ : pA nv Q) (hno : no<=1000000) :
  Calls prog 34 #[.slice av nv cv,.slice ao no co] w (dh w (aQ Q v)):=by
 have Hql:=Z5 hq.len;have hplq:=hq.pl;have hplv:=hv.pl;have hmq:=hq.max;have hmv:=hv.max;have HQ:=Z5 hQ;have hpk : (aQ Q v).length=no:=by rw [aQ,Jl];exact Hql.out
 have Hpk:=Z5 hpk;unfold maxLen at hmq hmv;clear hQ hpk;go_enter func34,ntmps34;go_wp2_with (at_make;refine cC rfl _ _ 22 3 rfl (.int .i64 0) 8 underlying22 ba rfl no rfl rfl (by omega) (hq.max) ?_;intro a1 w1 hown hbel hge hlt);go_loopw [6] (λiv wr=>∃k : Nat,k<=no/\iv = .int .i64 k /\
   wr.ownsRow w.heap.size 3 1 (.slice a1 no no) no ((cU ((aQ Q v).take k) k no).map (Value.int .i64))/\NS w wr)
  (λi _=>no - (intOf i).toNat)
 case atStart=>exact ⟨0,I7 _,rfl,by simpa [cU] using hown,hbel⟩
 case round =>
  clear hown hbel
  obtain ⟨k,hk,rfl,hown,hbel⟩:=hrel
  obtain ⟨hints,hmine⟩:=Ni hown
  have hpl1:=hints.pl
  by_cases hlt : k<no
  ·have cq:=(hq.aa hbel).cell k hlt
   have hb:=HQ.out k (by rw [Hql.out];exact hlt)
   obtain ⟨z,hz⟩ : ∃z : Nat,nth Q k=z:=⟨(nth Q k).toNat,by omega⟩
   have hzn : z<nv:=by omega
   have cz:=(hv.aa hbel).cell z hzn
   have hf:=(hmine (by omega)).2 k hlt
   have hc2:=hints.cell k hlt
   have hB:=(hmine (by omega)).1
   have Hv : Hid (nth (aQ Q v) k=nth v z):=by show _=_;rw [eX Q v (by rw [Hql.out];exact hlt),hz,Jd]
   rw [hz] at cq
   clear hz hb
   go_wp2_with fail
   go_roundw
   case rel =>
    refine ⟨k+1,by omega,by go_num,?_,hbel.setCell hB _⟩
    have h:=bT hown k hlt (.int .i64 (nth v z))
    rw [<- Jq,eO _ _ _ _ (by rw [Jy,Hpk.out];omega) hlt] at h
    rw [Ja (by rw [Hpk.out];omega),<- ai,Hv.out]
    exact h
   case measure=>simp [intOf] <;> omega
  ·obtain rfl : k=no:=by omega
   have hfin : cU ((aQ Q v).take k) k k=aQ Q v:=by rw [fy,I8 (by rw [Hpk.out];exact IZ _)]
   rw [hfin] at hown
   clear hfin
   go_wp2_with fail
   go_ret
   exact ⟨a1,k,by rw [Hpk.out];rfl,by rw [Hpk.out];exact hown,hbel⟩
theorem nL (f : Lz->Lz) (L : Ll) {k : Nat} (hk : k<L.length) : an (L.map f) k=f (an L k):=by rw [aE (by simpa using hk),aE hk];simp
section
open Go.RowKit
end
section
open Go.RowKit
end
theorem CQ (a : OA) (n c : Nat) (l : Lz) (v : Int) (w : World) (h : Ints w a n l) :
  Calls prog 131 #[.slice a n c,.int .i64 v] w λe w'=>∃z : Int,e = .returned (.int .i64 z)/\(0<=z ↔ v ∈ l)/\w'=w:=by
 have Hl:=Z5 h.len;have hpl:=h.pl;have hmax:=h.max;unfold maxLen at hmax;go_enter func131,ntmps131;go_wp2_with fail;go_loopw [8] (λiv wr=>∃k : Nat,k<=n/\iv = .int .i64 k/\Hid (∀j,j<k->nth l j ≠ v)/\wr=w) (λi _=>n - (intOf i).toNat);case atStart=>exact ⟨0,I7 _,rfl,λj hj=>by omega,rfl⟩
 case round =>
  obtain ⟨k,hk,rfl,hno,rfl⟩:=hrel
  by_cases hlt : k<n
  ·have c1:=h.cell k hlt
   by_cases he : nth l k=v
   ·have he' : (v == nth l k)=true:=by rw [he];simp
    have Hm : Hid (v ∈ l):=by show v ∈ l;rw [<- he];exact aK (by rw [Hl.out];exact hlt)
    clear he
    go_wp2_with fail
    go_ret
    exact ⟨k,rfl,⟨λ_=>Hm.out,λ_=>LQ _⟩,rfl⟩
   ·have he' : (v == nth l k)=false:=by simpa using λe=>he e.symm
    have Hn2 : Hid (∀j,j<k+1->nth l j ≠ v):=λj hj=>by
     by_cases e : j=k
     ·subst e;exact he
     ·exact hno.out j (by omega)
    clear he
    go_wp2_with fail
    go_roundw
    case rel=>exact ⟨k+1,by omega,by go_num,Hn2.out,by simp⟩
    case measure=>simp [intOf] <;> omega
  ·obtain rfl : k=n:=by omega
   have Hm : Hid (¬ v ∈ l):=λhm=>by obtain ⟨j,hj,e⟩:=List.mem_iff_getElem.1 hm;rw [<- ai hj] at e;exact hno.out j (by have:=Hl.out;omega) e
   go_wp2_with fail
   go_ret
   exact ⟨-1,rfl,⟨λh=>absurd h (by omega),λh=>absurd h Hm.out⟩,rfl⟩
theorem cN (a : OA) (n c : Nat) (l : Lz) (v : Int) (w : World) (h : Ints w a n l) :
  Calls prog 68 #[.slice a n c,.int .i64 v] w λe w'=>e = .returned (.bool (decide (v ∈ l)))/\w'=w:=by
 go_enter func68,ntmps68;go_wp2_with fail;refine (CQ a n c l v w h).mono ?_;rintro e w1 ⟨z,rfl,hz,rfl⟩;by_cases h0 : 0<=z
 ·have Hz : Hid (decide (v ∈ l)=true):=by show _=_;simpa using hz.1 h0
  have h0' : decide (0<=z)=true:=by simpa using h0
  clear hz h0;go_wp2_with fail;go_ret;exact ⟨bd Hz.out.symm,rfl⟩
 ·have Hz : Hid (decide (v ∈ l)=false):=by show _=_;simpa using λh=>h0 (hz.2 h)
  have h0' : decide (0<=z)=false:=by simpa using h0
  clear hz h0;go_wp2_with fail;go_ret;exact ⟨bd Hz.out.symm,rfl⟩

theorem xZ {l : Lz} {x : Int} {i : Nat} (h : i<l.length) : nth (l ++ [x]) i=nth l i:=by simp only [nth,Jc];rw [JF h]
theorem C0 (l : Lz) (x : Int) : nth (l ++ [x]) l.length=x:=by simp [nth]
theorem vX (l : Lz) (x : Int) : ∀k,k<=l.length->mw (l ++ [x]) k=mw l k
 | 0,_=>rfl
 | k+1,h=>by rw [mw,mw,xZ (by omega),vX l x k (by omega)]
theorem uj (l : Lz) (x : Int) : mw (l ++ [x]) (l ++ [x]).length=x.toNat :: mw l l.length:=by rw [Jh,Js,mw,C0,vX l x l.length (IZ _)]
def gA (Q : Lz) : LN:=mw Q Q.length
theorem u9 (l : Lz) (x : Int) : gA (l ++ [x])=x.toNat :: gA l:=uj l x
theorem rG {Q : Lz} {x : Nat} : x ∈ gA Q ↔ ∃y ∈ Q,y.toNat=x:=by
 unfold gA;rw [gQ];constructor
 ·rintro ⟨j,hj,e⟩;exact ⟨nth Q j,aK hj,e⟩
 ·rintro ⟨y,hy,e⟩;obtain ⟨j,hj,rfl⟩:=List.mem_iff_getElem.1 hy;exact ⟨j,hj,by rw [ai hj];exact e⟩
def gr (rk : Lz->Nat) (Q : Lz) (most : Nat) : Nat->Lz
 | 0=>[]
 | k+1=>if (gr rk Q most k).length<most/\rk (gr rk Q most k ++ [nth Q k])=(gr rk Q most k).length+1 then gr rk Q most k ++ [nth Q k] else gr rk Q most k
theorem sM {rk : Lz->Nat} {Q : Lz} {most : Nat} : ∀ {j k : Nat},k<=j->most<=(gr rk Q most k).length->gr rk Q most j=gr rk Q most k
 | 0,k,h,_=>by
   obtain rfl : k=0:=by omega
   rfl
 | j+1,k,h,h2=>by
  by_cases e : k=j+1
  ·subst e;rfl
  ·have ih:=sM (j:=j) (k:=k) (by omega) h2;rw [gr,I5 (by rw [ih];omega),ih]
section
variable {O : aS} {El : Int->Prop} {m : Nat} {L : Ll}
def pN (O : aS) (L : Ll) (Q : Lz) : Nat:=(gD O L Q).length
theorem kL (F : dw O El) (hL : cw El m L) (Q : Lz) : Rk (oV O El L.length (bs L)) (gA Q) (pN O L Q):=Ds F hL Q
theorem uP (F : dw O El) (hL : cw El m L) (Q : Lz) : ∀k,Rk (oV O El L.length (bs L)) (gA (bU O L Q k).2) (bU O L Q k).2.length /\
  (∀x ∈ gA (bU O L Q k).2,x ∈ mw Q k)/\(∀x ∈ mw Q k,oV O El L.length (bs L) (gA (bU O L Q k).2) x)
 | 0=>⟨.nil,λx hx=>by simp [gA,bU,mw] at hx,λx hx=>by simp [mw] at hx⟩
 | k+1=>by
  obtain ⟨h1,h2,h3⟩:=uP F hL Q k;obtain ⟨g1,g2,_⟩:=vz F hL Q k;have hC:=iL F hL;have hc:=gu hL F.zero;have htk:=jk F g1 (hc (nth Q k).toNat);have hcl : oV O El L.length (bs L) (mw Q k) (nth Q k).toNat ↔ (bU O L Q k).1.dz O (bs L (nth Q k).toNat)=false:=by rw [htk];exact ⟨λh φ hφ h0=>h φ hφ ((g2 φ hφ).2 h0),λh φ hφ h0=>h φ hφ ((g2 φ hφ).1 h0)⟩
  rw [bU];by_cases ht : (bU O L Q k).1.dz O (bs L (nth Q k).toNat)=true
  ·simp only [I6 ht];rw [u9,Jh,Js];refine ⟨.ind _ (λh=>?_) h1,λx hx=>?_,λx hx=>?_⟩
   ·have:=hcl.1 (hC.sub h2 h);rw [ht] at this;exact absurd this (by decide)
   ·rw [mw];rcases List.mem_cons.1 hx with rfl | hx
    ·exact J4 ..
    ·exact J3 _ (h2 x hx)
   ·rw [mw] at hx;rcases List.mem_cons.1 hx with rfl | hx
    ·exact hC.mem _ _ (J4 ..)
    ·exact hC.sub (λy hy=>J3 _ hy) (h3 x hx)
  ·simp only [I5 ht];have hf : (bU O L Q k).1.dz O (bs L (nth Q k).toNat)=false:=by simpa using ht
   refine ⟨h1,λx hx=>?_,λx hx=>?_⟩
   ·rw [mw];exact J3 _ (h2 x hx)
   ·rw [mw] at hx;rcases List.mem_cons.1 hx with rfl | hx
    ·exact hC.mono _ _ h3 _ (hcl.2 hf)
    ·exact h3 x hx
theorem xO (F : dw O El) (hL : cw El m L) (Q : Lz) (k : Nat) :
  (bU O L Q k).1.dz O (bs L (nth Q k).toNat)=true ↔ pN O L ((bU O L Q k).2 ++ [nth Q k])=(bU O L Q k).2.length+1:=by
 obtain ⟨h1,h2,h3⟩:=uP F hL Q k;obtain ⟨g1,g2,_⟩:=vz F hL Q k;have hC:=iL F hL;have hc:=gu hL F.zero;have htk:=jk F g1 (hc (nth Q k).toNat);have hcl : oV O El L.length (bs L) (mw Q k) (nth Q k).toNat ↔ (bU O L Q k).1.dz O (bs L (nth Q k).toNat)=false:=by rw [htk];exact ⟨λh φ hφ h0=>h φ hφ ((g2 φ hφ).2 h0),λh φ hφ h0=>h φ hφ ((g2 φ hφ).1 h0)⟩
 have hr:=kL F hL ((bU O L Q k).2 ++ [nth Q k]);rw [u9] at hr;have hcl2 : oV O El L.length (bs L) (gA (bU O L Q k).2) (nth Q k).toNat ↔ (bU O L Q k).1.dz O (bs L (nth Q k).toNat)=false:=by rw [<- hcl];exact ⟨λh=>hC.sub h2 h,λh=>hC.mono _ _ h3 _ h⟩
 constructor
 ·intro ht;refine hr.uniq (.ind _ (λh=>?_) h1);have:=hcl2.1 h;rw [ht] at this;exact absurd this (by decide)
 ·intro he;apply JE;intro ht;have:=hr.uniq (.dep _ (hcl2.2 (by simpa using ht)) h1);omega
theorem Gc (F : dw O El) (hL : cw El m L) (Q : Lz) {most : Nat} (hmost : ∀k,k<=Q.length->(bU O L Q k).2.length<=most) : ∀k,k<=Q.length->gr (pN O L) Q most k=(bU O L Q k).2
 | 0,_=>rfl
 | k+1,h=>by
  have ih:=Gc F hL Q hmost k (by omega);have ht:=xO F hL Q k;have hm:=hmost (k+1) h;rw [gr,ih];rw [bU] at hm ⊢;by_cases hk : (bU O L Q k).1.dz O (bs L (nth Q k).toNat)=true
  ·simp only [I6 hk] at hm ⊢;rw [Jh,Js] at hm;rw [I6 ⟨by omega,ht.1 hk⟩]
  ·simp only [I5 hk];rw [I5 λh=>hk (ht.2 h.2)]
theorem CU (F : dw O El) (hL : cw El m L) {Q Q' : Lz} (h : ∀x,x ∈ gA Q ↔ x ∈ gA Q') : pN O L Q=pN O L Q':=Rk.same (iL F hL) (kL F hL Q) (kL F hL Q') h
theorem Dl (F : dw O El) (hL : cw El m L) {Q Q' : Lz} (h : Q.Perm Q') : pN O L Q=pN O L Q' :=
 CU F hL λx=>by rw [rG,rG];exact ⟨λ⟨y,hy,e⟩=>⟨y,h.mem_iff.1 hy,e⟩,λ⟨y,hy,e⟩=>⟨y,h.mem_iff.2 hy,e⟩⟩
end
theorem q9 (x : Int) (w : World) : Calls prog 275 #[.int .i64 x] w λe w'=>e = .returned (.bool (x != 0))/\w=w':=by go_enter func275,ntmps275;go_wp2;go_ret;exact ⟨rfl,rfl⟩
theorem ug (a : OA) (n c : Nat) (l : Lz) (w : World) (hi : Ints w a n l) :
  Calls prog 97 #[.slice a n c,.func (.func 275) #[] #[]] w λe w'=>e = .returned (.int .i64 (iD l))/\w=w':=by
 have Hlen:=Z5 hi.len;have hpl:=hi.pl;have hmax:=hi.max;unfold maxLen at hmax;go_enter func97,ntmps97;go_wp2_with fail;go_loop [8] (λiv=>∃k : Nat,k<=n/\iv = .int .i64 k/\Hid (∀j,j<k->nth l j=0)) (λiv=>n - (intOf iv).toNat);case atStart=>exact ⟨0,I7 _,rfl,λj hj=>by omega⟩
 case round =>
  obtain ⟨k,hk,rfl,hall⟩:=hrel
  by_cases hlt : k<n
  ·have ck:=hi.cell k hlt
   by_cases hz : nth l k=0
   ·have hz' : (nth l k != 0)=false:=by simpa using hz
    have Hz:=Z5 hz
    clear hz
    go_wp2_with fail
    refine (q9 _ _).mono ?_
    rintro e w' ⟨rfl,rfl⟩
    go_wp2_with fail
    go_round
    case rel=>exact ⟨k+1,by omega,by go_num,λj hj=>by
     rcases JV j k with h | h
     ·exact hall.out j h
     ·rw [show j=k by omega];exact Hz.out⟩
    case measure=>simp [intOf] <;> omega
   ·have hz' : (nth l k != 0)=true:=by simpa using hz
    have Hf : Hid (iD l=k):=by show _=_;have:=uY l k (by rw [Hlen.out];exact hlt) hall.out hz;rw [iD,this,I6 (by rw [Hlen.out];exact hlt)]
    clear hz
    go_wp2_with fail
    refine (q9 _ _).mono ?_
    rintro e w' ⟨rfl,rfl⟩
    go_wp2_with fail
    go_ret
    exact ⟨aH Hf.out.symm,rfl⟩
  ·obtain rfl : k=n:=by omega
   have Hf : Hid (iD l = -1):=by show _=_;have:=nh l (by rw [Hlen.out];exact hall.out);rw [iD,this,I5 (by omega)]
   go_wp2_with fail
   go_ret
   exact ⟨aH Hf.out.symm,rfl⟩
theorem B5 {w w0 : World} {b : Nat} {G : cW} (bb : Nat) (ar : OA) (cr : Nat) (R : La) (ap : OA) (cp : Nat) (s : BS) (av : OA) (cv n : Nat) (v : Lz)
  (h : dT w0 b G) (hb : NS w0 w) (hB : mL w w0.heap.size bb b ar cr R ap cp s) (hs : s.Ok G.El n) (hv : w.ownsRow w0.heap.size 3 1 (.slice av n cv) n (v.map (Value.int .i64)))
  (hav : av ≠ none->¬ qH bb ar R ap (aj av)) (hve : G.Bz v) (hn : n<=1000000) (hk : s.rows.length<=1000000) :
  Calls prog 268 #[.pointer (some ⟨bb,0,none⟩),.slice av n cv] w (xk w0 bb b ar R ap av G.ops s v w):=by
 have hvl : v.length=n:=by simpa using iP hv
 have hpv:=(Ni hv).1.pl;have hcl:=NA h;have hred:=kT hcl hs.rws hs.plc ⟨hvl,hve⟩;have Hred:=Z5 hred;have Hvl:=Z5 hvl;have Hs:=Z5 hs;have Hve:=Z5 hve;have c1:=hB.c1;have hplr:=hB.om.pl;clear hred hvl hs hve;go_enter func268,ntmps268;go_wp2_with fail;obtain ⟨kk,hkk⟩ : ∃kk,s.rows.length=kk:=⟨_,rfl⟩
 have Hkk:=Z5 hkk;rw [hkk] at hk hplr c1;rw [hkk];clear hkk;go_loopw [18] (λiv wr=>∃k : Nat,k<=kk/\iv = .int .i64 k/\wr.ownsRow w0.heap.size 3 1 (.slice av n cv) n ((bu G.ops s.rows s.place v k).map (Value.int .i64))/\cP av w wr) (λiv _=>kk - (intOf iv).toNat);case atStart=>exact ⟨0,I7 _,rfl,hv,ND _ _⟩
 case round =>
  obtain ⟨k,hkk2,rfl,hown,honly⟩:=hrel
  have hBr:=hB.only honly hav
  by_cases hlt : k<kk
  ·have hkr : k<s.rows.length:=by rw [Hkk.out];exact hlt
   have e0:=hBr.c0
   have e2:=hBr.c2
   have er:=hBr.om.cell hkr
   have ir:=hBr.om.ints hkr
   have hrow:=Hs.out.rws.row hkr
   have hplc:=Hs.out.plc k hkr
   rw [hrow.1] at er ir
   obtain ⟨ip,mp⟩:=Ni hBr.pl
   have ep:=ip.cell k hkr
   have hpp:=ip.pl
   rw [Hkk.out] at e2 hpp
   obtain ⟨pn,hpn⟩ : ∃pn : Nat,nth s.place k=pn:=⟨(nth s.place k).toNat,by omega⟩
   rw [hpn] at ep hplc
   have hpnn : pn<n:=by omega
   have hrd:=Hred.out k (by omega)
   have hrd1:=Hred.out (k+1) (by omega)
   have hstep : bu G.ops s.rows s.place v (k+1)=dG G.ops (bu G.ops s.rows s.place v k) pn (an s.rows k):=by rw [bu,hpn]
   have Hstep:=Z5 hstep
   have Hrow:=Z5 hrow
   have Hpn:=Z5 hpn
   clear hstep hpn
   obtain ⟨u,hu⟩ : ∃u,bu G.ops s.rows s.place v k=u:=⟨_,rfl⟩
   rw [hu] at hown hrd
   have Hu:=Z5 hu
   obtain ⟨iu,mu⟩:=Ni hown
   have eu:=iu.cell pn hpnn
   have hpu:=iu.pl
   have Hrd:=Z5 hrd
   clear hu hrow hrd hrd1
   by_cases hz : nth u pn=0
   ·have hz' : (nth u pn != 0)=false:=by simpa using hz
    have Hn : Hid (bu G.ops s.rows s.place v (k+1)=u):=by show _=_;rw [Hstep.out,Hu.out,dG,Jd,I6 hz]
    clear hz
    go_wp2_with fail
    go_roundw
    case rel=>exact ⟨k+1,by omega,by go_num,by rw [Hn.out];exact hown,honly⟩
    case measure=>simp [intOf] <;> omega
   ·have hz' : (nth u pn != 0)=true:=by simpa using hz
    have Hn : Hid (bu G.ops s.rows s.place v (k+1)=dF G.ops u (nth u pn) (an s.rows k)):=by show _=_;rw [Hstep.out,Hu.out,dG,Jd,I5 hz]
    have hxe : G.El (nth u pn):=Hrd.out.2 _ (aK (by rw [Hrd.out.1];exact hpnn))
    have hSl : (dF G.ops u (nth u pn) (an s.rows k)).length=u.length:=dY _ _ _ _ (by rw [Hrow.out.1,Hrd.out.1])
    have hSn:=λi hi=>eF G.ops u (nth u pn) (an s.rows k) i (by rw [Hrow.out.1,Hrd.out.1]) hi
    have HSl:=Z5 hSl
    have HSn:=Z5 hSn
    clear hz hSl hSn
    have hplr2:=ir.pl
    go_wp2_with fail
    generalize nth u pn=x at *
    generalize dF G.ops u x (an s.rows k)=S at *
    go_loopw [37] (λiv wx=>∃j : Nat,j<=n/\iv = .int .i64 j/\wx.ownsRow w0.heap.size 3 1 (.slice av n cv) n ((fc S u j).map (Value.int .i64))/\cP av w wx) (λiv _=>n - (intOf iv).toNat)
    case atStart=>exact ⟨0,I7 _,rfl,by rw [eQ];exact hown,honly⟩
    case round =>
     obtain ⟨j,hj,rfl,hown2,honly2⟩:=hrel
     have hBx:=hB.only honly2 hav
     have ix:=hBx.om.ints hkr
     rw [Hrow.out.1] at ix
     by_cases hjn : j<n
     ·have cj:=ix.cell j hjn
      have f0:=hBx.c0
      obtain ⟨im,mm⟩:=Ni hown2
      have cm:=im.cell j hjn
      have fm:=(mm (by omega)).2 j hjn
      have hju : j<u.length:=by rw [Hrd.out.1];exact hjn
      have hmix:=ek S u j j HSl.out (by omega)
      rw [I5 (by omega)] at hmix
      rw [hmix] at cm
      have hset:=ey S u j HSl.out hju
      rw [HSn.out j hju] at hset
      have Hset:=Z5 hset
      have ely : G.El (nth (an s.rows k) j):=Hrow.out.2 _ (aK (by rw [Hrow.out.1];exact hjn))
      have elv : G.El (nth u j):=Hrd.out.2 _ (aK hju)
      have elm : ∀x y,G.El (G.mul x y):=λx y=>NJ h x y
      have hbx : NS w0 wr:=Ju hb (honly2.below (λha=>(aM hv ha).1) hb.size)
      have hGr : dT wr b G:=h.aa hbx
      have HG : Hid (dT wr.drew b G/\∀n,dT (wr.drewN n) b G):=⟨hGr.aa (I1 _ _).drew,λn=>hGr.drewN n⟩
      clear hset hmix
      go_wp2_with fail
      go_region_law ((first
       | (go_simp;go_at_call 153;((with_reducible refine (n9 x (nth (an s.rows k) j) HG.out.1 hxe ely).mono ?_);rintro e w4 ⟨m4,rfl,rfl⟩))
       | (go_simp;go_at_call 153;((with_reducible refine (n9 x (nth (an s.rows k) j) (HG.out.2 _) hxe ely).mono ?_);rintro e w4 ⟨m4,rfl,rfl⟩))
       | (go_simp;go_at_call 191;((with_reducible refine (Gq (nth u j) (G.mul x (nth (an s.rows k) j)) (HG.out.2 _) elv (elm _ _)).mono ?_);rintro e w4 ⟨m5,rfl,rfl⟩))))
      all_goals (
       go_wp2_with fail
       go_roundw
       case rel =>
        have hdr : bf wr (wr.drewN (1+m4+m5)):=⟨_,rfl⟩
        refine ⟨j+1,by omega,by go_num,?_,honly2.trans ((Nt hdr).trans (Nz _ j _ (by intro e;have:=hpv (by omega);rw [e] at this;cases this)))⟩
        have h1:=bT (w:=wr.drewN (1+m4+m5)) hown2 j hjn (.int .i64 (G.sub (nth u j) (G.mul x (nth (an s.rows k) j))))
        rw [<- Jq,show G.sub (nth u j) (G.mul x (nth (an s.rows k) j))=G.ops.add (nth u j) (G.ops.neg (G.ops.mul x (nth (an s.rows k) j))) from rfl,Hset.out] at h1
        exact h1
       case measure=>simp [intOf] <;> omega)
     ·obtain rfl : j=n:=by omega
      rw [fD S u j (by rw [HSl.out,Hrd.out.1]) Hrd.out.1] at hown2
      go_wp2_with fail
      go_roundw
      case rel=>exact ⟨k+1,by omega,by go_num,by rw [Hn.out];exact hown2,honly2⟩
      case measure=>simp [intOf] <;> omega
  ·obtain rfl : k=kk:=by omega
   have hrd:=Hred.out k (by rw [Hkk.out];exact IZ _)
   have hurd : bu G.ops s.rows s.place v k=s.red G.ops v:=by rw [BS.red,Hkk.out]
   rw [hurd] at hown hrd
   obtain ⟨iu,mu⟩:=Ni hown
   have Hrd:=Z5 hrd
   clear hurd hrd
   go_wp2_with fail
   refine (ug _ _ _ _ _ iu).mono ?_
   rintro e w' ⟨rfl,rfl⟩
   by_cases hf : fY (s.red G.ops v)<(s.red G.ops v).length
   ·have hfv : iD (s.red G.ops v)=fY (s.red G.ops v):=by rw [iD,I6 hf]
    have hfn:=iY _ hf
    have Ht : Hid (s.dz G.ops v=true):=by show _=_;simpa [BS.dz] using hf
    have HN : Hid (s.next G.ops v=⟨s.rows ++ [(s.red G.ops v).map (G.mul (G.inv (nth (s.red G.ops v) (fY (s.red G.ops v)))))],s.place ++ [(fY (s.red G.ops v) : Int)]⟩):=by show _=_;rw [BS.next,I6 Ht.out];rfl
    rw [hfv]
    obtain ⟨u,hu⟩ : ∃u,s.red G.ops v=u:=⟨_,rfl⟩
    rw [hu] at hown Hrd hf hfn iu HN
    rw [hu]
    clear hu hfv
    obtain ⟨f,hff⟩ : ∃f,fY u=f:=⟨_,rfl⟩
    rw [hff] at hf hfn HN
    rw [hff]
    have hfn' : f<n:=by rw [<- Hrd.out.1];exact hf
    have e0:=hBr.c0
    have eu:=iu.cell f hfn'
    have hpu:=iu.pl
    have elf : G.El (nth u f):=Hrd.out.2 _ (aK hf)
    have hbx : NS w0 wr:=Ju hb (honly.below (λha=>(aM hv ha).1) hb.size)
    have hGr : dT wr b G:=h.aa hbx
    have HG : Hid (dT wr.drew b G/\∀n,dT (wr.drewN n) b G):=⟨hGr.aa (I1 _ _).drew,λn=>hGr.drewN n⟩
    have Hfn:=Z5 hfn
    have Hf:=Z5 hf
    clear hff hfn hf
    go_upto_region 15 with fail
    go_cut [11] (λdv wx=>dv = .int .i64 (G.inv (nth u f))/\bf wr wx)
    case first =>
     go_region_held3 (λw'=>w'.cell? ⟨bb,0,none⟩=some (.pointer (some ⟨b,0,none⟩))/\w'.cell? ⟨aj av,aL av+f,none⟩=some (.int .i64 (nth u f)))
      (exact ⟨e0,eu⟩)
      (first
      | (go_at_call 193;((with_reducible refine (zB _ HG.out.1 elf Hfn.out).mono ?_);rintro e w4 ⟨m4,rfl,rfl⟩)))
     all_goals (
      go_step;go_step
      go_meet
      exact ⟨rfl,⟨_,rfl⟩⟩)
    obtain ⟨rfl,hdr⟩:=hcut
    generalize wc=V at *
    have hBV : mL V w0.heap.size bb b ar cr R ap cp s:=hBr.aa hdr.below
    have hownV:=aX hown hdr.below
    have hbV : NS w0 V:=hdr.ue hbx
    have honV : cP av w V:=honly.trans (Nt hdr)
    clear hBr hown hbx hGr HG e0 eu iu mu hdr honly
    obtain ⟨iu,mu⟩:=Ni hownV
    have HGV : Hid (dT V.drew b G/\∀n,dT (V.drewN n) b G):=⟨(h.aa hbV).aa (I1 _ _).drew,λn=>(h.aa hbV).drewN n⟩
    have hiel : G.El (G.inv (nth u f)):=NP h _
    have e0:=hBV.c0
    have e1:=hBV.c1
    have f1:=hBV.fr 1
    have hS : ∀W,NS V W->W.cell? ⟨bb,0,none⟩=some (.pointer (some ⟨b,0,none⟩))/\W.cell? ⟨bb,1,none⟩=some (.slice ar s.rows.length cr)/\W.frozen? ⟨bb,1,none⟩=false/\NS V W:=by intro W hW;have hBW:=hBV.aa hW;exact ⟨hBW.c0,hBW.c1,hBW.fr 1,hW⟩
    have HS:=Z5 hS
    have haptb : cJ ar bb:=by
     by_cases ha : ar=none
     ·exact .inl ha
     ·exact .inr λe=>hBV.d1 (.inl ⟨ha,e.symm⟩)
    have hR : ∀W,NS V W->W.ownsRow w0.heap.size 22 1 (.slice ar k cr) k (List.zipWith eY R s.rows):=λW hW=>by have:=(hBV.om.aa hW).own;rwa [Hkk.out] at this
    have HR:=Z5 hR
    obtain ⟨N,hN⟩ : ∃N,u.map (G.mul (G.inv (nth u f)))=N:=⟨_,rfl⟩
    have hsc : Calls prog 194 #[.pointer (some ⟨b,0,none⟩),.int .i64 (G.inv (nth u f)),.slice av n cv] V.drew (dh V.drew N):=by rw [<- hN];exact uE (G.inv (nth u f)) _ _ _ u HGV.out.1 hiel (iu.aa (I1 _ _).drew) Hrd.out.2 hn
    have Hsc:=Z5 hsc
    have HNe:=Z5 hN
    rw [hN] at HN
    clear hN hsc
    clear hS hR
    go_upto_region 16 with fail
    go_cut [] (λwx=>∃ar' cr' R',wx.cell? ⟨bb,1,none⟩=some (.slice ar' (k+1) cr')/\aP wx w0.heap.size ar' (k+1) cr' R' (s.rows ++ [N]) /\
     aA V wx (λx=>x=bb\/bS ar R x) (λx=>x=bb\/bS ar' R' x)/\¬ bS ar' R' bb /\
     (∀i v,i ≠ 1->V.cell? ⟨bb,i,none⟩=some v->wx.cell? ⟨bb,i,none⟩=some v)/\∀i,wx.frozen? ⟨bb,i,none⟩=false)
    case first =>
     rw [Hkk.out] at e1 HS
     go_region_law ((first
      | (go_simp;go_at_call 194;((with_reducible refine Hsc.out.mono ?_);rintro e w4 ⟨a4,c4,rfl,hown4,hb4⟩;obtain ⟨q0,q1,q2,q5⟩:=HS.out w4 (Nh (I1 _ _).drew hb4);have q6 : bb<w4.heap.size:=Jf w4 _ q0))
      | (refine bH (by rfl) (.tmp 83) (.tmp 91) 25 22 (by rfl) (.slice none 0 0) 24 underlying25 di (by rfl) w0.heap.size ar k cr (List.zipWith eY R s.rows) (by rfl) (HR.out _ (Nh q5 (aw _ _))) (some ⟨w4.heap.size,0,none⟩) 1 1 [.slice a4 N.length c4] (by rfl) (λ_=>rfl) rfl (by intro j hj;obtain rfl : j=0:=(by omega);exact bM _ _ _ rfl) (by intro y hy;simp at hy;subst hy;rfl) (by omega) (by unfold maxLen;omega) (by have e1:=hbV.size;have e2:=J7 q5;simp;omega) ?_;intro a5 c5 w5 hown5 hgr5 hap5;have p1:=bC hgr5 (aY q1 _) haptb;have p2 : w5.frozen? ⟨bb,1,none⟩=false:=(JJ (hgr5.block bb (Jf _ _ (aY q1 _)) (λe=>haptb.own k cr e.symm))).trans (ef (Jf _ _ q1) q2 _))))
     all_goals (
      go_wp2_with fail
      go_meet
      exact hBV.CY Hkk.out hbV.size (Nh (I1 _ _).drew hb4) hown4 hown5 hgr5 hap5 ⟨_,p1⟩)
    obtain ⟨ar',cr',R',y1,hOX,hMX,hdX,hcX,hfX⟩:=hcut
    generalize wc=X at *
    have y0:=hcX 0 _ (by omega) e0
    have y2:=hcX 2 _ (by omega) hBV.c2
    have yf:=hfX 2
    have hnI : ap ≠ none->¬ (aj ap=bb\/bS ar R (aj ap)):=λh0 hI=>by
     rcases hI with h1 | h1
     ·rcases hBV.d2 with h2 | h2
      ·exact h0 h2
      ·exact h2 h1
     ·exact hBV.d3 h0 h1
    have hpX:=hMX.own hBV.pl hnI
    have hd3 : ap ≠ none->¬ bS ar' R' (aj ap):=λh0 hI=>hMX.not (aM hBV.pl h0).2 (hnI h0) (.inr hI)
    rw [Hkk.out] at y2 hpX
    have hbX : NS w0 X:=hbV.trans (hMX.below (λx hx=>(hBV.lt x (by rcases hx with h1 | h1;exact .inl h1;exact .inr (.inl h1))).1) hbV.size)
    have hz : bb<X.heap.size:=Jf X _ y0
    have HfX:=Z5 hfX
    have Hd3:=Z5 hd3
    have HdX:=Z5 hdX
    have hd2:=hBV.d2
    have hbB:=hBV.bB
    have hcn:=bk X (.int .i64 f) 3
    clear hcX hfX hd3 hdX e0 e1 f1
    go_wp2_with (at_builtin;refine bg rfl _ _ 22 3 rfl (.int .i64 0) 8 underlying22 ba rfl w0.heap.size ap k cp _ rfl (hpX.alloc _) ⟨X.heap.size,0,none⟩ 1 (.int .i64 f) rfl hcn rfl (by omega) (by unfold maxLen;omega) (by have e1:=hbX.size;simp;omega) ?_;intro a6 c6 w6 hown6 hgr6 hap6;have p1:=bC hgr6 (aY y2 _) hd2;have p2 : w6.frozen? ⟨bb,2,none⟩=false:=(JJ (hgr6.block bb (Jf _ _ (aY y2 _)) (λe=>hd2.own k cp e.symm))).trans (ef hz yf _))
    have hP:=mL.Dv (w6:=w6) hbB y0 y1 ⟨_,y2⟩ HfX.out hOX hpX HdX.out hd2 Hd3.out hown6 hgr6 hap6
    have HP:=Z5 hP
    clear hP
    go_ret
    refine ⟨ar',cr',R',a6,c6,bd Ht.out.symm,by rw [HN.out];exact HP.out.1,?_⟩
    refine NK (w':=V) (I':=λx=>qH bb ar R ap x\/(av ≠ none/\x=aj av)) ?_ (NK (w':=X) (I':=qH bb ar' R' ap) ?_ HP.out.2)
    ·exact ⟨honV.os,honV.tape,honV.output,honV.size,λx hx hI=>honV.block x hx λh2=>hI (.inr h2),λx hx=>.inl hx⟩
    ·refine ⟨hMX.os,hMX.tape,hMX.output,hMX.size,λx hx hI=>hMX.block x hx λh2=>hI (.inl (by rcases h2 with h3 | h3;exact .inl h3;exact .inr (.inl h3))),λx hx=>?_⟩
     rcases hx with h1 | h1 | h1
     ·exact .inl (.inl (.inl h1))
     ·rcases hMX.grow x (.inr h1) with h2 | h2
      ·exact .inl (.inl (by rcases h2 with h3 | h3;exact .inl h3;exact .inr (.inl h3)))
      ·exact .inr h2
     ·exact .inl (.inl (.inr (.inr h1)))
   ·have hfv : iD (s.red G.ops v) = -1:=by rw [iD,I5 hf]
    rw [hfv]
    have Ht : Hid (s.dz G.ops v=false):=by show _=_;simp [BS.dz];omega
    have HN : Hid (s.next G.ops v=s):=by show _=_;rw [BS.next,I5 (by rw [Ht.out];simp)]
    clear hf hfv
    go_wp2_with fail
    go_ret
    refine ⟨ar,cr,R,ap,cp,bd Ht.out.symm,by rw [HN.out];exact hBr,?_⟩
    exact ⟨honly.os,honly.tape,honly.output,honly.size,λx hx hI=>honly.block x hx λh2=>hI (.inr h2),λx hx=>.inl (.inl hx)⟩
def bz (b : Bool) (U : Lz) : Nat->Lz
 | 0=>[]
 | k+1=>if decide ((k : Int) ∈ U)=b then bz b U k ++ [(k : Int)] else bz b U k
theorem ew {b : Bool} {U : Lz} {x : Int} : ∀k,x ∈ bz b U k ↔ ∃j : Nat,j<k/\x=j/\decide ((j : Int) ∈ U)=b
 | 0=>by simp [bz]
 | k+1=>by
  rw [bz];by_cases h : decide ((k : Int) ∈ U)=b
  ·rw [I6 h,JM,ew k,JN];constructor
   ·rintro (⟨j,hj,e,hb⟩ | e)
    ·exact ⟨j,by omega,e,hb⟩
    ·exact ⟨k,by omega,e,h⟩
   ·rintro ⟨j,hj,e,hb⟩;by_cases ejk : j=k
    ·subst ejk;exact .inr e
    ·exact .inl ⟨j,by omega,e,hb⟩
  ·rw [I5 h,ew k];constructor
   ·rintro ⟨j,hj,e,hb⟩;exact ⟨j,by omega,e,hb⟩
   ·rintro ⟨j,hj,e,hb⟩;by_cases ejk : j=k
    ·subst ejk;exact absurd hb h
    ·exact ⟨j,by omega,e,hb⟩
theorem gk (b : Bool) (U : Lz) : ∀k,(bz b U k).length<=k
 | 0=>IZ _
 | k+1=>by have:=gk b U k;rw [bz];split <;> simp <;> omega
theorem qn (U : Lz) : ∀k,(bz false U k).length+(bz true U k).length=k
 | 0=>rfl
 | k+1=>by
  have:=qn U k;rw [bz,bz];by_cases h : (k : Int) ∈ U
  ·simp [h];omega
  ·simp [h];omega
def eB (m : Nat) (U : Lz) : Lz:=bz false U m ++ bz true U m
theorem kN (m : Nat) (U : Lz) : (eB m U).length=m:=by rw [eB,Jh,qn]
theorem rP {m : Nat} {U : Lz} {x : Int} : x ∈ eB m U ↔ ∃j : Nat,j<m/\x=j:=by
 rw [eB,JM,ew,ew];constructor
 ·rintro (⟨j,hj,e,_⟩ | ⟨j,hj,e,_⟩) <;> exact ⟨j,hj,e⟩
 ·rintro ⟨j,hj,e⟩;by_cases h : (j : Int) ∈ U
  ·exact .inr ⟨j,hj,e,by simpa using h⟩
  ·exact .inl ⟨j,hj,e,by simpa using h⟩
theorem AZ (m : Nat) (U : Lz) : pA m (eB m U):=λj hj=>by obtain ⟨i,hi,e⟩:=rP.1 (aK hj);omega
def dn (U S : Lz) : Nat->Int
 | 0=>0
 | k+1=>if nth S k ∈ U then dn U S k else dn U S k+1
theorem lD (U S : Lz) : ∀k,0<=dn U S k/\dn U S k<=k
 | 0=>by simp [dn]
 | k+1=>by have:=lD U S k;rw [dn];split <;> omega
theorem xx {U S : Lz} : ∀k,k<=S.length->dn U S k ≠ 0->∃x ∈ S,¬ x ∈ U
 | 0,_,h=>absurd rfl h
 | k+1,hk,h=>by
  rw [dn] at h;split at h
  ·exact xx k (by omega) h
  ·rename_i h1;exact ⟨_,aK (by omega),h1⟩
def cG (O : aS) (L : Ll) (m : Nat) (U : Lz) : Lz:=gD O L (eB m U)
def ga (O : aS) (L : Ll) (m : Nat) : Nat->Lz->List (Lz × Int)->List (Lz × Int)
 | 0,_,T=>T
 | f+1,U,T=>if dn U (cG O L m U) (cG O L m U).length=0 then T else ga O L m f (U ++ bA (cG O L m U)) (T ++ [(bA (cG O L m U),dn U (cG O L m U) (cG O L m U).length)])
def eo (O : aS) (L : Ll) (m : Nat) : List (Lz × Int):=ga O L m (m+1) [] []
theorem sX {U V : Lz} (h : ∀x ∈ U,x ∈ V) : ∀k,(bz false V k).length<=(bz false U k).length
 | 0=>IZ _
 | k+1=>by
  have ih:=sX h k;rw [bz,bz];by_cases h1 : (k : Int) ∈ U
  ·simp [h1,h _ h1];exact ih
  ·by_cases h2 : (k : Int) ∈ V
   ·simp [h1,h2];omega
   ·simp [h1,h2];exact ih
theorem tG {U V : Lz} (h : ∀x ∈ U,x ∈ V) {x : Nat} (hx : ¬ (x : Int) ∈ U) (hv : (x : Int) ∈ V) : ∀k,x<k->(bz false V k).length<(bz false U k).length
 | 0,hk=>by omega
 | k+1,hk=>by
  by_cases e : x=k
  ·subst e;have ih:=sX h x;rw [bz,bz];simp [hx,hv];omega
  ·have ih:=tG h hx hv k (by omega);rw [bz,bz];by_cases h1 : (k : Int) ∈ U
   ·simp [h1,h _ h1];exact ih
   ·by_cases h2 : (k : Int) ∈ V
    ·simp [h1,h2];omega
    ·simp [h1,h2];exact ih
theorem kJ (O : aS) (L : Ll) (Q : Lz) : ∀k,k<=Q.length->∀x ∈ (bU O L Q k).2,x ∈ Q
 | 0,_,x,hx=>by simp [bU] at hx
 | k+1,hk,x,hx=>by
  rw [bU] at hx;split at hx
  ·rcases List.mem_append.1 hx with hx | hx
   ·exact kJ O L Q k (by omega) x hx
   ·rw [JN] at hx;rw [hx];exact aK (by omega)
  ·exact kJ O L Q k (by omega) x hx
theorem AP {O : aS} {L : Ll} {m : Nat} {U : Lz} {x : Int} (hx : x ∈ cG O L m U) : ∃j : Nat,j<m/\x=j:=rP.1 (kJ O L (eB m U) _ (IZ _) x hx)
theorem qE {O : aS} {L : Ll} {m : Nat} {U : Lz} (h : dn U (cG O L m U) (cG O L m U).length ≠ 0) : (bz false (U ++ bA (cG O L m U)) m).length<(bz false U m).length:=by obtain ⟨x,hx,hn⟩:=xx _ (IZ _) h;obtain ⟨j,hj,rfl⟩:=AP hx;exact tG (λy hy=>List.mem_append.2 (.inl hy)) hn (List.mem_append.2 (.inr ((dc _).mem_iff.2 hx))) m hj
section
variable {f : Nat->Int} {N : Nat} (hf : ∀y,f y<=N)
include hf
end

section
variable {O : aS} {El : Int->Prop} {m : Nat}
end
section
variable {P M : Int} {mod : Lz} {m : Nat} {L : Ll} {Q : Lz}
end
section
variable {O : aS} {El : Int->Prop} {m : Nat} {R : Ll} {P : Lz}
theorem vi (hR : cw El m R) (hP : pM R P m) (hlen : R.length=P.length) : BS.Inv El m ⟨R,P⟩ where
 ok:=⟨hR,hlen.symm,λi hi=>hP.lt i (by rw [<- hlen];exact hi)⟩
 one:=λi hi=>by show nth (an R i) (nth P i).toNat=1;rw [hP.one i i (by rw [<- hlen];exact hi) hi,I6 rfl]
 zero:=λj i hj hi=>by have hi' : i<R.length:=hi;show nth (an R i) (nth P j).toNat=0;rw [hP.one j i (by omega) hi',I5 (by omega)]
theorem D8 (F : dw O El) (hI : BS.Inv El m ⟨R,P⟩) {v : Lz} (hv : Vc El m v) (hs : RS O El m R (λx=>nth v x)) : ∀k,k<=R.length->RS O El m R (λx=>nth (bu O R P v k) x)
 | 0,_=>hs
 | k+1,hk=>by have hu : Vc El m (bu O R P v k):=Vc.bu F hI.ok hv k (show k<=R.length by omega);have hp : (nth P k).toNat<m:=hI.ok.pl (show k<R.length by omega);have hr : Vc El m (an R k):=hI.ok.row (show k<R.length by omega);refine ((D8 F hI hv hs k (by omega)).comb F (.row F (i:=k) (by omega)) (hu.at hp)).congr λx hx=>?_;rw [bu,ib F hu hr hp hx,F.mul_comm _ _ (hu.at hp) (hr.at hx)]
theorem xC (F : dw O El) (hR : cw El m R) (hP : pM R P m) (hlen : R.length=P.length) {v : Lz} (hv : Vc El m v) (hs : RS O El m R (λx=>nth v x)) : ∀x,x<m->nth (bu O R P v R.length) x=0:=by have hI:=vi hR hP hlen;obtain ⟨e,he,h⟩:=D8 F hI hv hs R.length (IZ _);intro x hx;have h1 : nth (bu O R P v R.length) x=e (bs R x):=h x hx;rw [h1];refine hP.all F hR hx e he λy hy=>?_;obtain ⟨j,hj,rfl⟩:=(gQ P _ _).1 hy;rw [<- h _ (by have:=hP.lt j hj;omega)];exact hI.place F hv R.length (IZ _) j (by omega)
def bw (O : aS) (m : Nat) (x : Lz) (L : Ll) : Nat->Lz
 | 0=>List.replicate m 0
 | k+1=>if nth x k=0 then bw O m x L k else bP O (bw O m x L k) (nth x k) (an L k)
theorem RS.add (F : dw O El) {L : Ll} {f g : Nat->Int} (hL : cw El m L) (hf : RS O El m L f) (hg : RS O El m L g) {s : Int} (hs : El s) : RS O El m L (λx=>O.add (f x) (O.mul (g x) s)):=by
 refine (hf.comb F hg (F.cl.neg s hs)).congr λx hx=>?_;obtain ⟨e,he,h⟩:=hg;have hgx : El (g x):=by rw [h x hx];exact he.el _ (gu hL F.zero x)
 rw [F.mul_neg hgx hs,F.neg_neg (F.cl.mul _ _ hgx hs)]
theorem jc (F : dw O El) {L : Ll} (hL : cw El m L) {x : Lz} (hx : ∀k,k<L.length->El (nth x k)) : ∀k,k<=L.length->Vc El m (bw O m x L k)/\RS O El m L (λi=>nth (bw O m x L k) i)
 | 0,_=>by
  have h0 : ∀i,nth (List.replicate m (0 : Int)) i=0:=λi=>by unfold nth;simp only [Jc,JX];split <;> rfl
  exact ⟨⟨by simp [bw],λy hy=>by rw [KG hy];exact F.zero⟩,RS.GS F λi _=>h0 i⟩
 | k+1,hk=>by
  obtain ⟨h1,h2⟩:=jc F hL hx k (by omega);have hr:=hL.row (i:=k) (by omega);have hs:=hx k (by omega);rw [bw];split
  ·exact ⟨h1,h2⟩
  ·have hl : (an L k).length=(bw O m x L k).length:=by rw [hr.1,h1.1]
   refine ⟨⟨by rw [cA _ _ _ _ hl];exact h1.1,ow F.cl h1.2 hr.2 hs⟩,(RS.add F hL h2 (.row F (i:=k) (by omega)) hs).congr λi hi=>?_⟩;have hri : El (nth (an L k) i):=NH hr hi;rw [gK O _ _ _ i hl (by rw [h1.1];exact hi)];split
   ·rename_i e0;rw [e0,F.oD hs,F.add_zero _ (h1.at hi)]
   ·rw [F.mul_comm _ _ hs hri]
end
section
theorem aP.setOther {w : World} {B : Nat} {a : OA} {n c : Nat} {R : La} {L : Ll} (h : aP w B a n c R L) {p : Addr} (hp : p.block<B) (v : Value) : aP (w.setCell p v) B a n c R L :=
 h.bj λb hb=>Jr _ _ _ _ (by have:=(h.lt b hb).1;omega)
structure kB (w : World) (g : Nat) (x : Value) (a : OA) (k c : Nat) (R : La) (L : Ll) : Prop where
 lt : g<w.heap.size
 c0 : w.cell? ⟨g,0,none⟩=some x
 c1 : w.cell? ⟨g,1,none⟩=some (.slice a k c)
 fr : ∀i,w.frozen? ⟨g,i,none⟩=false
 om : aP w (g+1) a k c R L
namespace kB
variable {w w' w4 w5 : World} {g : Nat} {x : Value} {a : OA} {k c : Nat} {R : La} {L : Ll}
theorem aa (h : kB w g x a k c R L) (hb : NS w w') : kB w' g x a k c R L :=
 ⟨Jv h.lt hb.size,aB hb h.c0,aB hb h.c1,λi=>jn hb h.lt (h.fr i),h.om.aa hb⟩
theorem sB (h : kB w g x a k c R L) : cJ a g:=by
 by_cases ha : a=none
 ·exact .inl ha
 ·exact .inr λe=>by have:=(aM h.om.own ha).1;omega
theorem jz {o : Obj} (h : kB w4 g x a k c R L) (hgr5 : (w4.alloc o).grownBy w5 (Value.slice a k c).ownBlock) : w5.cell? ⟨g,0,none⟩=some x/\w5.cell? ⟨g,1,none⟩=some (.slice a k c)/\w5.frozen? ⟨g,1,none⟩=false:=by
 have hb1:=aw w4 o;have hlt:=h.lt;have hs1:=hb1.size;exact ⟨bC hgr5 (aY h.c0 o) h.sB,bC hgr5 (aY h.c1 o) h.sB,
  (JJ (w:=w4.alloc o) (a:=⟨g,1,none⟩) (hgr5.block g (by omega) λe=>h.sB.own k c e.symm)).trans (ef h.lt (h.fr 1) _)⟩
theorem push {a4 a5 : OA} {n4 c4 c5 : Nat} {N : Lz} {o : Obj} (h : kB w4 g x a k c R L) (hn4 : N.length=n4)
  (hown4 : w4.ownsRow (g+1) 3 1 (.slice a4 n4 c4) n4 (N.map (Value.int .i64))) (hra : a4 ≠ none->¬ bS a R (aj a4))
  (hown5 : w5.ownsRow (g+1) 22 1 (.slice a5 (k+1) c5) (k+1) (List.zipWith eY R L ++ [.slice a4 n4 c4])) (hgr5 : (w4.alloc o).grownBy w5 (Value.slice a k c).ownBlock)
  (hap5 : ∀x,x<(w4.alloc o).heap.size->cJ a x->cJ a5 x) :
  kB (w5.setCell ⟨g,1,none⟩ (.slice a5 (k+1) c5)) g x a5 (k+1) c5 (R ++ [(a4,c4)]) (L ++ [N])/\Below g w4 (w5.setCell ⟨g,1,none⟩ (.slice a5 (k+1) c5)):=by
 subst hn4;have hb1:=aw w4 o;have hO:=h.om.aa hb1;have hr:=aX hown4 hb1;have hP:=Ny hO hr hra hown5 hgr5 hap5;have hlt:=h.lt;have hs1:=hb1.size;have hB5 : Below (g+1) w4 w5:=Nk (hb1.mono (by omega)) hO.own hgr5 (IZ _) (by omega);have hs:=hB5.size;have k0:=bC hgr5 (aY h.c0 o) h.sB;have k1:=bC hgr5 (aY h.c1 o) h.sB;refine ⟨⟨by simp;omega,?_,Jk _ _ _ k1,λi=>?_,hP.setOther (by simp) _⟩,(hB5.mono (by omega)).setCell (by simp) _⟩
 ·rw [Jw _ _ _ _ (by simp)];exact k0
 ·rw [J8];exact (JJ (w:=w4.alloc o) (a:=⟨g,i,none⟩) (hgr5.block g (by omega) λe=>h.sB.own k c e.symm)).trans (ef h.lt (h.fr i) _)
theorem start {U : World} {g : Nat} {x : Value} (hU : aZ U g [x,.slice none 0 0]) : kB U g x none 0 0 [] [] :=
 ⟨hU.1,hU.cell 0 rfl,hU.cell 1 rfl,hU.frozen,NB _ _⟩
end kB
end
section
open Go.RowKit
end
section
variable {m : Nat} {Q : Lz}
end
section
open Go.RowKit
end
section
open Go.RowKit
end

theorem zO (t d : Int) : (if t<d then d else t)=max t d:=by split <;> omega
end Go.Proofs.YtcfmiocdlcapoaaGreat
