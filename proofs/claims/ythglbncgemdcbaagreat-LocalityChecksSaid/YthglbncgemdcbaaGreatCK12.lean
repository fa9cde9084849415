import Derived.Test.YthglbncgemdcbaaGreatCK10
import Derived.Test.YthglbncgemdcbaaGreatCK11
import Derived.RangeFuncSeq
import Derived.Shelf.RegionOpen
namespace Go.Proofs.YthglbncgemdcbaaGreat
set_option linter.all false
set_option maxRecDepth 100000
set_option maxHeartbeats 8000000
open Go.RowKit Go.Proofs.Tryz
theorem Dy : dj 5 2 25 uM 0 25=true:=by decide +kernel
theorem IB : eW 5 2 25 uM:=aG (cI 5 2 25 uM) Dy
theorem DJ : dj 5 3 125 lj 0 32=true:=by decide +kernel
theorem C9 : dj 5 3 125 lj 32 32=true:=by decide +kernel
theorem Cj : dj 5 3 125 lj 64 32=true:=by decide +kernel
theorem CL : dj 5 3 125 lj 96 29=true:=by decide +kernel
theorem IW : eW 5 3 125 lj:=aG (aG (aG (aG (cI 5 3 125 lj) DJ) C9) Cj) CL
theorem EH : dj 7 2 49 uo 0 49=true:=by decide +kernel
theorem IU : eW 7 2 49 uo:=aG (cI 7 2 49 uo) EH
theorem Dn : dj 11 2 121 jF 0 32=true:=by decide +kernel
theorem yU : dj 11 2 121 jF 32 32=true:=by decide +kernel
theorem yR : dj 11 2 121 jF 64 32=true:=by decide +kernel
theorem zO : dj 11 2 121 jF 96 25=true:=by decide +kernel
theorem Gq : eW 11 2 121 jF:=aG (aG (aG (aG (cI 11 2 121 jF) Dn) yU) yR) zO
theorem Dr : dj 13 2 169 gH 0 32=true:=by decide +kernel
theorem za : dj 13 2 169 gH 32 32=true:=by decide +kernel
theorem zL : dj 13 2 169 gH 64 32=true:=by decide +kernel
theorem Az : dj 13 2 169 gH 96 32=true:=by decide +kernel
theorem yp : dj 13 2 169 gH 128 32=true:=by decide +kernel
theorem xb : dj 13 2 169 gH 160 9=true:=by decide +kernel
theorem GG : eW 13 2 169 gH:=aG (aG (aG (aG (aG (aG (cI 13 2 169 gH) Dr) za) zL) Az) yp) xb
def Jj (c : Nat × Nat) : Bool:=yc (dh c.1 1 []) c.1 c.2 && decide (0<c.2) && decide (c.2<c.1)
theorem JD : roots.all Jj=true:=by decide +kernel
theorem E5 : ((List.range 257).all λp=>p<2 || !fP p || roots.any λc=>c.1 == p)=true:=by decide +kernel
section
variable {P : Int} {M : Nat} {mod : LI} {q : Nat} {x : Int}
theorem AA (h : kj P M) (hx : eH P M x) : pw P M mod x 1=x:=by show dh P M mod (pw P M mod x 0) x=x;rw [pw,gM h hx]
theorem Iy (h : kj P M) (hx : eH P M x) : pw P M mod x 2=dh P M mod x x:=by show dh P M mod (pw P M mod x 1) x=_;rw [AA h hx]
theorem H8 (h : kj P M) (hx : eH P M x) : ∀k,pw P M mod (dh P M mod x x) k=pw P M mod x (2 * k)
 | 0=>rfl
 | k+1=>by rw [pw,H8 h hx k,<- Iy h hx,gS h];rfl
theorem z7 (h : kj P M) : ∀(f n : Nat) (x : Int),eH P M x->n<2 ^ f->fpw (dh P M mod) f x n=pw P M mod x n
 | 0,n,x,hx,hn=>by
  have : n=0:=by simpa using hn
  subst this;rfl
 | f+1,n,x,hx,hn=>by
  have ih:=z7 h f (n / 2) (dh P M mod x x) (fs h x x) (by rw [Mw] at hn;omega);unfold fpw;split
  ·rename_i h0;subst h0;rfl
  ·rw [ih,H8 h hx];split
   ·rename_i h1;have e : n=2 * (n / 2)+1:=by omega
    have e2 : pw P M mod x n=pw P M mod x (2 * (n / 2)+1):=congrArg _ e;rw [e2];rfl
   ·rename_i h1;have e : n=2 * (n / 2):=by omega
    exact (congrArg _ e).symm
structure Ord (P : Int) (M : Nat) (mod : LI) (q : Nat) (x : Int) : Prop where
 one : pw P M mod x (q - 1)=1
 ne : ∀k,0<k->k<q - 1->pw P M mod x k ≠ 1
theorem AX (h : kj P M) {a : Nat} (h1 : pw P M mod x a=1) : ∀n,pw P M mod x (a * n)=1
 | 0=>rfl
 | n+1=>by rw [L4,<- gS h,AX h h1 n,h1,gM h (vy h)]
theorem Gc (h : kj P M) {a b : Nat} (ha : pw P M mod x a=1) (hb : pw P M mod x b=1) : pw P M mod x (a % b)=1:=by have e : a=b * (a / b)+a % b:=(LU a b).symm;rw [e,<- gS h,AX h hb,gM h (o0 h x _)] at ha;exact ha
theorem Ib (h : kj P M) : ∀(b a : Nat),pw P M mod x a=1->pw P M mod x b=1->pw P M mod x (Nat.gcd b a)=1:=by
 intro b;induction b using Nat.strongRecOn with
 | ind b ih =>
  intro a ha hb
  by_cases h0 : b=0
  ·subst h0;rw [Nat.gcd_zero_left];exact ha
  ·rw [Nat.gcd_rec]
   exact ih (a % b) (LM _ (by omega)) b hb (Gc h ha hb)
theorem Ord.of (h : kj P M) (hx : eH P M x) (hq : q<=256) (ho : yc (dh P M mod) q x=true) : Ord P M mod q x:=by
 unfold yc at ho;rw [J9] at ho;obtain ⟨h1,h2⟩:=ho;have h1':=eq_of_beq h1;rw [z7 h 8 _ x hx (by omega)] at h1';refine ⟨h1',λk hk0 hk1 hk=>?_⟩;have hg:=Ib h k (q - 1) h1' hk;have hgd : Nat.gcd k (q - 1) ∣ q - 1:=Nat.gcd_dvd_right _ _;have hgl : Nat.gcd k (q - 1)<=k:=Nat.gcd_le_left _ hk0;have hg0 : 0<Nat.gcd k (q - 1):=Nat.gcd_pos_of_pos_left _ hk0;have h3:=List.all_eq_true.1 h2 (Nat.gcd k (q - 1)) (List.mem_range.2 (by omega));have h4 : (q - 1) % Nat.gcd k (q - 1)=0:=Nat.mod_eq_zero_of_dvd hgd;simp only [Ms,beq_iff_eq,bne_iff_ne,ne_eq] at h3;rcases h3 with (h3 | h3) | h3
 ·omega
 ·exact h3 h4
 ·rw [z7 h 8 _ x hx (by omega)] at h3;exact h3 hg
theorem Ord.nz (h : kj P M) (o : Ord P M mod q x) {k : Nat} (hk : k<q - 1) : pw P M mod x k ≠ 0:=by intro h0;have h1:=gS (mod:=mod) h x k (q - 1 - k);rw [h0,iA h,n7 h,show k+(q - 1 - k)=q - 1 by omega,o.one] at h1;omega
theorem Ord.inj (h : kj P M) (o : Ord P M mod q x) {i j : Nat} (hij : i<j) (hj : j<q - 1) : pw P M mod x i ≠ pw P M mod x j:=by
 intro e;have h1:=gS (mod:=mod) h x i (q - 1 - i);have h2:=gS (mod:=mod) h x j (q - 1 - i);rw [show i+(q - 1 - i)=q - 1 by omega,o.one,e,h2] at h1;have h3 : pw P M mod x (j - i)=1:=by have h4:=gS (mod:=mod) h x (j - i) (q - 1);rw [o.one,iA h,gM h (o0 h x _),show j - i+(q - 1)=j+(q - 1 - i) by omega,h1] at h4;exact h4
 exact o.ne (j - i) (by omega) (by omega) h3
theorem rU (h : kj P M) (hx : eH P M x) (o : Ord P M mod q x) : ∀(n k : Nat),k<=q - 1->q - 1 - k<n->0<k ->
  powTo (λz=>dh P M mod z x) n ((List.range k).map λi=>pw P M mod x i) (pw P M mod x k)=(List.range (q - 1)).map λi=>pw P M mod x i
 | 0,k,_,hn,_=>by omega
 | n+1,k,hk,hn,h0=>by
  by_cases hke : k=q - 1
  ·subst hke;refine iQ _ _ _ _ (.inr ?_);rw [o.one,Md];exact ⟨0,List.mem_range.2 h0,rfl⟩
  ·rw [qZ]
   ·have e : (List.range k).map (λi=>pw P M mod x i) ++ [pw P M mod x k]=(List.range (k+1)).map λi=>pw P M mod x i:=by rw [K5,Ko];rfl
    rw [e];exact rU h hx o n (k+1) (by omega) (by omega) (by omega)
   ·rintro (h1 | h1)
    ·exact o.nz h (by omega) h1
    ·obtain ⟨i,hi,e⟩:=List.mem_map.1 h1;exact o.inj h (List.mem_range.1 hi) (by omega) e
theorem Ord.fM (h : kj P M) (hx : eH P M x) (hq : 2<=q) (o : Ord P M mod q x) : fM P M mod q x=true:=by
 have hl : eK P M mod q x=(List.range (q - 1)).map λi=>pw P M mod x i:=by
  by_cases h2 : q=2
  ·subst h2;have : x=1:=by have:=o.one;rwa [show 2 - 1=1 from rfl,AA h hx] at this
   subst this;rw [eK,iQ _ _ _ _ (.inr (by simp))];rfl
  ·have:=rU h hx o q 1 (by omega) (by omega) (by omega);rw [AA h hx] at this;exact this
 unfold Proofs.YthglbncgemdcbaaGreat.fM;rw [hl,J9];refine ⟨by simp,?_⟩;have e : nth ((List.range (q - 1)).map λi=>pw P M mod x i) (q - 2)=pw P M mod x (q - 2):=by rw [aj (by simp;omega)];simp
 rw [e];have : dh P M mod (pw P M mod x (q - 2)) x=pw P M mod x (q - 1):=by rw [show q - 1=(q - 2)+1 by omega];rfl
 rw [this,o.one];rfl
theorem qj : ∀(n x y : Nat),2<=q->x<=y->y<x+n->fM P M mod q y=true->genTo P M mod q n x ≠ []
 | 0,x,y,_,h1,h2,_=>by omega
 | n+1,x,y,hq,h1,h2,hg=>by
  rw [genTo];by_cases hx : fM P M mod q x=true
  ·rw [JT hx];intro e;simp only [fM,J9,beq_iff_eq] at hx;rw [e] at hx;simp at hx;omega
  ·rw [JR hx];refine qj n (x+1) y hq ?_ (by omega) hg;rcases Nq h1 with h3 | h3
   ·subst h3;exact absurd hg hx
   ·exact h3
theorem yd {ex : LI} {y a b : Int} (g : sr P M mod q y ex) (ha : eH P M a) (hb : eH P M b) (ha0 : a ≠ 0) (hb0 : b ≠ 0) : dh P M mod a b ≠ 0:=by obtain ⟨i,_,rfl,_⟩:=g.log ha ha0;obtain ⟨j,_,rfl,_⟩:=g.log hb hb0;rw [gS g.res];exact g.Ia _
end
theorem CQ {P : Int} {M q : Nat} {l : List (Nat × Nat)} (h : eW P M q l) {v : Nat} (hv : v<q) : ∃c,Ap P M q v c=true:=⟨_,h v hv⟩
theorem I5 (p m : Nat) (hp : fP p=true) (h2 : 2<=p) (hm : 2<=m) (hm8 : m<=8) (hpw : (p : Int) ^ m<=256) : ∃l,eW p m (((p : Int) ^ m).toNat) l:=by
 have hp16 : p<=16:=by
  have h1:=dS (P:=(p : Int)) (by omega) hm;have h3 : (p : Int) ^ 2=p * p:=by rw [KH,KH,LK,Mo]
  rcases Kz 16 p with h4 | h4
  ·have h5 : 17 * 17<=p * p:=LY h4 h4;have h6 : ((17 * 17 : Nat) : Int)<=((p * p : Nat) : Int):=Int.ofNat_le.2 h5;rw [M4] at h6;omega
  ·exact h4
 have hc : p=2\/p=3\/p=4\/p=5\/p=6\/p=7\/p=8\/p=9\/p=10\/p=11\/p=12\/p=13\/p=14\/p=15\/p=16:=by omega
 have hd : m=2\/m=3\/m=4\/m=5\/m=6\/m=7\/m=8:=by omega
 rcases hc with rfl | rfl | rfl | rfl | rfl | rfl | rfl | rfl | rfl | rfl | rfl | rfl | rfl | rfl | rfl
 ·rcases hd with rfl | rfl | rfl | rfl | rfl | rfl | rfl
  ·exact ⟨_,Iv⟩
  ·exact ⟨_,IN⟩
  ·exact ⟨_,IK⟩
  ·exact ⟨_,IA⟩
  ·exact ⟨_,IG⟩
  ·exact ⟨_,IP⟩
  ·exact ⟨_,Ir⟩
 ·rcases hd with rfl | rfl | rfl | rfl | rfl | rfl | rfl
  ·exact ⟨_,IZ⟩
  ·exact ⟨_,IX⟩
  ·exact ⟨_,Ix⟩
  ·exact ⟨_,Im⟩
  ·exact absurd hpw (by decide)
  ·exact absurd hpw (by decide)
  ·exact absurd hpw (by decide)
 ·exact absurd hp (by decide)
 ·rcases hd with rfl | rfl | rfl | rfl | rfl | rfl | rfl
  ·exact ⟨_,IB⟩
  ·exact ⟨_,IW⟩
  ·exact absurd hpw (by decide)
  ·exact absurd hpw (by decide)
  ·exact absurd hpw (by decide)
  ·exact absurd hpw (by decide)
  ·exact absurd hpw (by decide)
 ·exact absurd hp (by decide)
 ·rcases hd with rfl | rfl | rfl | rfl | rfl | rfl | rfl
  ·exact ⟨_,IU⟩
  ·exact absurd hpw (by decide)
  ·exact absurd hpw (by decide)
  ·exact absurd hpw (by decide)
  ·exact absurd hpw (by decide)
  ·exact absurd hpw (by decide)
  ·exact absurd hpw (by decide)
 ·exact absurd hp (by decide)
 ·exact absurd hp (by decide)
 ·exact absurd hp (by decide)
 ·rcases hd with rfl | rfl | rfl | rfl | rfl | rfl | rfl
  ·exact ⟨_,Gq⟩
  ·exact absurd hpw (by decide)
  ·exact absurd hpw (by decide)
  ·exact absurd hpw (by decide)
  ·exact absurd hpw (by decide)
  ·exact absurd hpw (by decide)
  ·exact absurd hpw (by decide)
 ·exact absurd hp (by decide)
 ·rcases hd with rfl | rfl | rfl | rfl | rfl | rfl | rfl
  ·exact ⟨_,GG⟩
  ·exact absurd hpw (by decide)
  ·exact absurd hpw (by decide)
  ·exact absurd hpw (by decide)
  ·exact absurd hpw (by decide)
  ·exact absurd hpw (by decide)
  ·exact absurd hpw (by decide)
 ·exact absurd hp (by decide)
 ·exact absurd hp (by decide)
 ·exact absurd hp (by decide)
theorem GX {P : Int} {m : Nat} (hf : RF P m) {mod : LI} (hd : dz P mod) (hl : mod.length=m) : 0<=valu P mod/\valu P mod<P ^ m:=by have:=mO (P:=P) (by have:=hf.p2;omega) mod hd;rwa [hl] at this
theorem bW (P M : Int) (mod : LI) : bA P M mod=bq P M mod:=by
 by_cases hs : cB P M mod=true
 ·unfold bA bq;rw [hs,Lm,Lm];have hs2:=hs;unfold cB at hs2;simp only [J9,bne_iff_ne,ne_eq] at hs2;obtain ⟨⟨h1,h2⟩,h3⟩:=hs2;obtain ⟨m,rfl,hrf⟩:=RF.of h1;obtain ⟨p,rfl⟩ : ∃p : Nat,P=p:=⟨P.toNat,by have:=hrf.p2;omega⟩
  rw [JQ] at h2 ⊢;have hp2 : 2<=p:=by have:=hrf.p2;omega
  have hp256 : p<=256:=by have:=hrf.p256;omega
  have hord:=hrf.order;have hres:=hrf.res;obtain ⟨q,hq⟩ : ∃q : Nat,(p : Int) ^ m=q:=⟨((p : Int) ^ m).toNat,by have:=one_lt_pow hres;omega⟩
  have hq2 : 2<=q:=by have:=one_lt_pow hres;omega
  have hq256 : q<=256:=by have:=hrf.pw;omega
  rw [hord,hq,JQ];have hgen : ∀x : Nat,0<x->x<q->yc (dh p m mod) q x=true->(fG p m mod q).isEmpty=false:=λx hx0 hx1 ho=>by
   have hel : eH (p : Int) m x:=⟨by omega,by rw [hq];omega⟩
   have hg:=(Ord.of hres hel hq256 ho).fM hres hel hq2;have:=qj (P:=p) (M:=m) (mod:=mod) (q - 1) 1 x hq2 (by omega) (by omega) hg;unfold fG;cases h : genTo p m mod q (q - 1) 1 with
   | nil=>exact absurd h this
   | cons y l=>rfl
  by_cases hm : m=1
  ·subst hm;have hmod : mod=[]:=by rw [JT (by simp)] at h3;exact Kd (by simpa using h3)
   subst hmod;have hr:=List.all_eq_true.1 E5 p (List.mem_range.2 (by omega));have hp2' : decide (p<2)=false:=by simp;omega
   rw [hp2',h2] at hr;simp only [Bool.not_true,Bool.false_or,L5] at hr;obtain ⟨c,hc,hcp⟩:=hr;have hck:=List.all_eq_true.1 JD c hc;have hcp2 : c.1=p:=by simpa using hcp
   unfold Jj at hck;rw [hcp2] at hck;simp only [J9,Kt] at hck;have hqp : q=p:=by
    have : (p : Int) ^ 1=p:=by rw [KH,LK,Mo]
    omega
   rw [hgen c.2 hck.1.2 (by omega) (by rw [hqp];exact hck.1.1)];rfl
  ·have hM : ¬ (m : Int)=1:=by omega
   rw [JR hM] at h3;simp only [J9,Kt] at h3;have hlen : mod.length=m:=by omega
   have hdig : dz (p : Int) mod:=Oo (by omega) λx hx=>by have:=List.all_eq_true.1 h3.2 x hx;simpa using this
   have hv:=GX hrf hdig hlen;obtain ⟨v,hvv⟩ : ∃v : Nat,valu p mod=v:=⟨(valu p mod).toNat,by omega⟩
   have hdv : digs v p m=mod:=by rw [<- hvv,<- hlen];exact lD mod hdig
   obtain ⟨l,hl⟩:=I5 p m h2 hp2 (by have:=hrf.m1;omega) hrf.m8 hrf.pw;rw [hq,JQ] at hl;obtain ⟨c,hc⟩:=CQ hl (v:=v) (by omega);have hM' : ((m : Int) == 1)=false:=by simpa using hM
   rw [hM',Bool.false_or];unfold Ap at hc;rw [hdv] at hc;split at hc
   ·simp only [J9,Kt] at hc;rw [hc.1.1.1,hgen c.1 hc.1.2 hc.2 hc.1.1.2];rfl
   ·rename_i hc2;simp only [J9,Kt,Bool.not_eq_true',beq_iff_eq] at hc;rw [hc.1.1.1.1];cases h : (fG p m mod q).isEmpty with
    | true=>rfl
    | false =>
     exfalso
     have hne : fG p m mod q ≠ []:=λe=>by rw [e] at h;cases h
     obtain ⟨y,hy1,hy2,hy3,hy4⟩:=oe hne
     have g:=sr.yj (mod:=mod) hres hq.symm ⟨by omega,by omega⟩ hy3
     exact yd g (a:=(c.1 : Int)) (b:=(c.2 : Int)) ⟨by omega,by omega⟩ ⟨by omega,by omega⟩ (by omega) (by omega) hc.1.1.1.2
 ·have hs' : cB P M mod=false:=by simpa using hs
  simp [bA,bq,hs']
theorem rN (f : Int->Int) : ∀(n : Nat) (y z : Int),y<=z->z<y+n->f z=1->f (invTo f n y)=1/\y<=invTo f n y/\invTo f n y<y+n
 | 0,y,z,h1,h2,_=>by omega
 | n+1,y,z,h1,h2,hz=>by
  unfold invTo;split
  ·exact ⟨by assumption,by omega,by omega⟩
  ·rename_i hn;have hne : y ≠ z:=λe=>hn (e ▸ hz);have:=rN f n (y+1) z (by omega) (by omega) hz;exact ⟨this.1,by omega,by omega⟩
theorem fE {P M : Int} {mod : LI} (h : bq P M mod=true) : ∃m : Nat,M=m/\eH P m=(ah P m mod).El/\((ah P m mod).q : Int)=aH P M/\bI (ah P m mod).ops (eH P m)/\H9 (ah P m mod).ops (jW P m mod) (eH P m) /\
  ∀p,eH P m p->p ≠ 0->(gn P m mod p=1 ↔ p=1):=by
 have hF:=dH h;obtain ⟨m,y,rfl,hr,h256,hsh,hq,g⟩:=jU h;have hrf : RF P m:=by
  obtain ⟨m',e,h2,_⟩:=dI (by rw [bW];exact h);have : m=m':=by omega
  rw [this];exact h2
 rw [JQ] at hF;have e : eH P m=(ah P m mod).El:=by funext x;simp only [cX.El,ah,eH];rw [hq]
 rw [<- e] at hF;have hq2:=g.q2;have hmul : ∀x z,eH P m x->eH P m z->(ah P m mod).ops.mul x z=mulR P m mod x z:=λx z hx hz=>by rw [FQ hrf];exact g.pQ hx hz
 have hqo : ((aH P m).toNat : Int)=aH P m:=by omega
 have hinv : ∀x,eH P m x->x ≠ 0->(ah P m mod).ops.inv x=gn P m mod x:=by
  intro x hx h0;have hi:=hF.cl.inv x hx h0;have hm:=hF.mul_inv x hx h0;rw [hmul x _ hx hi] at hm;have hi0 : (ah P m mod).ops.inv x ≠ 0:=by intro e0;have h2:=hF.mul_inv x hx h0;rw [e0,hF.cQ hx] at h2;exact absurd h2 (by decide)
  have hb1:=hi.1;have hb2:=hi.2;obtain ⟨h1,h2,h3⟩:=rN (mulR P m mod x) ((aH P m).toNat - 1) 1 _ (by omega) (by omega) hm;have hel : eH P m (gn P m mod x):=⟨by unfold gn;omega,by unfold gn;omega⟩
  have h4 : (ah P m mod).ops.mul x (gn P m mod x)=1:=by rw [hmul x _ hx hel];exact h1
  have h5:=hF.mul_inv x hx h0;have e1 : (ah P m mod).ops.mul ((ah P m mod).ops.inv x) ((ah P m mod).ops.mul x (gn P m mod x))=gn P m mod x:=by rw [<- hF.mul_assoc _ x _ hi hx hel,hF.mul_comm _ x hi hx,h5,hF.one_mul _ hel]
  rw [h4,hF.gR hi] at e1;exact e1
 refine ⟨m,rfl,e,hqo,hF,⟨λx z _ _=>rfl,hmul,λx _=>rfl,hinv⟩,λp hp h0=>?_⟩;rw [<- hinv p hp h0];have hi:=hF.cl.inv p hp h0;have hm:=hF.mul_inv p hp h0;constructor
 ·intro e1;rw [e1,hF.gR hp] at hm;exact hm
 ·intro e1;rw [e1] at hm hi ⊢;rw [hF.one_mul _ hi] at hm;exact hm
theorem kT {P M : Int} {mod : LI} (h : bA P M mod=true) : ∀p,eH P M.toNat p->p ≠ 0->(gn P M.toNat mod p=1 ↔ p=1):=by obtain ⟨m,rfl,_,_,_,_,h6⟩:=fE (by rw [<- bW];exact h);exact h6
theorem yr (P M : Int) (mod : LI) (cols : Int) (L : Ll) : fC P M mod cols L=dy P M mod cols L:=by
 unfold fC dy;rw [bW];split
 ·rename_i h;obtain ⟨m,rfl,_,hq,_⟩:=fE h;rw [JQ,hq]
 ·rfl
theorem Bv {P M : Int} {mod : LI} (h : bq P M mod=true) {L : Ll} {m : Nat} (hL : bs (ah P M.toNat mod).El m L) : u3 (jW P M.toNat mod) L m=bU (ah P M.toNat mod) L m:=by obtain ⟨k,rfl,he,_,hF,hA,_⟩:=fE h;rw [JQ] at hL ⊢;rw [<- he] at hL;unfold u3 bU;rw [(gy hA hF.cl hL m (JO _)).1]
theorem Ad (P M : Int) (mod : LI) (cols : Int) (L : Ll) : fN P M mod cols L=du P M mod cols L:=by
 unfold fN du;rw [yr];split
 ·rename_i h0;obtain ⟨h1,h2⟩:=ml h0;obtain ⟨m,rfl,_,_,hR⟩:=lG h2;rw [JQ,Bv h1 hR]
 ·rfl
theorem CP (P M : Int) (mod : LI) (N : Int) (L : Ll) : jo P M mod N L=aJ P M mod N L:=by unfold jo aJ;rw [bW,Ad]
theorem aY {P M : Int} {mod : LI} {N : Int} {L : Ll} (h : aJ P M mod N L=0) : ∃n : Nat,N=n/\1<=n/\n<=64/\bI (ah P M.toNat mod).ops (ah P M.toNat mod).El/\bs (ah P M.toNat mod).El n L:=by obtain ⟨m,rfl,h1,h2,_,hR⟩:=cZ h;exact ⟨m,rfl,h1,h2,dH (aN h).1,hR⟩
theorem mf (x : Nat) (i : Int) : ∀k,i ∈ di x k ↔ ∃j : Nat,j<k/\i=j/\x.testBit j=true
 | 0=>by simp [di]
 | k+1=>by
  have ih:=mf x i k;unfold di;split
  ·rename_i ht;rw [KN,ih,Kx];constructor
   ·rintro (⟨j,h1,h2,h3⟩ | rfl)
    ·exact ⟨j,by omega,h2,h3⟩
    ·exact ⟨k,by omega,rfl,ht⟩
   ·rintro ⟨j,h1,h2,h3⟩;by_cases e : j=k
    ·subst e;exact .inr h2
    ·exact .inl ⟨j,by omega,h2,h3⟩
  ·rename_i ht;rw [ih];constructor
   ·rintro ⟨j,h1,h2,h3⟩;exact ⟨j,by omega,h2,h3⟩
   ·rintro ⟨j,h1,h2,h3⟩;by_cases e : j=k
    ·subst e;exact absurd h3 ht
    ·exact ⟨j,by omega,h2,h3⟩
theorem jQ (x N : Nat) (i : Nat) : i ∈ mg (di x N) (di x N).length ↔ i<N/\x.testBit i=true:=by
 rw [fu];constructor
 ·rintro ⟨j,hj,e⟩;have hm : nth (di x N) j ∈ di x N:=aI hj;obtain ⟨t,h1,h2,h3⟩:=(mf x _ N).1 hm;have : t=i:=by omega
  subst this;exact ⟨h1,h3⟩
 ·rintro ⟨h1,h2⟩;have hm : (i : Int) ∈ di x N:=(mf x _ N).2 ⟨i,h1,rfl,h2⟩;obtain ⟨j,hj,e⟩:=List.mem_iff_getElem.1 hm;exact ⟨j,hj,by rw [aj hj,e];rfl⟩
section
variable {P M : Int} {mod : LI} {n : Nat} {L : Ll}
end
def Ak (n : Nat) (Q : LI) : Prop:=∀j,j<Q.length->0<=nth Q j/\nth Q j<n
theorem tz (av : OA) (nv cv : Nat) (v : LI) (ao : OA) (no co : Nat) (Q : LI) (w : World) (hv : Ints w av nv v) (hq : Ints w ao no Q) (hQ : Ak nv Q) (hno : no<=1000000) :
  Calls prog 59 #[.slice av nv cv,.slice ao no co] w (db w (bP Q v)):=by
 have Hql:=Z5 hq.len;have hplq:=hq.pl;have hplv:=hv.pl;have hmq:=hq.max;have hmv:=hv.max;have HQ:=Z5 hQ;have hpk : (bP Q v).length=no:=by rw [bP,J5];exact Hql.out
 have Hpk:=Z5 hpk;unfold maxLen at hmq hmv;clear hQ hpk;go_enter func59,ntmps59;go_wp2_with (at_make;refine ch rfl _ _ 22 3 rfl (.int .i64 0) 8 underlying22 aV rfl no rfl rfl (by omega) (hq.max) ?_;intro a1 w1 hown hbel hge hlt);go_loopw [6] (λiv wr=>∃k : Nat,k<=no/\iv = .int .i64 k /\
   wr.ownsRow w.heap.size 3 1 (.slice a1 no no) no ((dk ((bP Q v).take k) k no).map (Value.int .i64))/\OC w wr)
  (λi _=>no - (intOf i).toNat)
 case atStart=>exact ⟨0,JU _,rfl,by simpa [dk] using hown,hbel⟩
 case round =>
  clear hown hbel
  obtain ⟨k,hk,rfl,hown,hbel⟩:=hrel
  obtain ⟨hints,hmine⟩:=NZ hown
  have hpl1:=hints.pl
  by_cases hlt : k<no
  ·have cq:=(hq.af hbel).cell k hlt
   have hb:=HQ.out k (by rw [Hql.out];exact hlt)
   obtain ⟨z,hz⟩ : ∃z : Nat,nth Q k=z:=⟨(nth Q k).toNat,by omega⟩
   have hzn : z<nv:=by omega
   have cz:=(hv.af hbel).cell z hzn
   have hf:=(hmine (by omega)).2 k hlt
   have hc2:=hints.cell k hlt
   have hB:=(hmine (by omega)).1
   have Hv : Hid (nth (bP Q v) k=nth v z):=by show _=_;rw [oJ Q v (by rw [Hql.out];exact hlt),hz,JQ]
   rw [hz] at cq
   clear hz hb
   go_wp2_with fail
   go_roundw
   case rel =>
    refine ⟨k+1,by omega,by go_num,?_,hbel.setCell hB _⟩
    have h:=bC hown k hlt (.int .i64 (nth v z))
    rw [<- Kh,fo _ _ _ _ (by rw [Ki,Hpk.out];omega) hlt] at h
    rw [JW (by rw [Hpk.out];omega),<- aj,Hv.out]
    exact h
   case measure=>simp [intOf] <;> omega
  ·obtain rfl : k=no:=by omega
   have hfin : dk ((bP Q v).take k) k k=bP Q v:=by rw [fR,JX (by rw [Hpk.out];exact JO _)]
   rw [hfin] at hown
   clear hfin
   go_wp2_with fail
   go_ret
   exact ⟨a1,k,by rw [Hpk.out];rfl,by rw [Hpk.out];exact hown,hbel⟩
theorem mN (f : LI->LI) (L : Ll) {k : Nat} (hk : k<L.length) : ai (L.map f) k=f (ai L k):=by rw [aE (by simpa using hk),aE hk];simp
section
open Go.RowKit
end
theorem rM (x : Nat) : ∀k,k<=64->(di x k).length+(di (rD x) k).length=k
 | 0,_=>rfl
 | k+1,hk=>by have ih:=rM x k (by omega);have hc:=sZ x k (by omega);rw [di,di,hc];cases hx : x.testBit k <;> simp <;> omega
theorem Dh (a : OA) (n c : Nat) (l : LI) (v : Int) (w : World) (h : Ints w a n l) :
  Calls prog 238 #[.slice a n c,.int .i64 v] w λe w'=>∃z : Int,e = .returned (.int .i64 z)/\(0<=z ↔ v ∈ l)/\w'=w:=by
 have Hl:=Z5 h.len;have hpl:=h.pl;have hmax:=h.max;unfold maxLen at hmax;go_enter func238,ntmps238;go_wp2_with fail;go_loopw [8] (λiv wr=>∃k : Nat,k<=n/\iv = .int .i64 k/\Hid (∀j,j<k->nth l j ≠ v)/\wr=w) (λi _=>n - (intOf i).toNat);case atStart=>exact ⟨0,JU _,rfl,λj hj=>by omega,rfl⟩
 case round =>
  obtain ⟨k,hk,rfl,hno,rfl⟩:=hrel
  by_cases hlt : k<n
  ·have c1:=h.cell k hlt
   by_cases he : nth l k=v
   ·have he' : (v == nth l k)=true:=by rw [he];simp
    have Hm : Hid (v ∈ l):=by show v ∈ l;rw [<- he];exact aI (by rw [Hl.out];exact hlt)
    clear he
    go_wp2_with fail
    go_ret
    exact ⟨k,rfl,⟨λ_=>Hm.out,λ_=>LO _⟩,rfl⟩
   ·have he' : (v == nth l k)=false:=by simpa using λe=>he e.symm
    have Hn2 : Hid (∀j,j<k+1->nth l j ≠ v):=λj hj=>by
     by_cases e : j=k
     ·subst e;exact he
     ·exact hno.out j (by omega)
    clear he
    go_wp2_with fail
    go_roundw
    case rel=>exact ⟨k+1,by omega,by go_num,Hn2.out,by simp⟩
    case measure=>simp [intOf] <;> omega
  ·obtain rfl : k=n:=by omega
   have Hm : Hid (¬ v ∈ l):=λhm=>by obtain ⟨j,hj,e⟩:=List.mem_iff_getElem.1 hm;rw [<- aj hj] at e;exact hno.out j (by have:=Hl.out;omega) e
   go_wp2_with fail
   go_ret
   exact ⟨-1,rfl,⟨λh=>absurd h (by omega),λh=>absurd h Hm.out⟩,rfl⟩
theorem dp (a : OA) (n c : Nat) (l : LI) (v : Int) (w : World) (h : Ints w a n l) :
  Calls prog 189 #[.slice a n c,.int .i64 v] w λe w'=>e = .returned (.bool (decide (v ∈ l)))/\w'=w:=by
 go_enter func189,ntmps189;go_wp2_with fail;refine (Dh a n c l v w h).mono ?_;rintro e w1 ⟨z,rfl,hz,rfl⟩;by_cases h0 : 0<=z
 ·have Hz : Hid (decide (v ∈ l)=true):=by show _=_;simpa using hz.1 h0
  have h0' : decide (0<=z)=true:=by simpa using h0
  clear hz h0;go_wp2_with fail;go_ret;exact ⟨aU Hz.out.symm,rfl⟩
 ·have Hz : Hid (decide (v ∈ l)=false):=by show _=_;simpa using λh=>h0 (hz.2 h)
  have h0' : decide (0<=z)=false:=by simpa using h0
  clear hz h0;go_wp2_with fail;go_ret;exact ⟨aU Hz.out.symm,rfl⟩
def aQ (G : cX) (L : Ll) (m : Nat) : Ll:=bU G (dc G.ops m (bU G L m) (bh G L m) m) m
def p9 (G : cX) (L : Ll) (m : Nat) (w : World) (e : Ending) (w' : World) : Prop :=
 ∃a c,e = .returned (.tuple #[.agg #[.int .i64 m,.slice a (aQ G L m).length c],.int .i64 0])/\b8 w.heap.size w' a (aQ G L m).length (aQ G L m)/\OC w w'
theorem vI (P : LI) : ∀k,(eG P k).length<=k
 | 0=>JO _
 | k+1=>by have:=vI P k;rw [eG];split <;> simp <;> omega
theorem Aa (P M : Int) (am : OA) (mn cm : Nat) (mod : LI) (m : Nat) (a : OA) (n c : Nat) (L : Ll) (w : World) (hmod : Ints w am mn mod) (hi : bu w a n L) (hE : aJ P M mod m L=0) :
  Calls prog 133 #[.agg #[.int .i64 P,.int .i64 M,.slice am mn cm],.agg #[.int .i64 m,.slice a n c]] w (p9 (ah P M.toNat mod) L m w):=by
 have Hlen:=Z5 hi.len;obtain ⟨N',e,hm1,hm64,F,hR⟩:=aY hE;obtain rfl : m=N':=by omega
 have hL256:=(cZ hE).choose_spec.2.2.2.1;have hn : n<=256:=by rw [<- hi.len];exact hL256
 obtain ⟨h5,h6⟩:=eB (aN hE).2.2.2;obtain ⟨hfB,h8⟩:=ml h5;have HR:=Z5 hR;have HF:=Z5 F;clear hE h5 h6 e hL256;go_enter func133,ntmps133;go_wp2_with fail;obtain ⟨W,hW⟩ : ∃W : World,W=((((w.alloc (.cells #[.int .i64 P,.int .i64 M,.slice am mn cm] 24)).alloc (.cells #[.int .i64 m,.slice a n c] 94)).alloc (.cells #[.int .i64 0,.slice none 0 0] 94)).alloc (.cells #[.int .i64 m,.slice a n c] 94)):=⟨_,rfl⟩
 rw [<- hW];have hbW : OC w W:=by rw [hW];exact ((((JP _ _).alloc (JO _) _).alloc (by simp) _).alloc (by simp;omega) _).alloc (by simp;omega) _
 have hsW : W.heap.size=w.heap.size+4:=by rw [hW];simp
 have q1 : W.cell? ⟨w.heap.size+1,0,none⟩=some (.int .i64 m)/\W.cell? ⟨w.heap.size+1,1,none⟩=some (.slice a n c):=by rw [hW];exact ⟨br (br (aF _ _ _ (by simp) 0) _) _,br (br (aF _ _ _ (by simp) 1) _) _⟩
 have q2 : W.cell? ⟨w.heap.size+1+1,0,none⟩=some (.int .i64 0)/\W.cell? ⟨w.heap.size+1+1,1,none⟩=some (.slice none 0 0)/\W.frozen? ⟨w.heap.size+1+1,0,none⟩=false/\W.frozen? ⟨w.heap.size+1+1,1,none⟩=false:=by rw [hW];exact ⟨br (aF _ _ _ (by simp) 0) _,br (aF _ _ _ (by simp) 1) _,ed (by simp) (fB _ _ _ (by simp) 0) _,ed (by simp) (fB _ _ _ (by simp) 1) _⟩
 have q3 : W.cell? ⟨w.heap.size+1+1+1,0,none⟩=some (.int .i64 m)/\W.cell? ⟨w.heap.size+1+1+1,1,none⟩=some (.slice a n c):=by rw [hW];exact ⟨aF _ _ _ (by simp) 0,aF _ _ _ (by simp) 1⟩
 have hiW:=hi.af hbW;have hMs : CY W (some ⟨w.heap.size+1+1+1,0,none⟩) 1 [((m : Int),L)]:=⟨rfl,λ_=>rfl,by unfold maxLen;omega,λi hi=>by
  have : i=0:=by simp at hi;omega
  subst this;exact ⟨a,n,c,by simpa using q3.1,by simpa using q3.2,hiW⟩⟩
 have HsW:=Z5 hsW;clear hW hsW;refine (wK P M am mn cm mod _ 1 1 _ W (hmod.af hbW) hMs).mono ?_;rintro e w1 ⟨hb1,hcase⟩;have hbw1:=NX hbW hb1;have hq : ∀V,OC W V->V.cell? ⟨w.heap.size+1,0,none⟩=some (.int .i64 m)/\V.cell? ⟨w.heap.size+1,1,none⟩=some (.slice a n c)/\V.cell? ⟨w.heap.size+1+1,0,none⟩=some (.int .i64 0)/\V.cell? ⟨w.heap.size+1+1,1,none⟩=some (.slice none 0 0)/\V.frozen? ⟨w.heap.size+1+1,0,none⟩=false/\V.frozen? ⟨w.heap.size+1+1,1,none⟩=false:=by intro V hV;have hs:=HsW.out;exact ⟨aB hV q1.1,aB hV q1.2,aB hV q2.1,aB hV q2.2.1,(hV.frozen (p:=⟨w.heap.size+1+1,0,none⟩) (by simp [hs])).trans q2.2.2.1,(hV.frozen (p:=⟨w.heap.size+1+1,1,none⟩) (by simp [hs])).trans q2.2.2.2⟩
 have Hq:=Z5 hq;clear hq q1 q2 q3;rw [oF] at hcase;rcases hcase with ⟨hB,_⟩ | ⟨_,er,h0,h1,_⟩ | ⟨_,_,b,rfl,hG,hbl⟩
 ·rw [hfB] at hB;exact absurd hB (by decide)
 ·rw [h8] at h1;exact absurd h1.symm h0
 obtain ⟨r1,r2,r3,r4,r5,r6⟩:=Hq.out w1 hb1;have HPost : Hid (∀a c w',b8 w.heap.size w' a (aQ (ah P M.toNat mod) L m).length (aQ (ah P M.toNat mod) L m)->OC w w'->p9 (ah P M.toNat mod) L m w (.returned (.tuple #[.agg #[.int .i64 m,.slice a (aQ (ah P M.toNat mod) L m).length c],.int .i64 0])) w'):=λa c w' h1 h2=>⟨a,c,rfl,h1,h2⟩
 obtain ⟨G,hGG⟩ : ∃G,ah P M.toNat mod=G:=⟨_,rfl⟩
 have HGG:=Z5 hGG;rw [hGG] at hG HR HF HPost hR F;clear h8 hGG hfB;have Hcan:=Z5 (tJ a n c m L hG (hiW.af hb1) hR (by omega) (by omega));have hRc : bs G.El m (bU G L m):=bQ F hR;obtain ⟨hPv,hLd⟩:=bS F hR;have hcl : (bU G L m).length=(bh G L m).length:=dF G L m;have HPv : Hid (j5 (bU G L m) (bh G L m) m):=hPv;have hrws : ∀k,k<=m->bs G.El m (dc G.ops m (bU G L m) (bh G L m) k):=by
  intro k;induction k with
  | zero=>intro _ r hr;simp [dc] at hr
  | succ k ih =>
   intro hk r hr
   rw [dc] at hr
   split at hr
   ·exact ih (by omega) r hr
   ·rw [KN,Kx] at hr
    rcases hr with hr | rfl
    ·exact ih (by omega) r hr
    ·exact jw F hRc hPv hcl (by omega) _ (JO _)
 have Hrws:=Z5 hrws;have hdl : aQ G L m=bU G (dc G.ops m (bU G L m) (bh G L m) m) m:=rfl;have Hdl:=Z5 hdl;have Hcp : Hid (∀c,c<m->∀i,i<(bh G L m).length->G.El (nth (ai (bU G L m) i) c)):=λc hc i hi=>N2 (hRc.row (by rw [hcl];exact hi)) hc;have Hrl : Hid (∀i,i<(bh G L m).length->(ai (bU G L m) i).length=m):=λi hi=>(hRc.row (by rw [hcl];exact hi)).1;clear hR F hPv hLd hrws hdl;go_wp2_with fail;refine Hcan.out.mono ?_;rintro e w2 ⟨a2,c2,ap,cp,rfl,hM2,hp2,hb2⟩;have Hkp : Hid (∀c i,kerTo G.ops m (bU G L m) (bh G L m) c (i+1)=(kerTo G.ops m (bU G L m) (bh G L m) c i).set (nth (bh G L m) i).toNat (G.neg (nth (ai (bU G L m) i) c))):=λc i=>rfl;have Hk0 : Hid (∀c,kerTo G.ops m (bU G L m) (bh G L m) c 0=(List.replicate m 0).set c 1):=λc=>rfl;have Hplt : Hid (∀j,j<(bh G L m).length->0<=nth (bh G L m) j/\nth (bh G L m) j<m):=HPv.out.lt;obtain ⟨R,hRR⟩ : ∃R,bU G L m=R:=⟨_,rfl⟩
 obtain ⟨Pv,hPP⟩ : ∃Pv,bh G L m=Pv:=⟨_,rfl⟩
 rw [hRR,hPP] at Hrws Hdl Hcp Hkp Hk0 Hrl;rw [hPP] at Hplt hp2 hM2 hcl;rw [hRR] at hM2 hcl;rw [hPP];clear hRR hPP HPv Hcan;obtain ⟨t,ht⟩ : ∃t,Pv.length=t:=⟨_,rfl⟩
 have Ht:=Z5 ht;rw [ht] at hM2 hp2 Hcp Hplt hcl Hrl;rw [ht];have hMM:=hM2.je;have hII:=hp2.ints;have hplP:=hII.pl;have hplR:=hMM.pl;have hbw2:=NX hbw1 hb2;have hb12:=NX hb1 hb2;have hG2:=hG.af hb2;have hmaxP:=hII.max;unfold maxLen at hmaxP;obtain ⟨z1,z2,z3,z4,z5,z6⟩:=Hq.out w2 hb12;clear ht hM2 hp2 hG r1 r2 r3 r4 r5 r6;go_wp2_with fail;go_loopw [10,37] (λov iv wr=>∃(k : Nat) (a1 : OA) (c1 : Nat),k<=m/\iv = .int .i64 k/\ov = .slice a1 (eG Pv k).length c1/\(∃Rr,aT wr w2.heap.size a1 (eG Pv k).length c1 Rr (dc G.ops m R Pv k))/\OC w2 wr) (λ_ iv _=>m - (intOf iv).toNat);case atStart=>exact ⟨0,none,0,JU _,rfl,rfl,⟨[],aT.D9 w2 w2.heap.size⟩,JP _ _⟩
 case round =>
  clear z1 z2 z3 z4 z5 z6
  obtain ⟨k,a1,c1,hk,rfl,rfl,⟨Rr,hO⟩,hbr⟩:=hrel
  have hnk:=vI Pv k
  by_cases hlt : k<m
  ·have hcont:=dp ap t cp Pv k wr (hII.af hbr)
   obtain ⟨z1,_,_,_,_,_⟩:=Hq.out wr (NX hb12 hbr)
   by_cases hmem : (k : Int) ∈ Pv
   ·have hN : Hid (eG Pv (k+1)=eG Pv k):=by show _=_;rw [eG,JT hmem]
    have hKk : Hid (dc G.ops m R Pv (k+1)=dc G.ops m R Pv k):=by show _=_;rw [dc,JT hmem]
    rw [show decide ((k : Int) ∈ Pv)=true by simpa using hmem] at hcont
    have Hcont:=Z5 hcont
    clear hmem hcont
    go_wp2_with fail
    refine Hcont.out.mono ?_
    rintro e w3 ⟨rfl,rfl⟩
    go_wp2_with fail
    go_roundw
    case rel=>exact ⟨k+1,a1,c1,by omega,by go_num,by rw [hN.out],⟨Rr,by rw [hN.out,hKk.out];exact hO⟩,hbr⟩
    case measure=>simp [intOf] <;> omega
   ·have hN : Hid (eG Pv (k+1)=eG Pv k ++ [k]):=by show _=_;rw [eG,JR hmem]
    have hKk : Hid (dc G.ops m R Pv (k+1)=dc G.ops m R Pv k ++ [kerTo G.ops m R Pv k t]):=by show _=_;rw [dc,JR hmem,Ht.out]
    rw [show decide ((k : Int) ∈ Pv)=false by simpa using hmem] at hcont
    have Hcont:=Z5 hcont
    clear hmem hcont
    go_wp2_with fail
    refine Hcont.out.mono ?_
    rintro e w3 ⟨rfl,rfl⟩
    go_wp2_with (at_make;refine ch rfl _ _ 22 3 rfl (.int .i64 0) 8 underlying22 aV rfl m rfl rfl (by omega) (by unfold maxLen;omega) ?_;intro a5 w5 hown5 hbel5 hge5 hlt5;obtain ⟨hi5,hm5⟩:=NZ (l:=List.replicate m 0) (by simpa using hown5);have hc5:=hi5.cell k hlt;have hf5:=(hm5 (by omega)).2 k hlt;have hpl5:=hi5.pl)
    have hx0:=bC hown5 k hlt (.int .i64 1)
    have hx0' : (w5.setCell ⟨ablk a5,aL a5+k,none⟩ (.int .i64 1)).ownsRow w3.heap.size 3 1 (.slice a5 m m) m ((kerTo G.ops m R Pv k 0).map (Value.int .i64)):=by rw [Hk0.out,Kh,Lr];exact hx0
    have hbx0:=hbel5.setCell (p:=⟨ablk a5,aL a5+k,none⟩) (hm5 (by omega)).1 (.int .i64 1)
    clear hx0 hown5 hbel5 hge5 hlt5 hi5 hm5 hc5 hf5 z1
    go_loopw [51] (λiv wx=>∃i : Nat,i<=t/\iv = .int .i64 i/\wx.ownsRow w3.heap.size 3 1 (.slice a5 m m) m ((kerTo G.ops m R Pv k i).map (Value.int .i64))/\OC w3 wx) (λiv _=>t - (intOf iv).toNat)
    case atStart=>exact ⟨0,JU _,rfl,hx0',hbx0⟩
    case round =>
     clear hx0' hbx0
     obtain ⟨i,hi',rfl,hown,hbx⟩:=hrel
     by_cases hli : i<t
     ·have hb2x:=NX hbr hbx
      have cpi:=(hII.af hb2x).cell i hli
      have hpb:=Hplt.out i hli
      obtain ⟨z,hz⟩ : ∃z : Nat,nth Pv i=z:=⟨(nth Pv i).toNat,by omega⟩
      have hzm : z<m:=by omega
      obtain ⟨ra,rn,rc,hcell,hrow⟩:=(hMM.af hb2x).cell i hli
      have hrn : rn=m:=by rw [<- hrow.len];exact Hrl.out i hli
      subst hrn
      have ck:=hrow.cell k hlt
      have hpr:=hrow.pl
      have hel:=Hcp.out k hlt i hli
      have hst : kerTo G.ops rn R Pv k (i+1)=(kerTo G.ops rn R Pv k i).set z (G.neg (nth (ai R i) k)):=by rw [Hkp.out,hz,JQ]
      have Hst:=Z5 hst
      obtain ⟨x9,hx9⟩ : ∃x,nth (ai R i) k=x:=⟨_,rfl⟩
      rw [hx9] at ck hel Hst
      have Hng:=Z5 (FT x9 (hG2.af hb2x) hel)
      rw [hz] at cpi
      obtain ⟨hints,hmine⟩:=NZ hown
      have hpl5':=hints.pl
      have cz:=hints.cell z hzm
      have fz:=(hmine (by omega)).2 z hzm
      have hB:=(hmine (by omega)).1
      clear hz hpb hst hx9 hel
      go_wp2_with fail
      refine Hng.out.mono ?_
      rintro e w6 ⟨nd,rfl,rfl⟩
      go_wp2_with fail
      go_roundw
      case rel =>
       have h:=bC (w:=wr.drewN nd) hown z hzm (.int .i64 (G.neg x9))
       rw [<- Kh,<- Hst.out] at h
       exact ⟨i+1,by omega,by go_num,h,(below_drewN hbx nd).setCell hB _⟩
      case measure=>simp [intOf] <;> omega
     ·obtain rfl : i=t:=by omega
      obtain ⟨X,hX⟩ : ∃X,kerTo G.ops m R Pv k i=X:=⟨_,rfl⟩
      have hXl : X.length=m:=by rw [<- hX];exact fS _ _ _ _ _ _
      rw [hX] at hown hKk
      have HXl:=Z5 hXl
      have hO3:=hO.af (NX hbx (an wr (.cells #[.slice a5 m m] 22)))
      have hsz:=hbr.size
      have hsx:=hbx.size
      have hs3 : w2.heap.size<=(wr.alloc (.cells #[.slice a5 m m] 22)).heap.size:=by simp;omega
      have hcn:=bf wr (.slice a5 m m) 22
      clear hX hXl
      go_wp2_with (at_builtin;refine aS rfl _ _ 25 22 rfl (.slice none 0 0) 24 underlying25 dO rfl w2.heap.size a1 (eG Pv k).length c1 _ rfl hO3.own ⟨wr.heap.size,0,none⟩ 1 (.slice a5 m m) rfl hcn rfl (by omega) (by unfold maxLen;omega) hs3 ?_;intro a7 c7 w7 hown7 hgr7 hap7)
      go_roundw
      case rel =>
       have hb4 : OC w3 (wr.alloc (.cells #[.slice a5 m m] 22)):=NX hbx (an _ _)
       have hown4 : (wr.alloc (.cells #[.slice a5 m m] 22)).ownsRow w2.heap.size 3 1 (.slice a5 X.length m) X.length (X.map (Value.int .i64)):=by rw [HXl.out];exact bd (bp hown (an _ _)) hsz
       have hra : a5 ≠ none->¬ bX a1 Rr (ablk a5):=λh0 hI=>by have h1:=(ba hown h0).1;have h2:=(hO.lt _ hI).2;omega
       have hP:=Ob hO3 hown4 hra (by rw [HXl.out];exact hown7) hgr7 hap7
       have hb5 : OC w2 w7:=N0 (NX hbr hb4) hO3.own hgr7 (JO _) (J4 hsz hb4.size)
       exact ⟨k+1,a7,c7,by omega,by go_num,by rw [hN.out];simp,⟨_,by rw [hN.out,hKk.out,J0];exact hP⟩,hb5⟩
      case measure=>simp [intOf] <;> omega
  ·obtain rfl : k=m:=by omega
   have hbw:=NX hbw2 hbr
   have hcan:=tJ a1 (eG Pv k).length c1 k (dc G.ops k R Pv k) (hG2.af hbr) hO.je (Hrws.out k (JO _)) (by omega) (by omega)
   have Hcan:=Z5 hcan
   obtain ⟨z1,z2,z3,z4,z5,z6⟩:=Hq.out wr (NX hb12 hbr)
   clear hcan hO
   go_wp2_with fail
   refine Hcan.out.mono ?_
   rintro e w8 ⟨a8,c8,ap8,cp8,rfl,hM8,hp8,hb8⟩
   have hlen8 : (bh G (dc G.ops k R Pv k) k).length=(aQ G L k).length:=by rw [Hdl.out,dF]
   have hM8' : b8 wr.heap.size w8 a8 (aQ G L k).length (aQ G L k):=by rw [<- hlen8,Hdl.out];exact hM8
   rw [hlen8]
   have hbw8:=NX hbw hb8
   have hF:=HPost.out a8 c8 ((w8.setCell ⟨w.heap.size+1+1,0,none⟩ (.int .i64 k)).setCell ⟨w.heap.size+1+1,1,none⟩ (.slice a8 (aQ G L k).length c8)) (by have hs:=HsW.out;have hs1:=(NX hb12 hbr).size;exact ((hM8'.setCell (p:=⟨w.heap.size+1+1,0,none⟩) (by simp;omega) _).setCell (p:=⟨w.heap.size+1+1,1,none⟩) (by simp;omega) _).mono (by omega)) ((hbw8.setCell (by simp;omega) _).setCell (by simp;omega) _)
   have HF2:=Z5 hF
   clear hF hM8 hp8 hM8' Hcan z1 z2 z3 z4 z5 z6 hlen8
   obtain ⟨z1,z2,z3,z4,z5,z6⟩:=Hq.out w8 (NX (NX hb12 hbr) hb8)
   generalize (aQ G L k).length=q at *
   go_wp2_with fail
   exact bodyPost_ret (v:=.tuple #[.agg #[.int .i64 k,.slice a8 q c8],.int .i64 0]) (by simp [results,results133,go_sem,z3,z4]) rfl (by rw [HGG.out];exact HF2.out)
theorem jd {P M : Int} {mod : LI} (h : bq P M mod=true) : mod.length<=8:=by
 unfold bq cB at h;simp only [J9,bne_iff_ne,ne_eq] at h;obtain ⟨⟨⟨h1,_⟩,h3⟩,_⟩:=h;have h2:=iD h1;by_cases hM : M=1
 ·rw [JT hM] at h3;have : mod.length=0:=by simpa using h3
  omega
 ·rw [JR hM] at h3;simp only [J9,Kt] at h3;omega
theorem jz {P M : Int} {mod : LI} {m : Nat} {L : Ll} (hE : aJ P M mod m L=0) :
  aJ P M mod m (aQ (ah P M.toNat mod) L m)=0/\∀x,IF (ah P M.toNat mod).ops (aQ (ah P M.toNat mod) L m) m x=IF (ah P M.toNat mod).ops L m x:=by
 obtain ⟨N',e,hm1,hm64,F,hR⟩:=aY hE;obtain rfl : m=N':=by omega
 obtain ⟨hfB,h1,h64,h4⟩:=aN hE;obtain ⟨h5,h6⟩:=eB h4;rw [JQ] at h6;have hcan : bH (ah P M.toNat mod).ops m L=L:=h6;obtain ⟨hPv,hLd⟩:=bS F hR;have hcl:=bY F hR;rw [hcan] at hPv hLd hcl;have hK:=fI F hR hPv hcl;have hdl : aQ (ah P M.toNat mod) L m=bH (ah P M.toNat mod).ops m (dc (ah P M.toNat mod).ops m L (aC (ah P M.toNat mod).ops L m).2 m):=by unfold aQ bh;rw [h6];rfl
 obtain ⟨k1,k2⟩:=Ch F hR hPv hLd hcl;have hKR:=bQ F hK;have hidem:=oN F hK;have hrk:=qf F hK;have hrg:=qf F hR;rw [hcan] at hrg;rw [<- hdl] at k1 k2 hKR hidem hrk;generalize aQ (ah P M.toNat mod) L m=D at *;constructor
 ·have hq : ((ah P M.toNat mod).q : Int)=aH P M\/True:=.inr trivial;have hm : fh (ah P M.toNat mod).q m D=0:=by
   unfold fh;rw [JR (by omega)];have hsh : iM (m : Int) D=true:=by unfold iM;rw [Ky];intro r hr;have:=(hKR r hr).1;simp;omega
   rw [JR (by rw [hsh];decide),JT];rw [Ky];intro r hr;unfold ez gV;rw [Ky];intro x hx;have:=(hKR r hr).2 x hx;unfold cX.El at this;simp;exact this
  have hf : dy P M mod m D=0:=by unfold dy;rw [JT hfB];exact hm
  have hsp : du P M mod m D=0:=by unfold du;rw [JT hf,JQ,JT];exact hidem
  have hle : ij (m : Int)=0:=qb (by omega) (by omega);unfold aJ;rw [JT hfB,JT hle];exact hsp
 ·intro x;have hs:=ob F hKR (di x m);have hc:=ob F hKR (di (rD x) m);have gs:=ob F hR (di x m);have gc:=ob F hR (di (rD x) m);have hb:=rM x m hm64;have hgl : ∀Q : LI,∀k,(mg Q k).length=k:=λQ k=>by
   induction k with
   | zero=>rfl
   | succ k ih=>rw [mg,Kr,ih]
  have hS : ∀i ∈ mg (di x m) (di x m).length,i<m:=λi hi=>((jQ x m i).1 hi).1;have hC : ∀i ∈ mg (di (rD x) m) (di (rD x) m).length,i<m:=λi hi=>((jQ (rD x) m i).1 hi).1;have hSC : ∀p,p<m->p ∈ mg (di x m) (di x m).length\/p ∈ mg (di (rD x) m) (di (rD x) m).length:=λp hp=>by
   rw [jQ,jQ,sZ _ _ (by omega)];cases hx : x.testBit p
   ·exact .inr ⟨hp,rfl⟩
   ·exact .inl ⟨hp,rfl⟩
  have r1:=Bj F hR hKR k2 k1 hrg hrk hS hC hSC (by rw [hgl,hgl];exact hb) gc hs;have r2:=Bj F hR hKR k2 k1 hrg hrk hC hS (λp hp=>(hSC p hp).symm) (by rw [hgl,hgl];omega) gs hc;rw [hgl] at r1 r2;unfold IF;omega
theorem vZ {l : LI} {x : Int} {i : Nat} (h : i<l.length) : nth (l ++ [x]) i=nth l i:=by simp only [nth,JS];rw [J8 h]
theorem Fg (l : LI) (x : Int) : nth (l ++ [x]) l.length=x:=by simp [nth]
theorem xy (l : LI) (x : Int) : ∀k,k<=l.length->mg (l ++ [x]) k=mg l k
 | 0,_=>rfl
 | k+1,h=>by rw [mg,mg,vZ (by omega),xy l x k (by omega)]
theorem vi (l : LI) (x : Int) : mg (l ++ [x]) (l ++ [x]).length=x.toNat :: mg l l.length:=by rw [J0,Ka,mg,Fg,xy l x l.length (JO _)]
def gA (Q : LI) : LN:=mg Q Q.length
theorem vA (l : LI) (x : Int) : gA (l ++ [x])=x.toNat :: gA l:=vi l x
theorem n8 {Q : LI} {x : Nat} : x ∈ gA Q ↔ ∃y ∈ Q,y.toNat=x:=by
 unfold gA;rw [fu];constructor
 ·rintro ⟨j,hj,e⟩;exact ⟨nth Q j,aI hj,e⟩
 ·rintro ⟨y,hy,e⟩;obtain ⟨j,hj,rfl⟩:=List.mem_iff_getElem.1 hy;exact ⟨j,hj,by rw [aj hj];exact e⟩
section
variable {O : aM} {El : Int->Prop} {m : Nat} {L : Ll}
def mh (O : aM) (L : Ll) (Q : LI) : Nat:=(lT O L Q).length
theorem ke (F : bI O El) (hL : bs El m L) (Q : LI) : Rk (ku O El L.length (aX L)) (gA Q) (mh O L Q):=ob F hL Q
theorem Fu (F : bI O El) (hL : bs El m L) {Q Q' : LI} (h : ∀x ∈ gA Q,ku O El L.length (aX L) (gA Q') x) : mh O L Q<=mh O L Q':=Rk.le (gE F hL) (ke F hL Q) (ke F hL Q') h
end
def frTo (b : Bool) (U : LI) : Nat->LI
 | 0=>[]
 | k+1=>if decide ((k : Int) ∈ U)=b then frTo b U k ++ [(k : Int)] else frTo b U k
theorem eo {b : Bool} {U : LI} {x : Int} : ∀k,x ∈ frTo b U k ↔ ∃j : Nat,j<k/\x=j/\decide ((j : Int) ∈ U)=b
 | 0=>by simp [frTo]
 | k+1=>by
  rw [frTo];by_cases h : decide ((k : Int) ∈ U)=b
  ·rw [JT h,KN,eo k,Kx];constructor
   ·rintro (⟨j,hj,e,hb⟩ | e)
    ·exact ⟨j,by omega,e,hb⟩
    ·exact ⟨k,by omega,e,h⟩
   ·rintro ⟨j,hj,e,hb⟩;by_cases ejk : j=k
    ·subst ejk;exact .inr e
    ·exact .inl ⟨j,by omega,e,hb⟩
  ·rw [JR h,eo k];constructor
   ·rintro ⟨j,hj,e,hb⟩;exact ⟨j,by omega,e,hb⟩
   ·rintro ⟨j,hj,e,hb⟩;by_cases ejk : j=k
    ·subst ejk;exact absurd hb h
    ·exact ⟨j,by omega,e,hb⟩
theorem jA (b : Bool) (U : LI) : ∀k,(frTo b U k).length<=k
 | 0=>JO _
 | k+1=>by have:=jA b U k;rw [frTo];split <;> simp <;> omega
theorem rh (O : aM) (L : Ll) (Q : LI) : ∀k,k<=Q.length->∀x ∈ (grTo O L Q k).2,x ∈ Q
 | 0,_,x,hx=>by simp [grTo] at hx
 | k+1,hk,x,hx=>by
  rw [grTo] at hx;split at hx
  ·rcases List.mem_append.1 hx with hx | hx
   ·exact rh O L Q k (by omega) x hx
   ·rw [Kx] at hx;rw [hx];exact aI (by omega)
  ·exact rh O L Q k (by omega) x hx
def xl (O : aM) (L : Ll) (Q : LI) (most : Nat) : LI:=(lT O L Q).take most
def i5 (m : Nat) (s z : LI) : LI:=dn z ++ frTo false (s ++ z) m
structure iz where
 M : Nat
 W : Nat
 cos : Bool
 y : LI
def kU (m : Nat) (s t : LI) : Bool:=fF m t && t.all λx=>decide (¬ x ∈ s)
structure LS where
 rows : Ll
 sum : LI
 top : Nat
def jS (O : aM) (v : LI) (i : Nat) (r : LI) : LI :=
 if nth v i=0 then v else List.zipWith (λa y=>if y=0 then a else O.add a (O.neg (O.mul (nth v i) y))) v r
def ko (O : aM) (t i : Nat) (L : Ll) : Nat->Ll
 | 0=>L
 | l+1=>if t<l then (ko O t i L l).set l (jS O (ai (ko O t i L l) l) i (ai (ko O t i L l) t)) else ko O t i L l
def iS (O : aM) (L : Ll) (t k i : Nat) : Ll :=
 ko O t i ((bt L t k).set t ((ai (bt L t k) t).map (O.mul (O.inv (nth (ai (bt L t k) t) i))))) L.length
def pU (O : aM) (st : LS) (i : Nat) : LS :=
 if aZ st.rows i st.top=st.rows.length then st
 else ⟨iS O st.rows st.top (aZ st.rows i st.top) i,jS O st.sum i (ai (iS O st.rows st.top (aZ st.rows i st.top) i) st.top),st.top+1⟩
def tE (O : aM) (L : Ll) (y t : LI) : Nat->LS
 | 0=>⟨L,y,0⟩
 | k+1=>pU O (tE O L y t k) (nth t k).toNat
def kZ (s v : LI) : Nat->Nat
 | 0=>0
 | k+1=>if nth v k ≠ 0/\¬ (k : Int) ∈ s then kZ s v k+1 else kZ s v k
def kg (O : aM) (L : Ll) (y s t : LI) : Nat:=kZ s (tE O L y t t.length).sum (tE O L y t t.length).sum.length
def dm (O : aM) (L : Ll) (m : Nat) (C : iz) (s t : LI) : Bool :=
 kU m s t && (decide ((lT O L t).length=t.length) &&
  if C.cos=true then decide ((lT O L (frTo false s m)).length=t.length) && decide (C.W<s.length+kg O L C.y s t) else decide (t.length=C.M))
def iW (C : iz) (s z t : LI) : LI:=if s.length<C.W then t.filter λx=>decide (¬ x ∈ z) else []
def kfol (F : LI->LI->Ll->Option Ll) (s : LI) : LI->LI->Ll->Option Ll
 | _,[],ts=>some ts
 | z,k :: ks,ts=>match F (s ++ [k]) z ts with
  | none=>none
  | some ts'=>kfol F s (z ++ [k]) ks ts'
def folS (O : aM) (L : Ll) (m : Nat) (C : iz) : Nat->LI->LI->Ll->Option Ll
 | 0,s,_,ts=>match ts with
  | []=>none
  | t :: ts=>if dm O L m C s t=true then some ts else none
 | d+1,s,z,ts=>match ts with
  | []=>none
  | t :: ts=>if dm O L m C s t=true then kfol (folS O L m C d) s z (iW C s z t) ts else none
def provS (O : aM) (L : Ll) (m : Nat) (C : iz) (T : Ll) : Int :=
 match folS O L m C C.W [] [] T with
 | some []=>0
 | _=>13
def eJ (O : aM) (L : Ll) (m : Nat) (C : iz) (s z : LI) : LI:=dn (xl O L (i5 m s z) (if C.cos=true then m else C.M))
def gr (F : LI->LI->Ll->Int × Ll) (s : LI) : LI->LI->Ll->Int × Ll
 | _,[],T=>(0,T)
 | z,k :: ks,T=>if (F (s ++ [k]) z T).1=0 then gr F s (z ++ [k]) ks (F (s ++ [k]) z T).2 else ((F (s ++ [k]) z T).1,[])
def jn (O : aM) (L : Ll) (m : Nat) (C : iz) : Nat->LI->LI->Ll->Int × Ll
 | 0,s,z,T=>if dm O L m C s (eJ O L m C s z)=true then if T.length=65536 then (8,[]) else (0,T ++ [eJ O L m C s z]) else (11,[])
 | d+1,s,z,T=>if dm O L m C s (eJ O L m C s z)=true then if T.length=65536 then (8,[]) else gr (jn O L m C d) s z (iW C s z (eJ O L m C s z)) (T ++ [eJ O L m C s z]) else (11,[])
def td (O : aM) (L : Ll) (m : Nat) (C : iz) : Int × Ll:=jn O L m C C.W [] [] []
theorem vW (O : aM) (L : Ll) (Q : LI) {k : Nat} : ∀j,k<=j->(grTo O L Q k).2 <+: (grTo O L Q j).2
 | 0,h=>by
   obtain rfl : k=0:=by omega
   exact K6
 | j+1,h=>by
  by_cases e : k=j+1
  ·subst e;exact K6
  ·refine (vW O L Q j (by omega)).trans ?_;rw [grTo];split
   ·exact My _ _
   ·exact K6
theorem Ea {O : aM} {L : Ll} {Q : LI} {k most : Nat} (hk : k<=Q.length) (h : (grTo O L Q k).2.length=most) : xl O L Q most=(grTo O L Q k).2:=by obtain ⟨l,hl⟩:=vW O L Q Q.length hk;rw [xl,lT,<- hl,<- h,List.take_left]
theorem FI {O : aM} {L : Ll} {Q : LI} {most : Nat} (h : (grTo O L Q Q.length).2.length<=most) : xl O L Q most=(grTo O L Q Q.length).2:=by rw [xl,lT,JX h]
theorem A3 (O : aM) (L : Ll) (Q : LI) : ∀k,(grTo O L Q k).2.length<=k
 | 0=>JO _
 | k+1=>by
  have ih:=A3 O L Q k;rw [grTo];split
  ·simp;omega
  ·dsimp only;omega
theorem Ae (O : aM) (L : Ll) (Q : LI) : (lT O L Q).length<=Q.length:=A3 O L Q _
theorem EL {O : aM} {L : Ll} {Q : LI} {most : Nat} (h : Q.length<=most) : xl O L Q most=lT O L Q :=
 JX (J4 (Ae O L Q) h)
theorem A7 {O : aM} {L : Ll} {Q : LI} {most : Nat} : ∀x ∈ xl O L Q most,x ∈ Q:=λx hx =>
 rh O L Q Q.length (JO _) x (KQ hx)
theorem EV (m : Nat) (s z : LI) : (i5 m s z).length<=z.length+m:=by unfold i5;have:=jA false (s ++ z) m;rw [J0,fy];omega
theorem xT {m : Nat} {s z : LI} {x : Int} (h : x ∈ i5 m s z) : x ∈ z\/(0<=x/\x<m/\¬ x ∈ s/\¬ x ∈ z):=by
 unfold i5 at h;rcases List.mem_append.1 h with h | h
 ·exact .inl ((dw z).mem_iff.1 h)
 ·obtain ⟨j,hj,rfl,hd⟩:=(eo m).1 h;have : ¬ (j : Int) ∈ s ++ z:=by simpa using hd
  rw [KN] at this;exact .inr ⟨by omega,by omega,λh=>this (.inl h),λh=>this (.inr h)⟩
theorem wG {m : Nat} {s t : LI} (h : kU m s t=true) : fF m t=true/\∀x ∈ t,¬ x ∈ s:=by unfold kU at h;rw [J9,Ky] at h;exact ⟨h.1,λx hx=>by simpa using h.2 x hx⟩
theorem qu {O : aM} {L : Ll} {m : Nat} {C : iz} {s t : LI} (h : dm O L m C s t=true) : fF m t=true/\∀x ∈ t,¬ x ∈ s:=by unfold dm at h;rw [J9] at h;exact wG h.1
theorem qJ {C : iz} {s z t : LI} {x : Int} (h : x ∈ iW C s z t) : x ∈ t/\¬ x ∈ z/\s.length<C.W:=by
 unfold iW at h;split at h
 ·rename_i hl;rw [Lx] at h;exact ⟨h.1,by simpa using h.2,hl⟩
 ·simp at h
theorem vf (pb : Nat) (a : OA) (n c : Nat) (L : Ll) (i : Nat) (w : World) (p5 : w.cell? ⟨pb,5,none⟩=some (.slice a n c)) (hi : bu w a n L) (hL : ∀r ∈ L,i<r.length) (hn : n<=1000000) :
  Calls prog 258 #[.pointer (some ⟨pb,0,none⟩),.int .i64 i] w (db w (aX L i)):=by
 have Hlen:=Z5 hi.len;have hpl:=hi.pl;have HL:=Z5 hL;clear hL;go_enter func258,ntmps258;go_wp2_with (at_make;refine ch rfl _ _ 22 3 rfl (.int .i64 0) 8 underlying22 aV rfl n rfl rfl (by omega) (by unfold maxLen;omega) ?_;intro a1 w1 hown hbel hge hlt;have c5 : w1.cell? ⟨pb,5,none⟩=some (.slice a n c):=aB hbel p5);have hbw : OC w w1:=hbel;have hown1 : w1.ownsRow w.heap.size 3 1 (.slice a1 n n) n (List.replicate n (.int .i64 0)):=hown;clear hown hbel;go_loopw [21] (λiv wr=>∃k : Nat,k<=n/\iv = .int .i64 k /\
   wr.ownsRow w.heap.size 3 1 (.slice a1 n n) n ((dk ((aX L i).take k) k n).map (Value.int .i64))/\OC w wr)
  (λi _=>n - (intOf i).toNat)
 case atStart=>exact ⟨0,JU _,rfl,by simpa [dk] using hown1,hbw⟩
 case round =>
  obtain ⟨k,hk,rfl,hown,hbel⟩:=hrel
  obtain ⟨hints,hmine⟩:=NZ hown
  have hpl1:=hints.pl
  by_cases hlt : k<n
  ·obtain ⟨ra,rn,rc,hcell,hrow⟩:=(hi.af hbel).cell k hlt
   have hkL : k<L.length:=by rw [Hlen.out];exact hlt
   have hri : i<rn:=by rw [<- hrow.len,aE hkL];exact HL.out _ (Kp hkL)
   have ci:=hrow.cell i hri
   have hpr:=hrow.pl
   have hf:=(hmine (by omega)).2 k hlt
   have hc2:=hints.cell k hlt
   have hB:=(hmine (by omega)).1
   have Hv:=Z5 (da L i k hkL)
   go_wp2_with fail
   go_roundw
   case rel =>
    refine ⟨k+1,by omega,by go_num,?_,hbel.setCell hB _⟩
    have h:=bC hown k hlt (.int .i64 (nth (ai L k) i))
    rw [<- Kh,fo _ _ _ _ (by rw [Ki,dt];omega) hlt] at h
    rw [JW (by rw [dt];omega),<- aj,Hv.out]
    exact h
   case measure=>simp [intOf] <;> omega
  ·obtain rfl : k=n:=by omega
   have hl : (aX L i).length=k:=by rw [dt];exact Hlen.out
   rw [fR,JX (by omega)] at hown
   have Hl:=Z5 hl
   clear hl
   go_wp2_with fail
   go_ret
   exact ⟨a1,k,by rw [Hl.out];rfl,by rw [Hl.out];exact hown,hbel⟩
theorem nU {w : World} {b : Nat} {G : cX} (pb : Nat) (a : OA) (n c : Nat) (L : Ll) (m : Nat) (ao : OA) (no co : Nat) (Q : LI) (most : Nat)
  (p0 : w.cell? ⟨pb,0,none⟩=some (.pointer (some ⟨b,0,none⟩))) (p5 : w.cell? ⟨pb,5,none⟩=some (.slice a n c))
  (h : ee w b G) (hi : bu w a n L) (hR : bs G.El m L) (hq : Ints w ao no Q) (hQ : ∀k,k<no->0<=nth Q k/\nth Q k<m) (hn : n<=1000000) (hno : no<=1000000) :
  Calls prog 231 #[.pointer (some ⟨pb,0,none⟩),.slice ao no co,.int .i64 most] w (db w (xl G.ops L Q most)):=by
 have Hlen:=Z5 hi.len;have HR:=Z5 hR;have HQ:=Z5 hQ;have Hql:=Z5 hq.len;have hplq:=hq.pl;have hcl:=Z5 (Oq h);have HP:=Z5 (λ(V : World) (hV : OC w V)=>aB hV p5);clear hR hQ;go_enter func231,ntmps231;go_wp2_with fail;obtain ⟨V,hV⟩ : ∃V : World,V=w.alloc (.cells #[.pointer (some ⟨b,0,none⟩),.slice none 0 0,.slice none 0 0] 259):=⟨_,rfl⟩
 rw [<- hV];have hbV : OC w V:=by rw [hV];exact an _ _
 have hB0 : rB V w.heap.size w.heap.size b none 0 [] none 0 ⟨[],[]⟩:=rB.start (JO _) (by rw [hV];exact NY _ _ _ rfl);clear hV p0 p5;go_loopw [8,19] (λqv iv wr=>∃(k : Nat) (aq : OA) (cq : Nat) (out : LI) (s : BS) (ar : OA) (cr : Nat) (R : LA) (ap : OA) (cp : Nat),k<=no/\iv = .int .i64 k/\qv = .slice aq out.length cq /\
   Hid (grTo G.ops L Q k=(s,out))/\rB wr w.heap.size w.heap.size b ar cr R ap cp s/\wr.ownsRow w.heap.size 3 1 (.slice aq out.length cq) out.length (out.map (Value.int .i64))/\Hid (aq ≠ none->¬ zg w.heap.size ar R ap (ablk aq)) /\
   OC w wr/\Hid (s.Ok G.El n)/\s.rows.length<=k/\out.length<=k/\Hid (out.length<=most))
  (λ_ iv _=>no - (intOf iv).toNat)
 case atStart=>exact ⟨0,none,0,[],⟨[],[]⟩,none,0,[],none,0,JU _,rfl,rfl,rfl,hB0,cF,λh0=>absurd rfl h0,hbV,⟨λr hr=>by simp at hr,rfl,λi hi=>by simp at hi⟩,JU _,JU _,JU _⟩
 case round =>
  obtain ⟨k,aq,cq,out,s,ar,cr,R,ap,cp,hk,rfl,rfl,hst,hBr,hop,hdq,hbr,hok,hsk,hok2,hom⟩:=hrel
  generalize wr=U at *
  by_cases hlt : k<no
  ·have cq1:=(hq.af hbr).cell k hlt
   have hQk:=HQ.out k hlt
   obtain ⟨i,hik⟩ : ∃i : Nat,nth Q k=i:=⟨(nth Q k).toNat,by omega⟩
   rw [hik] at cq1 hQk
   by_cases hmo : out.length=most
   ·have Ho : Hid (xl G.ops L Q most=out):=by show _=_;have h1:=Ea (O:=G.ops) (L:=L) (Q:=Q) (k:=k) (most:=most) (by rw [Hql.out];exact hk) (by rw [hst.out];exact hmo);rw [h1,hst.out]
    have hd : ((out.length : Int) == (most : Int))=true:=by simp;omega
    clear hmo
    go_wp2_with fail
    go_ret
    exact ⟨aq,cq,by rw [Ho.out];rfl,by rw [Ho.out];exact hop,hbr⟩
   have hd : ((out.length : Int) == (most : Int))=false:=by simp;omega
   have Hom : Hid (out.length+1<=most):=by have:=hom.out;show _<=_;omega
   have him : i<m:=by omega
   have p5:=HP.out U hbr
   have hcol:=Gm HR.out him
   rw [Hlen.out] at hcol
   have hstep : grTo G.ops L Q (k+1)=(s.next G.ops (aX L i),if s.gd G.ops (aX L i)=true then out ++ [(i : Int)] else out):=by rw [grTo,hst.out,hik,JQ]
   have Hstep:=Z5 hstep
   have Hcol:=Z5 hcol
   clear hstep hcol hik hmo
   go_wp2_with fail
   refine (vf pb a n c L i U p5 (hi.af hbr) (λr hr=>by rw [(HR.out r hr).1];exact him) hn).mono ?_
   rintro e w3 ⟨a3,c3,rfl,hown3,hb3⟩
   rw [Hcol.out.1] at hown3
   rw [Hcol.out.1]
   have hB3:=hBr.af hb3
   have hbw3:=NX hbr hb3
   have hn3 : a3 ≠ none->¬ zg w.heap.size ar R ap (ablk a3):=λh0 hI=>by have h1:=(ba hown3 h0).1;have h2:=(hBr.lt _ hI).2;omega
   clear p5
   go_wp2_with fail
   refine (B6 w.heap.size ar cr R ap cp s a3 c3 n (aX L i) h hbw3 hB3 hok.out (bd hown3 hbr.size) hn3 Hcol.out.2 hn (by omega)).mono ?_
   rintro e w4 ⟨ar',cr',R',ap',cp',rfl,hB4,hM4⟩
   have hbw4 : OC w w4:=hbw3.trans (hM4.below (λx hx=>by
    rcases hx with h1 | ⟨h1,h2⟩
    ·exact (hB3.lt x h1).1
    ·rw [h2];exact J4 hbr.size (ba hown3 h1).1) hbw3.size)
   have hop3:=bp hop hb3
   have hnI : aq ≠ none->¬ (zg w.heap.size ar R ap (ablk aq)\/(a3 ≠ none/\ablk aq=ablk a3)):=λh0 hI=>by
    rcases hI with h1 | ⟨h1,h2⟩
    ·exact hdq.out h0 h1
    ·have e1:=(ba hop h0).2;have e2:=(ba hown3 h1).1;omega
   have hop4:=hM4.own hop3 hnI
   have hdq4 : aq ≠ none->¬ zg w.heap.size ar' R' ap' (ablk aq):=λh0=>hM4.not (ba hop3 h0).2 (hnI h0)
   have hok4 : (s.next G.ops (aX L i)).Ok G.El n:=BS.Ok.next hcl.out hok.out Hcol.out
   have hlen4:=BS.Ec G.ops s (aX L i)
   have Hok4:=Z5 hok4
   have Hdq4:=Z5 hdq4
   clear hnI hdq4 hok4
   by_cases ht : s.gd G.ops (aX L i)=true
   ·rw [ht]
    have Hst : Hid (grTo G.ops L Q (k+1)=(s.next G.ops (aX L i),out ++ [(i : Int)])):=by show _=_;rw [Hstep.out,JT ht]
    clear ht
    generalize s.next G.ops (aX L i)=s' at *
    have hcn:=bf w4 (.int .i64 i) 3
    have hbn:=an w4 (.cells #[.int .i64 i] 3)
    have hsz4:=hbw4.size
    go_wp2_with (at_builtin;refine aS rfl _ _ 22 3 rfl (.int .i64 0) 8 underlying22 aV rfl w.heap.size aq out.length cq _ rfl (hop4.alloc _) ⟨w4.heap.size,0,none⟩ 1 (.int .i64 i) rfl hcn rfl (by omega) (by unfold maxLen;omega) (by simp;omega) ?_;intro a5 c5 w5 hown5 hgr5 hap5)
    go_roundw
    case rel =>
     have hBn:=hB4.af hbn
     have haq : ∀x,zg w.heap.size ar' R' ap' x->eX aq x:=λx hx=>by
      by_cases h0 : aq=none
      ·exact .inl h0
      ·exact .inr λe=>Hdq4.out h0 (e ▸ hx)
     have hB5 : rB w5 w.heap.size w.heap.size b ar' cr' R' ap' cp' s':=hBn.bj λx hx=>hgr5.block x (hBn.lt x hx).2 λe=>(haq x hx).own _ _ e.symm
     have hb5 : OC w w5:=N0 (KE hbw4 (hbn.mono hsz4)) (hop4.alloc _) hgr5 (JO _) (J4 hsz4 hbn.size)
     refine ⟨k+1,a5,c5,out ++ [(i : Int)],s',ar',cr',R',ap',cp',by omega,by go_num,by simp,Hst.out,hB5,?_,?_,hb5,Hok4.out,by omega,by simp;omega,?_⟩
     ·simpa using hown5
     ·show a5 ≠ none->_
      intro h0 hI
      rcases hap5 _ (hBn.lt _ hI).2 (haq _ hI) with h1 | h1
      ·exact h0 h1
      ·exact h1 rfl
     ·show _<=_
      rw [J0];exact Hom.out
    case measure=>simp [intOf] <;> omega
   ·have ht' : s.gd G.ops (aX L i)=false:=by simpa using ht
    rw [ht']
    have Hst : Hid (grTo G.ops L Q (k+1)=(s.next G.ops (aX L i),out)):=by show _=_;rw [Hstep.out,JR ht]
    clear ht ht'
    generalize s.next G.ops (aX L i)=s' at *
    go_wp2_with fail
    go_roundw
    case rel=>exact ⟨k+1,aq,cq,out,s',ar',cr',R',ap',cp',by omega,by go_num,rfl,Hst.out,hB4,hop4,Hdq4.out,hbw4,Hok4.out,by omega,by omega,hom.out⟩
    case measure=>simp [intOf] <;> omega
  ·obtain rfl : k=no:=by omega
   have Ho : Hid (xl G.ops L Q most=out):=by show _=_;have h1:=FI (O:=G.ops) (L:=L) (Q:=Q) (most:=most) (by rw [Hql.out,hst.out];exact hom.out);rw [h1,Hql.out,hst.out]
   go_wp2_with fail
   go_ret
   exact ⟨aq,cq,by rw [Ho.out];rfl,by rw [Ho.out];exact hop,hbr⟩
section
variable {f : Nat->Int} {N : Nat} (hf : ∀y,f y<=N)
include hf
end

section
variable {O : aM} {El : Int->Prop} {m : Nat}
end
section
variable {P M : Int} {mod : LI} {m : Nat} {L : Ll} {Q : LI}
end
section
variable {O : aM} {El : Int->Prop} {m : Nat} {R : Ll} {P : LI}
theorem mW (hR : bs El m R) (hP : j5 R P m) (hlen : R.length=P.length) : BS.Inv El m ⟨R,P⟩ where
 ok:=⟨hR,hlen.symm,λi hi=>hP.lt i (by rw [<- hlen];exact hi)⟩
 one:=λi hi=>by show nth (ai R i) (nth P i).toNat=1;rw [hP.one i i (by rw [<- hlen];exact hi) hi,JT rfl]
 zero:=λj i hj hi=>by have hi' : i<R.length:=hi;show nth (ai R i) (nth P j).toNat=0;rw [hP.one j i (by omega) hi',JR (by omega)]
theorem E8 (F : bI O El) (hI : BS.Inv El m ⟨R,P⟩) {v : LI} (hv : Vc El m v) (hs : RS O El m R (λx=>nth v x)) : ∀k,k<=R.length->RS O El m R (λx=>nth (redTo O R P v k) x)
 | 0,_=>hs
 | k+1,hk=>by have hu : Vc El m (redTo O R P v k):=Oj F hI.ok hv k (show k<=R.length by omega);have hp : (nth P k).toNat<m:=hI.ok.pl (show k<R.length by omega);have hr : Vc El m (ai R k):=hI.ok.row (show k<R.length by omega);refine ((E8 F hI hv hs k (by omega)).comb F (.row F (i:=k) (by omega)) (hu.at hp)).congr λx hx=>?_;rw [redTo,e9 F hu hr hp hx,F.mul_comm _ _ (hu.at hp) (hr.at hx)]
theorem EF (F : bI O El) (hR : bs El m R) (hP : j5 R P m) (hlen : R.length=P.length) {v : LI} (hv : Vc El m v) (hs : RS O El m R (λx=>nth v x)) : ∀x,x<m->nth (redTo O R P v R.length) x=0:=by have hI:=mW hR hP hlen;obtain ⟨e,he,h⟩:=E8 F hI hv hs R.length (JO _);intro x hx;have h1 : nth (redTo O R P v R.length) x=e (aX R x):=h x hx;rw [h1];refine hP.all F hR hx e he λy hy=>?_;obtain ⟨j,hj,rfl⟩:=(fu P _ _).1 hy;rw [<- h _ (by have:=hP.lt j hj;omega)];exact hI.place F hv R.length (JO _) j (by omega)
def cmbTo (O : aM) (m : Nat) (x : LI) (L : Ll) : Nat->LI
 | 0=>List.replicate m 0
 | k+1=>if nth x k=0 then cmbTo O m x L k else bN O (cmbTo O m x L k) (nth x k) (ai L k)
theorem RS.add (F : bI O El) {L : Ll} {f g : Nat->Int} (hL : bs El m L) (hf : RS O El m L f) (hg : RS O El m L g) {s : Int} (hs : El s) : RS O El m L (λx=>O.add (f x) (O.mul (g x) s)):=by
 refine (hf.comb F hg (F.cl.neg s hs)).congr λx hx=>?_;obtain ⟨e,he,h⟩:=hg;have hgx : El (g x):=by rw [h x hx];exact he.el _ (cO hL F.zero x)
 rw [F.mul_neg hgx hs,F.neg_neg (F.cl.mul _ _ hgx hs)]
theorem ju (F : bI O El) {L : Ll} (hL : bs El m L) {x : LI} (hx : ∀k,k<L.length->El (nth x k)) : ∀k,k<=L.length->Vc El m (cmbTo O m x L k)/\RS O El m L (λi=>nth (cmbTo O m x L k) i)
 | 0,_=>by
  have h0 : ∀i,nth (List.replicate m (0 : Int)) i=0:=λi=>by unfold nth;simp only [JS,Ke];split <;> rfl
  exact ⟨⟨by simp [cmbTo],λy hy=>by rw [KJ hy];exact F.zero⟩,Oz F λi _=>h0 i⟩
 | k+1,hk=>by
  obtain ⟨h1,h2⟩:=ju F hL hx k (by omega);have hr:=hL.row (i:=k) (by omega);have hs:=hx k (by omega);rw [cmbTo];split
  ·exact ⟨h1,h2⟩
  ·have hl : (ai L k).length=(cmbTo O m x L k).length:=by rw [hr.1,h1.1]
   refine ⟨⟨by rw [cR _ _ _ _ hl];exact h1.1,lk F.cl h1.2 hr.2 hs⟩,(RS.add F hL h2 (.row F (i:=k) (by omega)) hs).congr λi hi=>?_⟩;have hri : El (nth (ai L k) i):=N2 hr hi;rw [fb O _ _ _ i hl (by rw [h1.1];exact hi)];split
   ·rename_i e0;rw [e0,F.iY hs,F.add_zero _ (h1.at hi)]
   ·rw [F.mul_comm _ _ hs hri]
end
def BN (P M : Int) (mod : LI) (w : World) (e : Ending) (w' : World) : Prop :=
 ∃a c,e = .returned (.agg #[.int .i64 P,.int .i64 M,.slice a mod.length c])/\bJ w.heap.size w' a mod.length mod/\OC w w'
theorem GD (P M : Int) (am : OA) (mn cm : Nat) (mod : LI) (w : World) (hmod : Ints w am mn mod) (hmn : mn<=1000000) :
  Calls prog 178 #[.agg #[.int .i64 P,.int .i64 M,.slice am mn cm]] w (BN P M mod w):=by
 go_enter func178,ntmps178;go_wp2_with fail;obtain ⟨W,hW⟩ : ∃W : World,W=(w.alloc (.cells #[.int .i64 P,.int .i64 M,.slice am mn cm] 24)).alloc (.cells #[.int .i64 0,.int .i64 0,.slice none 0 0] 24):=⟨_,rfl⟩
 rw [<- hW];have hbW : OC w W:=by rw [hW];exact bT _ _ _
 have hsW : W.heap.size=w.heap.size+2:=by rw [hW];simp
 have x0 : aO W w.heap.size [.int .i64 P,.int .i64 M,.slice am mn cm]:=by rw [hW];exact (NY _ _ _ rfl).alloc _
 have y0 : aO W (w.heap.size+1) [.int .i64 0,.int .i64 0,.slice none 0 0]:=by rw [hW];exact NY _ _ _ (by simp)
 clear hW;refine (dx am mn cm mod (hmod.af hbW) hmn).mono ?_;rintro e w1 ⟨a1,c1,rfl,hown1,hb1⟩;have x1:=x0.af hb1;have y1:=y0.af hb1;have d0:=x1.cell 0 rfl;have d1:=x1.cell 1 rfl;have d2:=x1.cell 2 rfl;have e0:=y1.cell 0 rfl;have e1:=y1.cell 1 rfl;have e2:=y1.cell 2 rfl;have fx:=x1.frozen 2;have f0:=y1.frozen 0;have f1:=y1.frozen 1;have f2:=y1.frozen 2;have hbw1:=NX hbW hb1;have hl:=Z5 (Ow hown1);have hN : bJ w.heap.size ((((w1.setCell ⟨w.heap.size,2,none⟩ (.slice a1 mod.length c1)).setCell ⟨w.heap.size+1,0,none⟩ (.int .i64 P)).setCell ⟨w.heap.size+1,1,none⟩ (.int .i64 M)).setCell ⟨w.heap.size+1,2,none⟩ (.slice a1 mod.length c1)) a1 mod.length mod :=
  ((((hl.out.setCell (p:=⟨w.heap.size,2,none⟩) (by simp;omega) _).setCell (p:=⟨w.heap.size+1,0,none⟩) (by simp;omega) _).setCell (p:=⟨w.heap.size+1,1,none⟩) (by simp;omega) _).setCell (p:=⟨w.heap.size+1,2,none⟩) (by simp;omega) _).mono (by omega)
 have hB : OC w ((((w1.setCell ⟨w.heap.size,2,none⟩ (.slice a1 mod.length c1)).setCell ⟨w.heap.size+1,0,none⟩ (.int .i64 P)).setCell ⟨w.heap.size+1,1,none⟩ (.int .i64 M)).setCell ⟨w.heap.size+1,2,none⟩ (.slice a1 mod.length c1)) :=
  (((hbw1.setCell (p:=⟨w.heap.size,2,none⟩) (by simp) _).setCell (p:=⟨w.heap.size+1,0,none⟩) (by simp) _).setCell (p:=⟨w.heap.size+1,1,none⟩) (by simp) _).setCell (p:=⟨w.heap.size+1,2,none⟩) (by simp) _
 have HF:=Z5 (JZ hN hB);clear hN hB hown1 hl x0 y0 hbw1;go_wp2_with fail;exact bodyPost_ret (v:=.agg #[.int .i64 P,.int .i64 M,.slice a1 mod.length c1]) (by simp [results,results178,go_sem,e0,e1,e2]) rfl ⟨a1,c1,rfl,HF.out.1,HF.out.2⟩
def ot (P M : Int) (mod : LI) (m : Int) (a : OA) (k c : Nat) (w : World) (e : Ending) (w' : World) : Prop :=
 ∃a1 c1,e = .returned (.tuple #[.agg #[.int .i64 P,.int .i64 M,.slice a1 mod.length c1,.int .i64 m,.slice a k c],.int .i64 0])/\bJ w.heap.size w' a1 mod.length mod/\OC w w'
theorem Ac (P M : Int) (am : OA) (mn cm : Nat) (mod : LI) (m : Int) (a : OA) (k c : Nat) (w : World) (hmod : Ints w am mn mod) (hmn : mn<=1000000) :
  Calls prog 120 #[.agg #[.int .i64 P,.int .i64 M,.slice am mn cm],.agg #[.int .i64 m,.slice a k c],.int .i64 0] w (ot P M mod m a k c w):=by
 go_enter func120,ntmps120;go_wp2_with fail;obtain ⟨W,hW⟩ : ∃W : World,W=((w.alloc (.cells #[.int .i64 P,.int .i64 M,.slice am mn cm] 24)).alloc (.cells #[.int .i64 m,.slice a k c] 94)).alloc (.cells #[.int .i64 0,.int .i64 0,.slice none 0 0,.int .i64 0,.slice none 0 0] 27):=⟨_,rfl⟩
 rw [<- hW];have hbW : OC w W:=by rw [hW];exact j8 _ _ _ _
 have hsW : W.heap.size=w.heap.size+3:=by rw [hW];simp
 have x0 : aO W w.heap.size [.int .i64 P,.int .i64 M,.slice am mn cm]:=by rw [hW];exact ((NY _ _ _ rfl).alloc _).alloc _
 have y0 : aO W (w.heap.size+1) [.int .i64 m,.slice a k c]:=by rw [hW];exact (NY _ _ _ (by simp)).alloc _
 have z0 : aO W (w.heap.size+1+1) [.int .i64 0,.int .i64 0,.slice none 0 0,.int .i64 0,.slice none 0 0]:=by rw [hW];exact NY _ _ _ (by simp)
 have Hown : Hid (∀V,OC W V->Calls prog 178 #[.agg #[.int .i64 P,.int .i64 M,.slice am mn cm]] V (BN P M mod V)):=λV hV=>GD P M am mn cm mod V (hmod.af (NX hbW hV)) hmn;have hS : ∀V,OC W V->V.cell? ⟨w.heap.size,0,none⟩=some (.int .i64 P)/\V.cell? ⟨w.heap.size,1,none⟩=some (.int .i64 M)/\V.cell? ⟨w.heap.size,2,none⟩=some (.slice am mn cm)/\V.cell? ⟨w.heap.size+1,0,none⟩=some (.int .i64 m)/\V.cell? ⟨w.heap.size+1,1,none⟩=some (.slice a k c) /\
   aO V (w.heap.size+1+1) [.int .i64 0,.int .i64 0,.slice none 0 0,.int .i64 0,.slice none 0 0]:=λV hV=>by have x1:=x0.af hV;have y1:=y0.af hV;exact ⟨x1.cell 0 rfl,x1.cell 1 rfl,x1.cell 2 rfl,y1.cell 0 rfl,y1.cell 1 rfl,z0.af hV⟩
 have HS:=Z5 hS;have HbW:=Z5 hbW;have HsW:=Z5 hsW;obtain ⟨c0,c1,c2,c3,c4,_⟩:=HS.out W (JP _ _);have HP : Hid (∀(w4 : World) (a4 : OA) (c4' : Nat),bJ W.drew.heap.size w4 a4 mod.length mod->Below W.drew.heap.size W.drew w4 ->
   ot P M mod m a k c w (.returned (.tuple #[.agg #[.int .i64 P,.int .i64 M,.slice a4 mod.length c4',.int .i64 m,.slice a k c],.int .i64 0]))
    (((((w4.setCell ⟨w.heap.size+1+1,0,none⟩ (.int .i64 P)).setCell ⟨w.heap.size+1+1,1,none⟩ (.int .i64 M)).setCell ⟨w.heap.size+1+1,2,none⟩ (.slice a4 mod.length c4')).setCell ⟨w.heap.size+1+1,3,none⟩ (.int .i64 m)).setCell ⟨w.heap.size+1+1,4,none⟩ (.slice a k c))):=λw4 a4 c4' h1 h2=>by
  have h1' : bJ W.heap.size w4 a4 mod.length mod:=h1;have hb:=NX hbW (NX (JP _ _).drew h2);have hs:=HsW.out;refine ⟨a4,c4',rfl,?_,?_⟩
  ·exact (((((h1'.setCell (p:=⟨w.heap.size+1+1,0,none⟩) (by simp;omega) _).setCell (p:=⟨w.heap.size+1+1,1,none⟩) (by simp;omega) _).setCell (p:=⟨w.heap.size+1+1,2,none⟩) (by simp;omega) _).setCell (p:=⟨w.heap.size+1+1,3,none⟩) (by simp;omega) _).setCell (p:=⟨w.heap.size+1+1,4,none⟩) (by simp;omega) _).mono (by omega)
  ·exact ((((hb.setCell (p:=⟨w.heap.size+1+1,0,none⟩) (by simp;omega) _).setCell (p:=⟨w.heap.size+1+1,1,none⟩) (by simp;omega) _).setCell (p:=⟨w.heap.size+1+1,2,none⟩) (by simp;omega) _).setCell (p:=⟨w.heap.size+1+1,3,none⟩) (by simp;omega) _).setCell (p:=⟨w.heap.size+1+1,4,none⟩) (by simp;omega) _
 clear hW x0 y0 z0 hS hmod hbW hsW;go_wp2_with fail;go_region_law (
  (go_simp;go_at_call 178;((with_reducible refine (Hown.out _ (JP _ _).drew).mono ?_);rintro e w4 ⟨a4,c4',rfl,hN4,hb4⟩;obtain ⟨c0,c1,c2,c3,c4,zz⟩:=HS.out w4 (NX (JP _ _).drew hb4);have z0:=zz.cell 0 rfl;have z1:=zz.cell 1 rfl;have z2:=zz.cell 2 rfl;have z3:=zz.cell 3 rfl;have z4:=zz.cell 4 rfl;have f0:=zz.frozen 0;have f1:=zz.frozen 1;have f2:=zz.frozen 2;have f3:=zz.frozen 3;have f4:=zz.frozen 4)))
 all_goals (
  have HP4:=Z5 (HP.out w4 a4 c4' hN4 hb4)
  clear hN4 hb4 Hown HS HP
  go_wp2_with fail
  exact bodyPost_ret (v:=.tuple #[.agg #[.int .i64 P,.int .i64 M,.slice a4 mod.length c4',.int .i64 m,.slice a k c],.int .i64 0]) (by simp [results,results120,go_sem,z0,z1,z2,z3,z4]) rfl HP4.out)
theorem sS (U : LI) (k : Nat) : frTo false U (k+1)=if decide ((k : Int) ∈ U)=false then frTo false U k ++ [(k : Int)] else frTo false U k:=rfl
theorem sc (pb m : Nat) (sa : OA) (ns cs : Nat) (s : LI) (az : OA) (nz cz : Nat) (z : LI) (w : World) (p4 : w.cell? ⟨pb,4,none⟩=some (.int .i64 m)) (hs : Ints w sa ns s) (hz : Ints w az nz z)
  (hnz : nz<=1000000) (hm : m<=1000) :
  Calls prog 232 #[.pointer (some ⟨pb,0,none⟩),.slice sa ns cs,.slice az nz cz] w (db w (i5 m s z)):=by
 have Hzl:=Z5 hz.len;have HP:=Z5 (λ(V : World) (hV : OC w V)=>aB hV p4);go_enter func232,ntmps232;go_wp2_with fail;refine (yV az nz cz w).mono ?_;rintro e w1 ⟨rfl,rfl⟩;have hb1 : OC w (w.alloc (.cells #[.slice az nz cz] 22)):=an _ _;have HSo:=Z5 (yO w.heap.size az nz cz z hnz (w.alloc (.cells #[.slice az nz cz] 22)) (by simp) (aF _ _ _ rfl 0) (hz.af hb1));have hsz1 : w.heap.size<=(w.alloc (.cells #[.slice az nz cz] 22)).heap.size:=hb1.size;generalize w.alloc (.cells #[.slice az nz cz] 22)=w1 at *;go_wp2_with fail;refine HSo.out.mono ?_;rintro e w2 ⟨a2,c2,rfl,hown2,hb2⟩;have hbw2:=NX hb1 hb2;have p4':=HP.out w2 hbw2;have hO2 : w2.ownsRow w.heap.size 3 1 (.slice a2 nz c2) nz ((dn z).map (Value.int .i64)):=bd hown2 hsz1;clear hown2 p4;go_wp2_with fail;go_loopw [7,17] (λqv iv wr=>∃(k : Nat) (aq : OA) (cq : Nat) (out : LI),k<=m/\iv = .int .i64 k/\qv = .slice aq out.length cq/\Hid (out=dn z ++ frTo false (s ++ z) k)/\Hid (out.length<=nz+k) /\
   wr.ownsRow w.heap.size 3 1 (.slice aq out.length cq) out.length (out.map (Value.int .i64))/\OC w wr)
  (λ_ iv _=>m - (intOf iv).toNat)
 case atStart =>
  refine ⟨0,a2,c2,dn z,JU _,rfl,?_,?_,?_,?_,hbw2⟩
  ·rw [fy,Hzl.out]
  ·show _=_;simp [frTo]
  ·show _<=_;rw [fy,Hzl.out];omega
  ·rw [fy,Hzl.out];exact hO2
 case round =>
  obtain ⟨k,aq,cq,out,hk,rfl,rfl,hst,hln,hop,hbr⟩:=hrel
  generalize wr=U at *
  by_cases hlt : k<m
  ·have hsU:=hs.af hbr
   have hzU:=hz.af hbr
   have hlen:=hln.out
   have Hskip : Hid (((k : Int) ∈ s ++ z)->out=dn z ++ frTo false (s ++ z) (k+1)):=λhmem=>by rw [sS,JR (by rw [Kc hmem];decide)];exact hst.out
   have Htake : Hid (¬ ((k : Int) ∈ s ++ z)->out ++ [(k : Int)]=dn z ++ frTo false (s ++ z) (k+1)):=λhmem=>by rw [sS,JT (by rw [Kb hmem]),<- KI,<- hst.out]
   by_cases h1 : (k : Int) ∈ s
   ·have hmd : decide ((k : Int) ∈ s)=true:=by simpa using h1
    have HcA:=Z5 (dp sa ns cs s k U hsU)
    rw [hmd] at HcA
    have Hst : Hid (out=dn z ++ frTo false (s ++ z) (k+1)):=Hskip.out (List.mem_append.2 (.inl h1))
    clear h1 hmd
    go_wp2_with fail
    refine HcA.out.mono ?_
    rintro e w6 ⟨rfl,rfl⟩
    go_wp2_with fail
    go_roundw
    case rel=>exact ⟨k+1,aq,cq,out,by omega,by go_num,rfl,Hst.out,(show _<=_ by omega),hop,hbr⟩
    case measure=>simp [intOf] <;> omega
   ·have hmd : decide ((k : Int) ∈ s)=false:=by simpa using h1
    have HcA:=Z5 (dp sa ns cs s k U hsU)
    rw [hmd] at HcA
    by_cases h2 : (k : Int) ∈ z
    ·have hmd2 : decide ((k : Int) ∈ z)=true:=by simpa using h2
     have HcB:=Z5 (dp az nz cz z k U hzU)
     rw [hmd2] at HcB
     have Hst : Hid (out=dn z ++ frTo false (s ++ z) (k+1)):=Hskip.out (List.mem_append.2 (.inr h2))
     clear h1 hmd h2 hmd2
     go_wp2_with fail
     refine HcA.out.mono ?_
     rintro e w6 ⟨rfl,rfl⟩
     go_wp2_with fail
     refine HcB.out.mono ?_
     rintro e w7 ⟨rfl,rfl⟩
     go_wp2_with fail
     go_roundw
     case rel=>exact ⟨k+1,aq,cq,out,by omega,by go_num,rfl,Hst.out,(show _<=_ by omega),hop,hbr⟩
     case measure=>simp [intOf] <;> omega
    ·have hmd2 : decide ((k : Int) ∈ z)=false:=by simpa using h2
     have HcB:=Z5 (dp az nz cz z k U hzU)
     rw [hmd2] at HcB
     have Hst : Hid (out ++ [(k : Int)]=dn z ++ frTo false (s ++ z) (k+1)):=Htake.out λh=>by
      rcases List.mem_append.1 h with h | h
      ·exact h1 h
      ·exact h2 h
     have hcn:=bf U (.int .i64 k) 3
     have hbn:=an U (.cells #[.int .i64 k] 3)
     have hszU:=hbr.size
     clear h1 hmd h2 hmd2
     go_wp2_with fail
     refine HcA.out.mono ?_
     rintro e w6 ⟨rfl,rfl⟩
     go_wp2_with fail
     refine HcB.out.mono ?_
     rintro e w7 ⟨rfl,rfl⟩
     go_wp2_with (at_builtin;refine aS rfl _ _ 22 3 rfl (.int .i64 0) 8 underlying22 aV rfl w.heap.size aq out.length cq _ rfl (hop.alloc _) ⟨w7.heap.size,0,none⟩ 1 (.int .i64 k) rfl hcn rfl (by omega) (by unfold maxLen;omega) (by simp;omega) ?_;intro a5 c5 w5 hown5 hgr5 hap5)
     go_roundw
     case rel =>
      have hb5 : OC w w5:=N0 (KE hbr (hbn.mono hszU)) (hop.alloc _) hgr5 (JO _) (J4 hszU hbn.size)
      refine ⟨k+1,a5,c5,out ++ [(k : Int)],by omega,by go_num,by simp,Hst.out,(show _<=_ by rw [J0,Ka];omega),?_,hb5⟩
      simpa using hown5
     case measure=>simp [intOf] <;> omega
  ·obtain rfl : k=m:=by omega
   have Ho : Hid (i5 k s z=out):=by show _=_;rw [i5,hst.out]
   go_wp2_with fail
   go_ret
   exact ⟨aq,cq,by rw [Ho.out];rfl,by rw [Ho.out];exact hop,hbr⟩
theorem JL {G : cX} {x : Int} (h : G.El x) : (decide (0<=x) && decide (x<G.q))=true:=by unfold cX.El at h;simp;exact h
theorem zu {w : World} {b : Nat} {G : cX} (q : Nat) (x : Int) (hc : w.cell? ⟨q,0,none⟩=some (.pointer (some ⟨b,0,none⟩))) (h : ee w b G) (hx : G.El x) :
  Calls prog 241 #[.int .i64 x,.pointer (some ⟨q,0,none⟩)] w λe w'=>e = .returned (.bool false)/\w=w':=by have hB:=JL hx;go_enter func241,ntmps241;go_wp2_with fail;refine (I1 x h).mono ?_;rintro e w' ⟨rfl,rfl⟩;rw [hB];go_wp2_with fail;go_ret;exact ⟨rfl,rfl⟩
theorem xJ (q : Nat) (a : OA) (n c : Nat) (l : LI) (w : World) (hi : Ints w a n l) (hf : ∀k,k<n->Calls prog 241 #[.int .i64 (nth l k),.pointer (some ⟨q,0,none⟩)] w λe w'=>e = .returned (.bool false)/\w=w') :
  Calls prog 111 #[.slice a n c,.func (.func 241) #[] #[.pointer (some ⟨q,0,none⟩)]] w λe w'=>e = .returned (.int .i64 (-1))/\w=w':=by
 have hpl:=hi.pl;have hmax:=hi.max;have HF:=Z5 hf;unfold maxLen at hmax;clear hf;go_enter func111,ntmps111;go_wp2_with fail;go_loop [8] (λiv=>∃k : Nat,k<=n/\iv = .int .i64 k) (λiv=>n - (intOf iv).toNat);case atStart=>exact ⟨0,JU _,rfl⟩
 case round =>
  obtain ⟨k,hk,rfl⟩:=hrel
  by_cases hlt : k<n
  ·have ck:=hi.cell k hlt
   have Hk:=Z5 (HF.out k hlt)
   go_wp2_with fail
   refine Hk.out.mono ?_
   rintro e w' ⟨rfl,rfl⟩
   go_wp2_with fail
   go_round
   case rel=>exact ⟨k+1,by omega,by go_num⟩
   case measure=>simp [intOf] <;> omega
  ·obtain rfl : k=n:=by omega
   go_wp2_with fail
   go_ret
   exact ⟨rfl,rfl⟩
theorem sq (q : Nat) (a : OA) (n c : Nat) (l : LI) (w : World) (hi : Ints w a n l) (hf : ∀k,k<n->Calls prog 241 #[.int .i64 (nth l k),.pointer (some ⟨q,0,none⟩)] w λe w'=>e = .returned (.bool false)/\w=w') :
  Calls prog 53 #[.slice a n c,.func (.func 241) #[] #[.pointer (some ⟨q,0,none⟩)]] w λe w'=>e = .returned (.bool false)/\w=w':=by have Hc:=Z5 (xJ q a n c l w hi hf);clear hf;go_enter func53,ntmps53;go_wp2_with fail;refine Hc.out.mono ?_;rintro e w' ⟨rfl,rfl⟩;go_wp2_with fail;go_ret;exact ⟨rfl,rfl⟩
theorem vD {w : World} {b : Nat} {G : cX} (m : Nat) (a : OA) (n c : Nat) (ap : OA) (np cp : Nat) (ax : OA) (cx : Nat) (x : LI) (h : ee w b G) (hx : Ints w ax m x) (hxe : Vc G.El m x) :
  Calls prog 191 #[.agg #[.pointer (some ⟨b,0,none⟩),.int .i64 m,.slice a n c,.slice ap np cp],.slice ax m cx] w λe w'=>e = .returned (.int .i64 0)/\OC w w':=by
 go_enter func191,ntmps191;go_wp2_with fail;obtain ⟨W,hW⟩ : ∃W : World,W=w.alloc (.cells #[.pointer (some ⟨b,0,none⟩),.int .i64 m,.slice a n c,.slice ap np cp] 210):=⟨_,rfl⟩
 rw [<- hW];have hbW : OC w W:=by rw [hW];exact an _ _
 have x0 : aO W w.heap.size [.pointer (some ⟨b,0,none⟩),.int .i64 m,.slice a n c,.slice ap np cp]:=by rw [hW];exact NY _ _ _ rfl
 have c0:=x0.cell 0 rfl;have c1:=x0.cell 1 rfl;have hmm : ((m : Int) != m)=false:=by simp
 have Hc:=Z5 (sq w.heap.size ax m cx x W (hx.af hbW) λk hk =>
  zu w.heap.size (nth x k) c0 (h.af hbW) (hxe.at hk))
 clear hW x0;go_wp2_with fail;refine Hc.out.mono ?_;rintro e w' ⟨rfl,rfl⟩;go_wp2_with fail;go_ret;exact ⟨rfl,hbW⟩
theorem py {w : World} {b : Nat} {G : cX} (m : Nat) (a : OA) (n c : Nat) (R : Ll) (ap : OA) (cp : Nat) (Pv : LI) (ax : OA) (cx : Nat) (x : LI)
  (h : ee w b G) (hi : bu w a n R) (hp : Ints w ap n Pv) (hx : Ints w ax m x) (hOk : BS.Ok G.El m ⟨R,Pv⟩) (hxe : Vc G.El m x) (hn : n<=1000000) (hm : m<=1000000) :
  Calls prog 242 #[.agg #[.pointer (some ⟨b,0,none⟩),.int .i64 m,.slice a n c,.slice ap n cp],.slice ax m cx] w
   λe w'=>∃a1 c1 v2,e = .returned (.tuple #[.slice a1 m c1,v2])/\w'.ownsRow w.heap.size 3 1 (.slice a1 m c1) m ((redTo G.ops R Pv x n).map (Value.int .i64))/\OC w w':=by
 have hcl:=Oq h;have hrl : R.length=n:=hi.len;have hred:=la hcl hOk.rws (Q:=Pv) hOk.plc hxe;have Hred:=Z5 hred;have HOk:=Z5 hOk;have Hrl:=Z5 hrl;have Hxl:=Z5 hxe.1;have hplp:=hp.pl;have hplr:=hi.pl;clear hred hOk hrl hcl;go_enter func242,ntmps242;go_wp2_with fail;obtain ⟨W,hW⟩ : ∃W : World,W=w.alloc (.cells #[.pointer (some ⟨b,0,none⟩),.int .i64 m,.slice a n c,.slice ap n cp] 210):=⟨_,rfl⟩
 rw [<- hW];have hbW : OC w W:=by rw [hW];exact an _ _
 have x0 : aO W w.heap.size [.pointer (some ⟨b,0,none⟩),.int .i64 m,.slice a n c,.slice ap n cp]:=by rw [hW];exact NY _ _ _ rfl
 have HX:=Z5 x0;have HbW:=Z5 hbW;clear hW x0;refine (dx ax m cx x (hx.af hbW) hm).mono ?_;rintro e w1 ⟨a1,c1,rfl,hown1,hb1⟩;rw [Hxl.out] at hown1 ⊢;have ha1 : a1 ≠ none->ablk a1<w1.heap.size:=λh0=>(ba hown1 h0).2;have ha1W : a1 ≠ none->W.heap.size<=ablk a1:=λh0=>(ba hown1 h0).1;have x1:=HX.out.af hb1;have q2:=x1.cell 2 rfl;have q3:=x1.cell 3 rfl;have hs1:=hb1.size;clear x1;go_wp2_with fail;go_loopw [5,16] (λtv iv wr=>∃(k : Nat) (at' : OA) (ct : Nat) (xs : List Value),k<=n/\iv = .int .i64 k/\tv = .slice at' k ct/\wr.ownsRow W.heap.size 3 1 (.slice a1 m c1) m ((redTo G.ops R Pv x k).map (Value.int .i64)) /\
   wr.ownsRow w1.heap.size 3 1 (.slice at' k ct) k xs/\OC W wr/\w1.heap.size<=wr.heap.size) (λ_ iv _=>n - (intOf iv).toNat)
 case atStart=>exact ⟨0,none,0,[],JU _,rfl,rfl,hown1,cF,hb1,JO _⟩
 case round =>
  clear q2 q3 hown1
  obtain ⟨k,at',ct,xs,hkn,rfl,rfl,hown,hopt,hbr,hsr⟩:=hrel
  have xr:=HX.out.af hbr
  have hbwr:=NX HbW.out hbr
  by_cases hlt : k<n
  ·have hkr : k<R.length:=by rw [Hrl.out];exact hlt
   have hrow:=HOk.out.rws.row hkr
   have hplc : 0<=nth Pv k/\nth Pv k<m:=HOk.out.plc k hkr
   obtain ⟨ra,rn,rc,er,ir⟩:=hi.cell k hlt
   have hrn : rn=m:=by rw [<- ir.len];exact hrow.1
   rw [hrn] at er ir
   have ep:=(hp.af hbwr).cell k hlt
   obtain ⟨pn,hpn⟩ : ∃pn : Nat,nth Pv k=pn:=⟨(nth Pv k).toNat,by omega⟩
   rw [hpn] at ep hplc
   have hpnn : pn<m:=by omega
   have hrd:=Hred.out k (by omega)
   have hrd1:=Hred.out (k+1) (by omega)
   have hstep : redTo G.ops R Pv x (k+1)=ef G.ops (redTo G.ops R Pv x k) pn (ai R k):=by rw [redTo,hpn]
   have Hstep:=Z5 hstep
   have Hrow:=Z5 hrow
   clear hstep hpn hrn
   obtain ⟨u,hu⟩ : ∃u,redTo G.ops R Pv x k=u:=⟨_,rfl⟩
   rw [hu] at hown hrd
   have Hu:=Z5 hu
   obtain ⟨iu,mu⟩:=NZ hown
   have eu:=iu.cell pn hpnn
   have hpu:=iu.pl
   have Hrd:=Z5 hrd
   clear hu hrow hrd hrd1
   have hne1 : a1 ≠ none:=λe=>by have:=hpu (by omega);rw [e] at this;cases this
   have ha1':=ha1 hne1
   have hapt : eX at' (ablk a1):=by
    by_cases h0 : at'=none
    ·exact .inl h0
    ·have:=(ba hopt h0).1;exact .inr (by omega)
   have hcn:=bf wr (.int .i64 (nth u pn)) 3
   have hbn:=an wr (.cells #[.int .i64 (nth u pn)] 3)
   have hbnx:=KE hbr (hbn.mono (by omega))
   have HN5 : Hid (∀(a5 : OA) (c5 : Nat) (w5 : World),(wr.alloc (.cells #[.int .i64 (nth u pn)] 3)).grownBy w5 (Value.slice at' k ct).ownBlock->OC W w5/\w5.ownsRow W.heap.size 3 1 (.slice a1 m c1) m (u.map (Value.int .i64))/\w1.heap.size<=w5.heap.size):=λa5 c5 w5 hgr5 =>
    ⟨N0 hbnx (hopt.alloc _) hgr5 (by omega) (by simp;omega),il (hown.alloc _) hgr5 hapt,by have:=hgr5.size;simp at this;omega⟩
   clear hbnx mu
   by_cases hz : nth u pn=0
   ·have hz' : (nth u pn != 0)=false:=by simpa using hz
    have Hn : Hid (redTo G.ops R Pv x (k+1)=u):=by show _=_;rw [Hstep.out,Hu.out,ef,JQ,JT hz]
    clear hz
    go_wp2_with (at_builtin;refine aS rfl _ _ 22 3 rfl (.int .i64 0) 8 underlying22 aV rfl w1.heap.size at' k ct xs rfl (hopt.alloc _) ⟨wr.heap.size,0,none⟩ 1 (.int .i64 (nth u pn)) rfl hcn rfl (by omega) (by unfold maxLen;omega) (by simp;omega) ?_;intro a5 c5 w5 hown5 hgr5 hap5)
    go_roundw
    case rel =>
     obtain ⟨h1,h2,h3⟩:=HN5.out a5 c5 w5 hgr5
     exact ⟨k+1,a5,c5,_,by omega,by go_num,rfl,by rw [Hn.out];exact h2,hown5,h1,h3⟩
    case measure=>simp [intOf] <;> omega
   ·have hz' : (nth u pn != 0)=true:=by simpa using hz
    have Hn : Hid (redTo G.ops R Pv x (k+1)=dL G.ops u (nth u pn) (ai R k)):=by show _=_;rw [Hstep.out,Hu.out,ef,JQ,JR hz]
    have hxe2 : G.El (nth u pn):=Hrd.out.2 _ (aI (by rw [Hrd.out.1];exact hpnn))
    have hSl : (dL G.ops u (nth u pn) (ai R k)).length=u.length:=eT _ _ _ _ (by rw [Hrow.out.1,Hrd.out.1])
    have hSn:=λi hi=>eF G.ops u (nth u pn) (ai R k) i (by rw [Hrow.out.1,Hrd.out.1]) hi
    have HSl:=Z5 hSl
    have HSn:=Z5 hSn
    clear hz hSl hSn
    have hplr2:=ir.pl
    go_upto_region 8 with (at_builtin;refine aS rfl _ _ 22 3 rfl (.int .i64 0) 8 underlying22 aV rfl w1.heap.size at' k ct xs rfl (hopt.alloc _) ⟨wr.heap.size,0,none⟩ 1 (.int .i64 (nth u pn)) rfl hcn rfl (by omega) (by unfold maxLen;omega) (by simp;omega) ?_;intro a5 c5 w5 hown5 hgr5 hap5)
    obtain ⟨hbU,hownU,hsU⟩:=HN5.out a5 c5 w5 hgr5
    have hna5 : a5 ≠ none->¬ (a1 ≠ none/\ablk a5=ablk a1):=λh0 h1=>by have:=(ba hown5 h0).1;omega
    clear HN5 hgr5 hap5 hcn hbn eu iu ep xr hown hopt hapt
    generalize w5=U at *
    have hbwU:=NX HbW.out hbU
    have xU:=HX.out.af hbU
    have q1:=xU.cell 1 rfl
    have q2:=xU.cell 2 rfl
    have erU:=aB hbwU er
    clear xU
    go_wp2_with fail
    clear q1 q2 erU
    generalize nth u pn=y at *
    generalize dL G.ops u y (ai R k)=S at *
    go_loopw [38] (λiv wx=>∃j : Nat,j<=m/\iv = .int .i64 j/\wx.ownsRow W.heap.size 3 1 (.slice a1 m c1) m ((gj S u j).map (Value.int .i64))/\dg a1 U wx) (λiv _=>m - (intOf iv).toNat)
    case atStart=>exact ⟨0,JU _,rfl,by rw [fQ];exact hownU,Oi _ _⟩
    case round =>
     clear hownU
     obtain ⟨j,hj,rfl,hown2,honly2⟩:=hrel
     have hbx0 : Below W.heap.size U wr:=honly2.below ha1W hbU.size
     have hbx:=KE hbU hbx0
     have hbwx:=NX HbW.out hbx
     by_cases hjn : j<m
     ·have cj:=(ir.af hbwx).cell j hjn
      have f0:=(HX.out.af hbx).cell 0 rfl
      obtain ⟨im,mm⟩:=NZ hown2
      have cm:=im.cell j hjn
      have fm:=(mm (by omega)).2 j hjn
      have hju : j<u.length:=by rw [Hrd.out.1];exact hjn
      have hmix:=eQ S u j j HSl.out (by omega)
      rw [JR (by omega)] at hmix
      rw [hmix] at cm
      have hset:=fA S u j HSl.out hju
      rw [HSn.out j hju] at hset
      have Hset:=Z5 hset
      have ely : G.El (nth (ai R k) j):=Hrow.out.2 _ (aI (by rw [Hrow.out.1];exact hjn))
      have elv : G.El (nth u j):=Hrd.out.2 _ (aI hju)
      have hGr : ee wr b G:=h.af hbwx
      have elm : ∀x y,G.El (G.mul x y):=λx y=>OB h x y
      have HG : Hid (ee wr.drew b G/\∀n,ee (wr.drewN n) b G):=⟨hGr.af (JP _ _).drew,λn=>hGr.drewN n⟩
      clear hset hmix
      go_wp2_with fail
      go_region_law ((first
       | (go_simp;go_at_call 57;((with_reducible refine (pL y (nth (ai R k) j) HG.out.1 hxe2 ely).mono ?_);rintro e w4 ⟨m4,rfl,rfl⟩))
       | (go_simp;go_at_call 57;((with_reducible refine (pL y (nth (ai R k) j) (HG.out.2 _) hxe2 ely).mono ?_);rintro e w4 ⟨m4,rfl,rfl⟩))
       | (go_simp;go_at_call 199;((with_reducible refine (Je (nth u j) (G.mul y (nth (ai R k) j)) (HG.out.2 _) elv (elm _ _)).mono ?_);rintro e w4 ⟨m5,rfl,rfl⟩))))
      all_goals (
       go_wp2_with fail
       go_roundw
       case rel =>
        have hdr : bm wr (wr.drewN (1+m4+m5)):=⟨_,rfl⟩
        refine ⟨j+1,by omega,by go_num,?_,honly2.trans ((Oa hdr).trans (Oc _ j _ hne1))⟩
        have h1:=bC (w:=wr.drewN (1+m4+m5)) hown2 j hjn (.int .i64 (G.sub (nth u j) (G.mul y (nth (ai R k) j))))
        rw [<- Kh,show G.sub (nth u j) (G.mul y (nth (ai R k) j))=G.ops.add (nth u j) (G.ops.neg (G.ops.mul y (nth (ai R k) j))) from rfl,Hset.out] at h1
        exact h1
       case measure=>simp [intOf] <;> omega)
     ·obtain rfl : j=m:=by omega
      rw [gx S u j (by rw [HSl.out,Hrd.out.1]) Hrd.out.1] at hown2
      have hown6:=aD.own honly2 hown5 hna5
      have hsx:=honly2.size
      go_wp2_with fail
      go_roundw
      case rel=>exact ⟨k+1,a5,c5,_,by omega,by go_num,rfl,by rw [Hn.out];exact hown2,hown6,hbx,by omega⟩
      case measure=>simp [intOf] <;> omega
  ·obtain rfl : k=n:=by omega
   have hF:=bd hown HbW.out.size
   have HF:=Z5 hF
   clear hF hown hopt xr
   go_wp2_with fail
   go_ret2
   exact ⟨a1,c1,_,rfl,HF.out,hbwr⟩
theorem yX {w : World} {b : Nat} {G : cX} (m : Nat) (a : OA) (n c : Nat) (R : Ll) (ap : OA) (cp : Nat) (Pv : LI) (ax : OA) (cx : Nat) (x : LI)
  (h : ee w b G) (hi : bu w a n R) (hp : Ints w ap n Pv) (hx : Ints w ax m x) (hOk : BS.Ok G.El m ⟨R,Pv⟩) (hxe : Vc G.El m x) (hn : n<=1000000) (hm : m<=1000000) :
  Calls prog 242 #[.agg #[.pointer (some ⟨b,0,none⟩),.int .i64 m,.slice a n c,.slice ap n cp],.slice ax m cx] w
   λe w'=>∃a1 c1 v2,e = .returned (.tuple #[.slice a1 m c1,v2])/\Ints w' a1 m (redTo G.ops R Pv x n)/\OC w w' :=
 (py m a n c R ap cp Pv ax cx x h hi hp hx hOk hxe hn hm).mono λ_ _ ⟨a1,c1,v2,h1,h2,h3⟩=>⟨a1,c1,v2,h1,(NZ h2).1,h3⟩
section
open Go.RowKit
end
section
open Go.RowKit
end
section
theorem jf (O : aM) (v : LI) (i : Nat) (r : LI) (h : r.length=v.length) : (jS O v i r).length=v.length:=by unfold jS;split <;> simp [h]
theorem xX (O : aM) (v : LI) (i : Nat) (r : LI) (j : Nat) (h : r.length=v.length) (hj : j<v.length) (h0 : nth v i ≠ 0) :
  nth (jS O v i r) j=if nth r j=0 then nth v j else O.add (nth v j) (O.neg (O.mul (nth v i) (nth r j))):=by unfold jS;rw [JR h0,aj (show j<_ by simp [h];omega),aj hj,aj (show j<r.length by omega)];simp
theorem BC {O : aM} {El : Int->Prop} (hO : qa O El) {v r : LI} {i : Nat} (hv : ∀x ∈ v,El x) (hr : ∀x ∈ r,El x) (hl : r.length=v.length) (hi : i<v.length) : ∀x ∈ jS O v i r,El x:=by
 intro x hx;by_cases h0 : nth v i=0
 ·unfold jS at hx;rw [JT h0] at hx;exact hv x hx
 ·obtain ⟨j,hj,rfl⟩:=List.mem_iff_getElem.1 hx;rw [jf O v i r hl] at hj;have h1:=xX O v i r j hl hj h0;rw [aj (show j<(jS O v i r).length by rw [jf O v i r hl];exact hj)] at h1;rw [h1];have e1 : El (nth v j):=hv _ (aI hj);have e2 : El (nth r j):=hr _ (aI (by omega));have e3 : El (nth v i):=hv _ (aI hi);split
  ·exact e1
  ·exact hO.add _ _ e1 (hO.neg _ (hO.mul _ _ e3 e2))
variable {w : World} {b : Nat} {G : cX}
theorem Of (w0 : World) (pb : Nat) (av : OA) (cv n : Nat) (v : LI) (i : Nat) (au : OA) (cu : Nat) (u : LI) (h : ee w0 b G) (hb : OC w0 w)
  (p0 : w0.cell? ⟨pb,0,none⟩=some (.pointer (some ⟨b,0,none⟩)))
  (hv : w.ownsRow w0.heap.size 3 1 (.slice av n cv) n (v.map (Value.int .i64))) (hu : Ints w au n u) (hap : av=none\/au=none\/ablk au ≠ ablk av)
  (hve : ∀x ∈ v,G.El x) (hue : ∀x ∈ u,G.El x) (hin : i<n) :
  Calls prog 270 #[.pointer (some ⟨pb,0,none⟩),.slice av n cv,.int .i64 i,.slice au n cu] w
   λe w'=>e = .returned (.tuple #[])/\w'.ownsRow w0.heap.size 3 1 (.slice av n cv) n ((jS G.ops v i u).map (Value.int .i64))/\dg av w w':=by
 have hul:=hu.len;have hvl : v.length=n:=by simpa using jZ hv
 have hmax:=hu.max;unfold maxLen at hmax;have hpu:=hu.pl;obtain ⟨iv0,mv0⟩:=NZ hv;have hpv:=iv0.pl;have ci:=iv0.cell i hin;have hav : 0<n->av ≠ none:=λhn e=>by have:=hpv hn;rw [e] at this;cases this
 have hxe : G.El (nth v i):=hve _ (aI (by omega));have Hul:=Z5 hul;have Hvl:=Z5 hvl;have Hav:=Z5 hav;have Hve:=Z5 hve;have Hue:=Z5 hue;have HP:=Z5 (λ(V : World) (hV : OC w0 V)=>aB hV p0);clear hav hve hue;by_cases hx : nth v i=0
 ·have Hn : Hid (jS G.ops v i u=v):=by show _=_;rw [jS,JT hx]
  have hx' : (nth v i != 0)=false:=by simpa using hx
  clear hx hul hvl;go_enter func270,ntmps270;go_wp2_with fail;go_end0;exact ⟨rfl,by rw [Hn.out];exact hv,Oi _ _⟩
 have hx' : (nth v i != 0)=true:=by simpa using hx
 have Hnl:=Z5 (jf G.ops v i u (by omega));have Hnth:=Z5 (λj hj=>xX G.ops v i u j (by omega) hj hx);clear hx hul hvl;generalize jS G.ops v i u=N at *;go_enter func270,ntmps270;go_wp2_with fail;generalize nth v i=x at *;go_loopw [19] (λiv wr=>∃k : Nat,k<=n/\iv = .int .i64 k/\wr.ownsRow w0.heap.size 3 1 (.slice av n cv) n ((gj N v k).map (Value.int .i64))/\dg av w wr) (λiv _=>n - (intOf iv).toNat);case atStart=>exact ⟨0,JU _,rfl,by rw [fQ];exact hv,Oi _ _⟩
 case round =>
  obtain ⟨k,hk,rfl,hown,honly⟩:=hrel
  by_cases hlt : k<n
  ·have hiu:=honly.ints hu hap
   have cu1:=hiu.cell k hlt
   have hkN : N.length=v.length:=Hnl.out
   have hkv : k<v.length:=by rw [Hvl.out];exact hlt
   have hval:=Hnth.out k hkv
   have hmix:=eQ N v k k hkN (by omega)
   rw [JR (by omega)] at hmix
   by_cases hz : nth u k=0
   ·rw [JT hz] at hval
    have hsame:=qy N v k hkN hkv hval
    have Hsame:=Z5 hsame
    have hz' : (nth u k != 0)=false:=by simpa using hz
    clear hval hmix hsame hkN hkv hz
    go_wp2_with fail
    go_roundw
    case rel=>exact ⟨k+1,by omega,by go_num,by rw [Hsame.out];exact hown,honly⟩
    case measure=>simp [intOf] <;> omega
   ·rw [JR hz] at hval
    have hset:=fA N v k hkN hkv
    obtain ⟨hiv,hmv⟩:=NZ hown
    have cv1:=hiv.cell k hlt
    have fv1:=(hmv (by omega)).2 k hlt
    rw [hmix] at cv1
    have elv : G.El (nth v k):=Hve.out _ (aI hkv)
    have elu : G.El (nth u k):=Hue.out _ (aI (by rw [Hul.out];exact hlt))
    have hbr : OC w0 wr:=KE hb (honly.below (λha=>(ba hv ha).1) hb.size)
    have p0r:=HP.out wr hbr
    have hGr : ee wr b G:=h.af hbr
    have elm : ∀x y,G.El (G.mul x y):=λx y=>OB h x y
    have HG : Hid (ee wr.drew b G/\∀n,ee (wr.drewN n) b G):=⟨hGr.af (JP _ _).drew,λn=>hGr.drewN n⟩
    rw [hval] at hset
    have Hset:=Z5 hset
    have hz' : (nth u k != 0)=true:=by simpa using hz
    clear hval hmix hset hkN hkv hz
    go_wp2_with fail
    go_region_law ((first
     | (go_simp;go_at_call 57;((with_reducible refine (pL x (nth u k) HG.out.1 hxe elu).mono ?_);rintro e w4 ⟨m4,rfl,rfl⟩))
     | (go_simp;go_at_call 57;((with_reducible refine (pL x (nth u k) (HG.out.2 _) hxe elu).mono ?_);rintro e w4 ⟨m4,rfl,rfl⟩))
     | (go_simp;go_at_call 199;((with_reducible refine (Je (nth v k) (G.mul x (nth u k)) (HG.out.2 _) elv (elm _ _)).mono ?_);rintro e w4 ⟨m5,rfl,rfl⟩))))
    all_goals (
     go_wp2_with fail
     go_roundw
     case rel =>
      have hdr : bm wr (wr.drewN (1+m4+m5)):=⟨_,rfl⟩
      refine ⟨k+1,by omega,by go_num,?_,honly.trans ((Oa hdr).trans (Oc _ k _ (Hav.out (by omega))))⟩
      have h1:=bC (w:=wr.drewN (1+m4+m5)) hown k hlt (.int .i64 (G.sub (nth v k) (G.mul x (nth u k))))
      rw [<- Kh,show G.sub (nth v k) (G.mul x (nth u k))=G.ops.add (nth v k) (G.ops.neg (G.ops.mul x (nth u k))) from rfl,Hset.out] at h1
      exact h1
     case measure=>simp [intOf] <;> omega)
  ·obtain rfl : k=n:=by omega
   rw [gx N v k (by rw [Hnl.out,Hvl.out]) Hvl.out] at hown
   go_wp2_with fail
   go_end0
   exact ⟨rfl,hown,honly⟩
end
theorem lu (b : Bool) (U : LI) : ∀k,(frTo b U k).Pairwise (λx y=>x<y)
 | 0=>List.Pairwise.nil
 | k+1=>by
  have ih:=lu b U k;rw [frTo];split
  ·rw [Mp];refine ⟨ih,by simp,λx hx y hy=>?_⟩;rw [Kx] at hy;obtain ⟨j,hj,rfl,_⟩:=(eo k).1 hx;omega
  ·exact ih
theorem CR {m : Nat} {U : LI} (hn : U.Nodup) (hU : ∀x ∈ U,0<=x/\x<(m : Int)) : dn U=frTo true U m:=by
 have h:=lu true U m;refine (mA (h.imp λh=>by omega) ((Mz (h.imp λh=>by omega) hn).2 λx=>?_)).symm;rw [eo];constructor
 ·rintro ⟨j,_,rfl,h1⟩;simpa using h1
 ·intro hx;have h1:=hU x hx;exact ⟨x.toNat,by omega,by omega,by rw [show ((x.toNat : Nat) : Int)=x by omega];simpa using hx⟩
theorem mJ {m : Nat} {U : LI} (hn : U.Nodup) (hU : ∀x ∈ U,0<=x/\x<(m : Int)) : U.length<=m:=by rw [<- fy,CR hn hU];exact jA _ _ _
theorem pE {N : Int} {A : LI} (h : fF N A=true) : A.Nodup:=by
 refine sd λi j hij hj=>?_;have key : ∀d i,i+d<A.length->0<d->nth A i<nth A (i+d):=λd=>by
  induction d with
  | zero=>intro i _ h0;omega
  | succ d ih =>
   intro i hi _
   have h1:=(gQ h hi).2.2 (by omega)
   rw [show i+(d+1) - 1=i+d by omega] at h1
   by_cases h0 : d=0
   ·subst h0;exact h1
   ·have:=ih i (by omega) (by omega);omega
 have:=key (j - i) i (by omega) (by omega);rw [show i+(j - i)=j by omega] at this;omega
section
variable {O : aM} {El : Int->Prop} {m : Nat} {L : Ll}
end
section
theorem jm : ∀ {s T : LI},s.Nodup->(∀x ∈ s,x ∈ T)->s.length<=T.length
 | [],_,_,_=>JU _
 | x :: s,T,hn,h=>by have hx : x ∈ T:=h x (by simp);have hn':=List.nodup_cons.1 hn;have h1 : ∀y ∈ s,y ∈ T.erase x:=λy hy=>(List.mem_erase_of_ne (λ(e : y=x)=>hn'.1 (by rw [<- e];exact hy))).2 (h y (by simp [hy]));have h2:=jm hn'.2 h1;rw [List.length_erase_of_mem hx] at h2;have : 0<T.length:=List.length_pos_of_mem hx;simp only [Kr];omega
variable {O : aM} {L : Ll} {m : Nat} {C : iz}
end
theorem aD.mS {w V V' : World} {I I' : Nat->Prop} (h : aD w V I I') (g : Below w.heap.size V V') : aD w V' I I' :=
 ⟨g.os.trans h.os,g.tape.trans h.tape,g.output.trans h.output,J4 h.size g.size,λb hb hi=>(g.block b hb).trans (h.block b hb hi),h.grow⟩
theorem aD.grown {w w' : World} {K : Nat->Prop} {a : OA} {n c : Nat} (hg : w.grownBy w' (Value.slice a n c).ownBlock) (hK : a ≠ none->K (ablk a)) : aD w w' K K :=
 ⟨hg.os,hg.tape,hg.output,hg.size,λb hb hi=>hg.block b hb λe=>by
  cases a with
  | none=>cases e
  | some ad =>
   have h1 : b=ad.block:=by simpa [Value.ownBlock] using e
   exact hi (h1 ▸ hK (by simp)),λb hb=>.inl hb⟩
theorem Ints.dQ {w w' : World} {I I' : Nat->Prop} {a : OA} {n : Nat} {l : LI} (h : Ints w a n l) (hM : aD w w' I I') (hI : 0<n->¬ I (ablk a)) : Ints w' a n l :=
 h.of_block λhn=>hM.block _ (h.lt hn) (hI hn)
theorem aO.dQ {w w' : World} {I I' : Nat->Prop} {b : Nat} {cs : List Value} (h : aO w b cs) (hM : aD w w' I I') (hI : ¬ I b) : aO w' b cs:=by have hb:=hM.block b h.1 hI;refine ⟨Kl h.1 hM.size,λi v hv=>(Kj (w:=w) (a:=⟨b,i,none⟩) hb).trans (h.2.1 i v hv),λi=>?_⟩;rw [<- h.2.2 i];unfold World.frozen?;simp only [hb]
theorem aD.put (w : World) (b i : Nat) (v : Value) : aD w (w.setCell ⟨b,i,none⟩ v) (λx=>x=b) (λx=>x=b):=by have hb0 : Below 0 w (w.setCell ⟨b,i,none⟩ v):=(JP 0 w).setCell (JU _) v;exact ⟨hb0.os,hb0.tape,hb0.output,hb0.size,λx hx hI=>J6 _ _ _ _ λe=>hI e,λx hx=>.inl hx⟩
def kO (O : aM) (u : LI) (a : Int) (r : LI) : LI:=if a=0 then u else List.zipWith (λy x=>if x=0 then y else O.add y (O.mul a x)) u r
def wlkS (O : aM) (q : Nat) : Ll->LI->Ll
 | [],u=>[u]
 | r :: L,u=>(List.range q).flatMap λ(a : Nat)=>wlkS O q L (kO O u a r)
def nH (O : aM) (q : Nat) (r : LI) (L : Ll) (u : LI) (a : Nat) : Ll:=(List.range a).flatMap λ(i : Nat)=>wlkS O q L (kO O u i r)
theorem zQ (O : aM) (q : Nat) (r : LI) (L : Ll) (u : LI) (a : Nat) : nH O q r L u (a+1)=nH O q r L u a ++ wlkS O q L (kO O u a r):=by unfold nH;rw [K5,List.flatMap_append,List.flatMap_singleton]
theorem kC (O : aM) (q : Nat) : ∀(L : Ll) (u : LI),(wlkS O q L u).length=q ^ L.length
 | [],u=>by simp [wlkS]
 | r :: L,u=>by rw [wlkS,No];have h : (List.range q).map (λ(a : Nat)=>(wlkS O q L (kO O u a r)).length)=(List.range q).map λ_=>q ^ L.length:=Lh λa _=>kC O q L _;rw [h,NQ,MV,KU,Kr,Mw,Lj]
theorem uH (O : aM) (q : Nat) (r : LI) (L : Ll) (u : LI) (a : Nat) : (nH O q r L u a).length=a * q ^ L.length:=by unfold nH;rw [No];have h : (List.range a).map (λ(i : Nat)=>(wlkS O q L (kO O u i r)).length)=(List.range a).map λ_=>q ^ L.length:=Lh λi _=>kC O q L _;rw [h,NQ,MV,KU]
theorem kG (O : aM) (u : LI) (a : Int) (r : LI) (h : r.length=u.length) : (kO O u a r).length=u.length:=by unfold kO;split <;> simp [h]
theorem xj (O : aM) (u : LI) (a : Int) (r : LI) (j : Nat) (h : r.length=u.length) (hj : j<u.length) (h0 : a ≠ 0) :
  nth (kO O u a r) j=if nth r j=0 then nth u j else O.add (nth u j) (O.mul a (nth r j)):=by unfold kO;rw [JR h0,aj (show j<_ by simp [h];omega),aj hj,aj (show j<r.length by omega)];simp
theorem Gk {O : aM} {El : Int->Prop} (hO : qa O El) {u r : LI} {a : Int} (hu : ∀x ∈ u,El x) (hr : ∀x ∈ r,El x) (ha : El a) (hl : r.length=u.length) : ∀x ∈ kO O u a r,El x:=by
 intro x hx;by_cases h0 : a=0
 ·unfold kO at hx;rw [JT h0] at hx;exact hu x hx
 ·obtain ⟨j,hj,rfl⟩:=List.mem_iff_getElem.1 hx;rw [kG O u a r hl] at hj;have h1:=xj O u a r j hl hj h0;rw [aj (show j<(kO O u a r).length by rw [kG O u a r hl];exact hj)] at h1;rw [h1];split
  ·exact hu _ (aI hj)
  ·exact hO.add _ _ (hu _ (aI hj)) (hO.mul _ _ ha (hr _ (aI (by omega))))
section
variable {O : aM} {El : Int->Prop} {m : Nat} {L : Ll}
theorem yA (F : bI O El) (hL : bs El m L) (Q : LI) (x : Int) : mh O L (Q ++ [x])<=mh O L Q+1:=by
 have h1:=ke F hL (Q ++ [x]);rw [vA] at h1;have h2:=ke F hL Q;generalize mh O L (Q ++ [x])=n at *;cases h1 with
 | dep _ _ h=>rw [h2.uniq h];omega
 | ind _ _ h=>rw [h2.uniq h];omega
theorem qz (F : bI O El) (hL : bs El m L) (Q : LI) : ∀(n : Nat) (A : LI),A.length=n->mh O L (Q ++ A)<=mh O L Q+n
 | 0,A,h=>by rw [Kd h,K7];omega
 | n+1,A,h=>by
  have hA : A ≠ []:=λe=>by rw [e] at h;simp at h
  obtain ⟨A',x,rfl⟩ : ∃A' x,A=A' ++ [x]:=⟨A.dropLast,A.getLast hA,(List.dropLast_concat_getLast hA).symm⟩
  have ih:=qz F hL Q n A' (by simpa using h);have h1:=yA F hL (Q ++ A') x;rw [KI] at h1;omega
theorem Eh (O : aM) (L : Ll) (Q : LI) : mh O L Q<=Q.length:=Ae O L Q
theorem D3 (F : bI O El) (hL : bs El m L) {Q A : LI} (h : mh O L (Q ++ A)=(Q ++ A).length) : mh O L Q=Q.length:=by have h1:=qz F hL Q _ A rfl;have h2:=Eh O L Q;rw [J0] at h;omega
theorem DF (F : bI O El) (hL : bs El m L) {Q Q' : LI} (h : ∀x ∈ Q,x ∈ Q') : mh O L Q<=mh O L Q' :=
 Fu F hL λx hx=>by obtain ⟨y,hy,e⟩:=n8.1 hx;exact (gE F hL).mem _ _ (n8.2 ⟨y,h y hy,e⟩)
variable {C : iz}
structure JF (O : aM) (L : Ll) (m : Nat) (C : iz) (s z : LI) : Prop where
 sn : s.Nodup
 sb : ∀x ∈ s,0<=x/\x<(m : Int)
 zn : z.Nodup
 zb : ∀x ∈ z,0<=x/\x<(m : Int)
 sz : ∀x ∈ z,¬ x ∈ s
 zi : mh O L z=z.length
 zk : ¬ C.cos=true->z.length<=C.M
theorem CZ {s z : LI} (hz : z.Nodup) : (i5 m s z).Nodup:=by
 unfold i5;rw [K2];refine ⟨(dw z).nodup_iff.2 hz,(lu false (s ++ z) m).imp λh=>by omega,λa ha b hb e=>?_⟩;obtain ⟨j,hj,rfl,hd⟩:=(eo m).1 hb;have hn : ¬ (j : Int) ∈ s ++ z:=by simpa using hd
 exact hn (List.mem_append.2 (.inr ((dw z).mem_iff.1 (e ▸ ha))))
theorem DH {s z : LI} {x : Int} : x ∈ eJ O L m C s z ↔ x ∈ xl O L (i5 m s z) (if C.cos=true then m else C.M):=(dw _).mem_iff
theorem zJ {s z : LI} (hz : z.Nodup) : (eJ O L m C s z).Nodup:=by unfold eJ;refine (dw _).nodup_iff.2 ?_;unfold xl;refine LP (Me _ _) ?_;exact gr_nodup (CZ hz)
where gr_nodup {Q : LI} (hQ : Q.Nodup) : (lT O L Q).Nodup := LP (gr_sub Q Q.length (JO _)) (by rw [MO]; exact hQ)
      gr_sub (Q : LI) : ∀k,k<=Q.length->((grTo O L Q k).2).Sublist (Q.take k)
 | 0,_=>by simp [grTo]
 | k+1,h=>by
  have ih:=gr_sub Q k (by omega);rw [grTo,JW (by omega)];split
  ·rw [aj (show k<Q.length by omega)];exact ih.append (List.Sublist.refl _)
  ·exact ih.trans (List.sublist_append_left _ _)
end
theorem pH {σ : Type} (I : World->σ->Prop) (J : σ->Nat->Prop) (val : σ->Ll) (F : LI->LI->Ll->Int × Ll) (pb W : Nat)
  (sa : OA) (ns cs : Nat) (s : LI) (az : OA) (nz cz : Nat) (z : LI) (at' : OA) (nt ct : Nat) (t : LI) (w : World) (σ0 : σ)
  (hI0 : I w σ0) (hIb : ∀V V' σ,I V σ->aD V V' (λb=>w.heap.size<=b/\¬ J σ b) (λb=>w.heap.size<=b/\¬ J σ b)->I V' σ) (hp : w.cell? ⟨pb,9,none⟩=some (.int .i64 W)) (hS : ∀V σ,I V σ->Ints V sa ns s/\Ints V at' nt t)
  (hJ : ∀V σ x,I V σ->J σ x->x<V.heap.size) (hz : Ints w az nz z) (htn : t.Nodup) (hns : ns<=1000) (hnz : nz<=1000) (hnt : nt<=1000) (hWs : ns<=W)
  (hF : ns<W->∀(V : World) (σ : σ) (a1 : OA) (c1 : Nat) (a2 : OA) (c2 k : Nat) (zc : LI),k<nt->zc=z ++ (t.take k).filter (λx=>decide (¬ x ∈ z))->¬ nth t k ∈ z->I V σ->aD w V (J σ0) (J σ) ->
   Ints V a1 (ns+1) (s ++ [nth t k])->Ints V a2 zc.length zc->¬ J σ (ablk a1)->(a2 ≠ none->¬ J σ (ablk a2)) ->
   Calls prog 184 #[.pointer (some ⟨pb,0,none⟩),.slice a1 (ns+1) c1,.slice a2 zc.length c2] V
    λe V'=>∃σ',I V' σ'/\aD V V' (J σ) (J σ')/\e = .returned (.int .i64 (F (s ++ [nth t k]) zc (val σ)).1)/\((F (s ++ [nth t k]) zc (val σ)).1=0->val σ'=(F (s ++ [nth t k]) zc (val σ)).2)) :
  Calls prog 234 #[.pointer (some ⟨pb,0,none⟩),.slice sa ns cs,.slice az nz cz,.slice at' nt ct,.func (.func 184) #[.pointer (some ⟨pb,0,none⟩)] #[]] w
   λe w'=>∃σ',I w' σ'/\aD w w' (J σ0) (J σ')/\e = .returned (.int .i64 (gr F s z (if ns<W then t.filter (λx=>decide (¬ x ∈ z)) else []) (val σ0)).1) /\
    ((gr F s z (if ns<W then t.filter (λx=>decide (¬ x ∈ z)) else []) (val σ0)).1=0->val σ'=(gr F s z (if ns<W then t.filter (λx=>decide (¬ x ∈ z)) else []) (val σ0)).2):=by
 obtain ⟨KB,hKB⟩ : ∃KB,gr F s z (if ns<W then t.filter (λx=>decide (¬ x ∈ z)) else []) (val σ0)=KB:=⟨_,rfl⟩
 rw [hKB];have HKB:=Z5 hKB;clear hKB;have Hzl:=Z5 hz.len;have Htl:=Z5 (hS w σ0 hI0).2.len;have Hsl:=Z5 (hS w σ0 hI0).1.len;have hplt:=(hS w σ0 hI0).2.pl;have HS:=Z5 hS;have HI0:=Z5 hI0;have HIb:=Z5 hIb;have HJ:=Z5 hJ;have Htn:=Z5 htn;have HF:=Z5 hF;clear hS hI0 hIb hJ htn hF;by_cases hW : ns=W
 ·have hd : ((ns : Int) == (W : Int))=true:=by simp;omega
  have Hk : Hid (KB=(0,val σ0)):=by show _=_;rw [<- HKB.out,JR (by omega)];rfl
  go_enter func234,ntmps234;clear hW;go_wp2_with fail;go_ret;exact ⟨σ0,HI0.out,N9 _ _,by rw [Hk.out];rfl,λ_=>by rw [Hk.out]⟩
 have hd : ((ns : Int) == (W : Int))=false:=by simp;omega
 have hlW : ns<W:=by omega
 have HKB : Hid (KB=gr F s z (t.filter (λx=>decide (¬ x ∈ z))) (val σ0)):=by show _=_;rw [<- HKB.out,JT hlW]
 have HF:=Z5 (HF.out hlW);clear hlW hW;go_enter func234,ntmps234;go_wp2_with fail;refine (dx az nz cz z hz (by omega)).mono ?_;rintro e w1 ⟨a0,c0,rfl,hown0,hb1⟩;have hI1:=HIb.out w w1 σ0 HI0.out (N3 hb1 _);go_wp2_with fail;go_loopw [2,25] (λzv iv wr=>∃(k : Nat) (aq : OA) (cq : Nat) (zc : LI) (σ : σ),k<=nt/\iv = .int .i64 k/\zv = .slice aq zc.length cq/\Hid (zc=z ++ (t.take k).filter (λx=>decide (¬ x ∈ z))) /\
   wr.ownsRow w.heap.size 3 1 (.slice aq zc.length cq) zc.length (zc.map (Value.int .i64))/\Hid (I wr σ)/\Hid (aD w wr (J σ0) (J σ))/\Hid (aq ≠ none->¬ J σ (ablk aq)) /\
   Hid (KB=gr F s zc ((t.drop k).filter (λx=>decide (¬ x ∈ z))) (val σ))/\zc.length<=nz+k)
  (λ_ iv _=>nt - (intOf iv).toNat)
 case atStart =>
  refine ⟨0,a0,c0,z,σ0,JU _,rfl,rfl,?_,hown0,hI1,N3 hb1 _,?_,?_,by rw [Hzl.out];omega⟩
  ·show _=_;simp
  ·show a0 ≠ none->_
   intro ha hj
   have h1:=HJ.out w σ0 _ HI0.out hj
   have h2:=(ba hown0 ha).1
   omega
  ·show _=_;rw [Ls];exact HKB.out
 case round =>
  obtain ⟨k,aq,cq,zc,σ,hk,rfl,rfl,hzc,hop,hI,hM,hap,hkb,hzn⟩:=hrel
  generalize wr=U at *
  by_cases hlt : k<nt
  ·have htU:=(HS.out U σ hI.out).2
   have hsU:=(HS.out U σ hI.out).1
   have ck:=htU.cell k hlt
   obtain ⟨hzi,_⟩:=NZ hop
   have hktl : k<t.length:=by rw [Htl.out];exact hlt
   have Htk:=Z5 (show t.take (k+1)=t.take k ++ [nth t k] from mI t hktl)
   have Hdk:=Z5 (show t.drop k=nth t k :: t.drop (k+1) by rw [aj hktl];exact KA hktl)
   have Hzm : Hid (nth t k ∈ zc ↔ nth t k ∈ z):=by
    show _ ↔ _;rw [hzc.out,KN,Lx];constructor
    ·rintro (h | h)
     ·exact h
     ·exfalso;have hn : (t.take k ++ t.drop k).Nodup:=by rw [Mi];exact Htn.out
      rw [K2] at hn;exact hn.2.2 _ h.1 (nth t k) (by rw [Hdk.out];simp) rfl
    ·exact .inl
   by_cases hmz : nth t k ∈ z
   ·have hmd : decide (nth t k ∈ zc)=true:=by simpa using Hzm.out.2 hmz
    have HcA:=Z5 (dp aq zc.length cq zc (nth t k) U hzi)
    rw [hmd] at HcA
    have Hzc2 : Hid (zc=z ++ (t.take (k+1)).filter (λx=>decide (¬ x ∈ z))):=by show _=_;rw [Htk.out,LQ,Lc (by simpa using hmz),LW,K7];exact hzc.out
    have Hkb2 : Hid (KB=gr F s zc ((t.drop (k+1)).filter (λx=>decide (¬ x ∈ z))) (val σ)):=by show _=_;rw [hkb.out,Hdk.out,Lc (by simpa using hmz)]
    clear hmz hmd
    go_wp2_with fail
    refine HcA.out.mono ?_
    rintro e w6 ⟨rfl,rfl⟩
    go_wp2_with fail
    go_roundw
    case rel=>exact ⟨k+1,aq,cq,zc,σ,by omega,by go_num,rfl,Hzc2.out,hop,hI.out,hM.out,hap.out,Hkb2.out,by omega⟩
    case measure=>simp [intOf] <;> omega
   ·have hmd : decide (nth t k ∈ zc)=false:=by simpa using λh=>hmz (Hzm.out.1 h)
    have HcA:=Z5 (dp aq zc.length cq zc (nth t k) U hzi)
    rw [hmd] at HcA
    have Hzc2 : Hid (zc ++ [nth t k]=z ++ (t.take (k+1)).filter (λx=>decide (¬ x ∈ z))):=by show _=_;rw [Htk.out,LQ,Ld (by simpa using hmz),LW,<- KI,<- hzc.out]
    have Hkb2 : Hid (KB=if (F (s ++ [nth t k]) zc (val σ)).1=0 then gr F s (zc ++ [nth t k]) ((t.drop (k+1)).filter (λx=>decide (¬ x ∈ z))) (F (s ++ [nth t k]) zc (val σ)).2 else ((F (s ++ [nth t k]) zc (val σ)).1,[])):=by show _=_;rw [hkb.out,Hdk.out,Ld (by simpa using hmz),gr]
    have HFk:=Z5 (λV σ a1 c1 a2 c2=>HF.out V σ a1 c1 a2 c2 k zc hlt hzc.out hmz)
    have hszU:=hM.out.size
    clear hmz hmd
    go_wp2_with fail
    refine HcA.out.mono ?_
    rintro e w6 ⟨rfl,rfl⟩
    go_wp2_with fail
    refine (dx sa ns cs s hsU (by omega)).mono ?_
    rintro e w7 ⟨a7,c7,rfl,hown7,hb7⟩
    rw [Hsl.out] at hown7
    rw [Hsl.out]
    obtain ⟨x,hx⟩ : ∃x,nth t k=x:=⟨_,rfl⟩
    rw [hx] at ck Hzc2 Hkb2 HFk Htk Hdk Hzm HcA ⊢
    have hcn:=bf w7 (.int .i64 x) 3
    have hbn:=an w7 (.cells #[.int .i64 x] 3)
    go_wp2_with (at_builtin;refine aS rfl _ _ 22 3 rfl (.int .i64 0) 8 underlying22 aV rfl w6.heap.size a7 ns c7 _ rfl (hown7.alloc _) ⟨w7.heap.size,0,none⟩ 1 (.int .i64 x) rfl hcn rfl (by omega) (by unfold maxLen;omega) (J4 hb7.size hbn.size) ?_;intro a8 c8 w8 hown8 hgr8 hap8)
    have hb68 : OC w6 w8:=N0 (NX hb7 hbn) (hown7.alloc _) hgr8 (JO _) (J4 hb7.size hbn.size)
    have own8 : w8.ownsRow w6.heap.size 3 1 (.slice a8 (ns+1) c8) (ns+1) ((s ++ [x]).map (Value.int .i64)):=by simpa using hown8
    have hz8:=hzi.af hb68
    clear hown7 hown8 hgr8 hap8 hcn hbn
    go_wp2_with fail
    refine (dx aq zc.length cq zc hz8 (by omega)).mono ?_
    rintro e w9 ⟨a9,c9,rfl,hown9,hb9⟩
    have hb69:=NX hb68 hb9
    have hI9:=HIb.out w6 w9 σ hI.out (N3 hb69 _)
    have hM9 : aD w w9 (J σ0) (J σ):=hM.out.mS (hb69.mono hszU)
    have hs9:=(NZ own8).1.af hb9
    have hz9:=(NZ hown9).1
    have hn8 : ¬ J σ (ablk a8):=λhj=>by have h1:=HJ.out w6 σ _ hI.out hj;have h2:=(dT own8 (by omega)).1;omega
    have hn9 : a9 ≠ none->¬ J σ (ablk a9):=λha hj=>by have h1:=HJ.out w6 σ _ hI.out hj;have h2:=(ba hown9 ha).1;have h3:=hb68.size;omega
    have hopz:=bp hop hb69
    have HCall:=Z5 (HFk.out w9 σ a8 c8 a9 c9 hI9 hM9 hs9 hz9 hn8 hn9)
    clear HFk hI9 hs9 hz9 hn8 hn9 hz8 own8 hown9
    generalize F (s ++ [x]) zc (val σ)=FR at *
    obtain ⟨fe,fv⟩:=FR
    dsimp only at HCall Hkb2
    go_wp2_with fail
    refine HCall.out.mono ?_
    rintro e w10 ⟨σ',hI',hM',rfl,hval⟩
    have hM10:=Z5 (hM9.trans hM')
    have hapz : aq ≠ none->¬ J σ' (ablk aq):=λha=>hM'.not (ba hopz ha).2 (hap.out ha)
    have hopq:=hM'.own hopz hap.out
    have Hapz:=Z5 hapz
    have HI':=Z5 hI'
    clear HCall hM9 hM' hapz hI' hopz
    by_cases hfe : fe=0
    ·have Hval : Hid (val σ'=fv):=hval hfe
     subst hfe
     rw [JT rfl] at Hkb2
     have hcn:=bf w10 (.int .i64 x) 3
     have hbn:=an w10 (.cells #[.int .i64 x] 3)
     have hsz10:=hM10.out.size
     clear hval
     go_wp2_with (at_builtin;refine aS rfl _ _ 22 3 rfl (.int .i64 0) 8 underlying22 aV rfl w.heap.size aq zc.length cq _ rfl (hopq.alloc _) ⟨w10.heap.size,0,none⟩ 1 (.int .i64 x) rfl hcn rfl (by omega) (by unfold maxLen;omega) (J4 hsz10 hbn.size) ?_;intro a11 c11 w11 hown11 hgr11 hap11)
     go_roundw
     case rel =>
      have hb11 : Below w.heap.size w10 w11:=N0 (hbn.mono hsz10) (hopq.alloc _) hgr11 (JO _) (J4 hsz10 hbn.size)
      have hK : aD w10 w11 (λb=>w.heap.size<=b/\¬ J σ' b) (λb=>w.heap.size<=b/\¬ J σ' b):=(N3 hbn _).trans (aD.grown hgr11 λha=>⟨(ba hopq ha).1,Hapz.out ha⟩)
      refine ⟨k+1,a11,c11,zc ++ [x],σ',by omega,by go_num,by simp,Hzc2.out,by simpa using hown11,HIb.out w10 w11 σ' HI'.out hK,hM10.out.mS hb11,?_,?_,by simp;omega⟩
      ·show a11 ≠ none->_
       intro ha hj
       have h1:=HJ.out w10 σ' _ HI'.out hj
       have h2 : eX aq (ablk a11):=by
        by_cases h0 : aq=none
        ·exact .inl h0
        ·exact .inr λe=>Hapz.out h0 (by rw [e];exact hj)
       rcases hap11 _ (Kl h1 hbn.size) h2 with h3 | h3
       ·exact ha h3
       ·exact h3 rfl
      ·show _=_
       rw [Hkb2.out,Hval.out]
     case measure=>simp [intOf] <;> omega
    ·have hfe' : (fe != 0)=true:=by simpa using hfe
     have Hk2 : Hid (KB=(fe,[])):=by show _=_;rw [Hkb2.out,JR hfe]
     have Hfe:=Z5 hfe
     clear hfe hval
     go_wp2_with fail
     go_ret
     exact ⟨σ',HI'.out,hM10.out,by rw [Hk2.out];rfl,λh0=>absurd (by rw [Hk2.out] at h0;exact h0) Hfe.out⟩
  ·obtain rfl : k=nt:=by omega
   have Hf : Hid (KB=(0,val σ)):=by show _=_;rw [hkb.out,KD (by rw [Htl.out];exact JO _),LW,gr]
   go_wp2_with fail
   go_ret
   exact ⟨σ,hI.out,hM.out,by rw [Hf.out];rfl,λ_=>by rw [Hf.out]⟩
section
theorem fq (O : aM) (t i : Nat) (L : Ll) : ∀l,(ko O t i L l).length=L.length
 | 0=>rfl
 | l+1=>by
  rw [ko];split
  ·rw [KG];exact fq O t i L l
  ·exact fq O t i L l
theorem sk (O : aM) (L : Ll) (t k i : Nat) : (iS O L t k i).length=L.length:=by unfold iS;rw [fq,KG,bG]
theorem bs.JG {O : aM} {El : Int->Prop} {m : Nat} (hO : qa O El) {L : Ll} {t i : Nat} (hL : bs El m L) (ht : t<L.length) (hi : i<m) : ∀l,l<=L.length->bs El m (ko O t i L l)
 | 0,_=>hL
 | l+1,hl=>by
  have ih:=bs.JG hO hL ht hi l (by omega);rw [ko];split
  ·have h1:=ih.row (i:=l) (by rw [fq];omega);have h2:=ih.row (i:=t) (by rw [fq];omega);exact ih.set l ⟨by rw [jf _ _ _ _ (by rw [h1.1,h2.1])];exact h1.1,BC hO h1.2 h2.2 (by rw [h1.1,h2.1]) (by rw [h1.1];exact hi)⟩
  ·exact ih
theorem OD (s v : LI) : ∀k,kZ s v k<=k
 | 0=>JO _
 | k+1=>by have:=OD s v k;rw [kZ];split <;> omega
variable {w : World} {b : Nat} {G : cX}
theorem OG (w0 : World) (pb : Nat) (a : OA) (n c : Nat) (R : LA) (L : Ll) (m i l t : Nat) (hO : aT w w0.heap.size a n c R L)
  (h : ee w0 b G) (hb : OC w0 w) (p0 : w0.cell? ⟨pb,0,none⟩=some (.pointer (some ⟨b,0,none⟩))) (hl : l<n) (ht : t<n) (hlt : l ≠ t) (hi : i<m) (hR : bs G.El m L) (V : World) (hd : bm w V) :
  Calls prog 270 #[.pointer (some ⟨pb,0,none⟩),.slice (aR R l).1 m (aR R l).2,.int .i64 i,.slice (aR R t).1 m (aR R t).2] V
   λe w'=>e = .returned (.tuple #[])/\(w'.cell? ⟨ablk a,aL a+l,none⟩=some (.slice (aR R l).1 m (aR R l).2)/\w'.cell? ⟨ablk a,aL a+t,none⟩=some (.slice (aR R t).1 m (aR R t).2)) /\
    aT w' w0.heap.size a n c R (L.set l (jS G.ops (ai L l) i (ai L t)))/\aD w w' (bX a R) (bX a R):=by
 have rl:=hR.row (i:=l) (by rw [hO.ll];exact hl);have rt:=hR.row (i:=t) (by rw [hO.ll];exact ht);have cl:=hO.cell hl;have ct:=hO.cell ht;have ol:=hO.row l hl;have it:=hO.ints ht;rw [rl.1] at cl ol;rw [rt.1] at ct it;have hap : (aR R l).1=none\/(aR R t).1=none\/ablk (aR R t).1 ≠ ablk (aR R l).1:=hO.sep l t hl ht hlt;refine (Of w0 pb _ _ m (ai L l) i _ _ (ai L t) h (hd.Ff hb) p0 (bp ol hd.below) (it.af hd.below) hap rl.2 rt.2 hi).mono ?_;rintro e w' ⟨rfl,hown,honly⟩;have hmv : aD w w' (bX a R) (bX a R):=(N3 hd.below _).trans (honly.dQ (λhn=>aT.nh (by rw [hO.rl];exact hl) hn));have hne2 : ¬ ((aR R l).1 ≠ none/\ablk a=ablk (aR R l).1):=by
  rintro ⟨h1,h2⟩;rcases hO.sP l hl with h3 | h3
  ·exact h1 h3
  ·exact h3 h2.symm
 refine ⟨rfl,⟨aD.cell (On (N3 hd.below _) honly) cl hne2,aD.cell (On (N3 hd.below _) honly) ct hne2⟩,?_,hmv⟩;have hOr:=hO.af hd.below;have hll : (jS G.ops (ai L l) i (ai L t)).length=(ai L l).length:=jf _ _ _ _ (by rw [rl.1,rt.1]);refine hOr.Jk hl hll (by rw [rl.1];exact hown) λb hb hne=>honly.block b hb λ⟨h1,h2⟩=>?_;rcases hne with h3 | h3
 ·exact h1 h3
 ·exact h3 h2
theorem OF (w0 V : World) (a : OA) (n c : Nat) (R : LA) (L : Ll) (t m : Nat) (r : LI) (hO : aT w w0.heap.size a n c R L) (hb : OC w0 w) (ht : t<n) (hr : r.length=m)
  (hV : OC w V) {a4 : OA} {c4 : Nat} (hown : V.ownsRow w.heap.size 3 1 (.slice a4 m c4) m (r.map (Value.int .i64))) :
  ∃R',aT (V.setCell ⟨ablk a,aL a+t,none⟩ (.slice a4 m c4)) w0.heap.size a n c R' (L.set t r)/\aD w (V.setCell ⟨ablk a,aL a+t,none⟩ (.slice a4 m c4)) (bX a R) (bX a R'):=by
 subst hr;have hO4:=hO.af hV;have hnew : ∀b,b<w.heap.size->eX a4 b:=λb hb=>pV hown hb;have h1:=hO4.setRow ht (bd hown hb.size) (hnew _ (hO.lt _ (.inl ⟨hO.ne (by omega),rfl⟩)).2) (λj hj _=>by
  by_cases hn : (aR R j).1=none
  ·exact .inl hn
  ·exact .inr (hnew _ (hO.lt _ (aT.nh (by rw [hO.rl];exact hj) hn)).2))
 have h2:=hO.lU hV ht (r:=a4) (rc:=c4) (.slice a4 r.length c4) (λha=>.inr (ba hown ha).1);exact ⟨_,h1,h2⟩
end
section
open Go.RowKit Go.Shelf
structure WX where
 a : OA
 c : Nat
 l : LI
structure Il (V : World) (b : Nat) (G : cX) (Bc Bat By Bg Bf l : Nat) (ag : OA) (k cg : Nat) (L : Ll) : Prop where
 gen : V.cell? ⟨Bc,4,none⟩=some (.slice ag k cg)
 je : bu V ag k L
 yl : V.cell? ⟨By,0,none⟩=some (.func (.yield l) #[] #[])
 gp : V.cell? ⟨Bg,0,none⟩=some (.pointer (some ⟨b,0,none⟩))
 gf : ee V b G
 fr : V.cell? ⟨Bf,0,none⟩=some (.func (.func 251) #[] #[.pointer (some ⟨Bc,0,none⟩),.pointer (some ⟨Bat,0,none⟩),.pointer (some ⟨By,0,none⟩),.pointer (some ⟨Bg,0,none⟩),.pointer (some ⟨Bf,0,none⟩)])
 lt : Bat<V.heap.size
def xe (V : World) (B i : Nat) : Prop:=V.cell? ⟨B,0,none⟩=some (.int .i64 i)/\V.frozen? ⟨B,0,none⟩=false
theorem xe.of_block {V V' : World} {B i : Nat} (h : xe V B i) (hb : V'.heap[B]? = V.heap[B]?) : xe V' B i :=
 ⟨(Kj (w:=V) (a:=⟨B,0,none⟩) hb).trans h.1,(Ks (w:=V) (a:=⟨B,0,none⟩) hb).trans h.2⟩
theorem xe.af {V V' : World} {B i : Nat} (h : xe V B i) (hb : OC V V') : xe V' B i:=h.of_block (hb.block _ (J2 _ _ h.1))
attribute [local go_sem] M3
def I3 (l n : Nat) (J : List WX->World->Prop) (M : Nat->Prop) (m : Nat) (pre : List WX) (x : WX) (V : World) : Prop :=
 YieldAt Fence.wide m prog l #[.int .i64 (pre.length : Nat),.slice x.a n x.c] V λe V'=>e = .returned (.bool true)/\J (pre ++ [x]) V'/\aD V V' M M
theorem aD.wide {w w' : World} {M I : Nat->Prop} (h : aD w w' M M) (hMI : ∀x,M x->I x) : aD w w' I I :=
 ⟨h.os,h.tape,h.output,h.size,λb hb hI=>h.block b hb λhm=>hI (hMI _ hm),λ_ h=>.inl h⟩
theorem aD.setAt (w : World) {I : Nat->Prop} {B : Nat} (hB : I B) (v : Value) : aD w (w.setCell ⟨B,0,none⟩ v) I I:=by have hb0 : Below 0 w (w.setCell ⟨B,0,none⟩ v):=(JP 0 w).setCell (JU _) v;exact ⟨hb0.os,hb0.tape,hb0.output,hb0.size,λb hb hI=>J6 _ _ _ _ λe=>hI (e ▸ hB),λb hb=>.inl hb⟩
theorem vw {W0 : World} {b : Nat} {G : cX} {Bc Bat By Bg Bf l : Nat} {ag : OA} {k cg n : Nat} {L : Ll} {I : Nat->Prop}
  (J : List WX->World->Prop) (M : Nat->Prop) (hMI : ∀x,M x->I x) (hIB : I Bat) (hMB : ¬ M Bat) (hIl : ∀x,I x->x<W0.heap.size)
  (HE : ∀V,aD W0 V I I->Il V b G Bc Bat By Bg Bf l ag k cg L)
  (hJa : ∀pre V V',J pre V->OC V V'->J pre V')
  (hJb : ∀pre V v,(∀x ∈ pre,ablk x.a ≠ Bat)->J pre V->J pre (V.setCell ⟨Bat,0,none⟩ v))
  (N : Nat)
  (hY : ∀m pre x V,aD W0 V I I->J pre V->pre.length<N->Ints V x.a n x.l->(∀j,I j->j ≠ ablk x.a)->I3 l n J M m pre x V)
  (hN : N<=1000000) (hn : n<=1000000) (hn1 : 1<=n)
  (au : OA) (cu : Nat) (u : LI) (pre : List WX) (W : World) (hW : aD W0 W I I) (hJ : J pre W) (hp : ∀x ∈ pre,ablk x.a ≠ Bat)
  (hat0 : xe W Bat pre.length) (hu : Ints W au n u) (hau : ∀j,I j->j ≠ ablk au) (hlt : pre.length<N) :
  Calls prog 251 #[.int .i64 k,.slice au n cu,.pointer (some ⟨Bc,0,none⟩),.pointer (some ⟨Bat,0,none⟩),.pointer (some ⟨By,0,none⟩),.pointer (some ⟨Bg,0,none⟩),.pointer (some ⟨Bf,0,none⟩)] W
   λe V=>e = .returned (.bool true)/\∃xs : List WX,xs.map WX.l=[u]/\J (pre ++ xs) V/\(∀x ∈ pre ++ xs,ablk x.a ≠ Bat)/\xe V Bat (pre ++ xs).length/\aD W V I I:=by
 obtain rfl : u.length=n:=hu.len;have E:=HE W hW;obtain ⟨cgen,hmat,cyl,cgp,hgf,cfr,hltB⟩:=E;have hat:=hat0.1;have hfz:=hat0.2;clear hmat cgp hgf cfr;have HHE:=Z5 HE;have HJa:=Z5 hJa;have HJb:=Z5 hJb;have HY:=Z5 hY;have Hau:=Z5 hau;have Hp:=Z5 hp;clear HE hJa hJb hY hau hp;refine (callsIn_wide (n:=8)).1 ?_;refine callsIn_of_wp func251 rfl trivial ?_ rfl;simp only [ntmps251,LB,Kr,Lw,Nat.reduceAdd,Nat.reduceSub,La,Lb,LC,Lg,KL,LH];gi_wp2;obtain ⟨W1,hW1e⟩ : ∃W1,W1=W.setCell ⟨Bat,0,none⟩ (Value.int .i64 ((pre.length : Int)+1)):=⟨_,rfl⟩
 rw [<- hW1e];have hm1 : aD W W1 I I:=by rw [hW1e];exact aD.setAt _ hIB _
 have hM1:=hW.trans hm1;have cyl1:=(HHE.out W1 hM1).yl;have cat1 : W1.cell? ⟨Bat,0,none⟩=some (.int .i64 ((pre.length : Int)+1)):=by rw [hW1e];exact L7 _ _ _ (by rw [hat];rfl)
 have fat1 : W1.frozen? ⟨Bat,0,none⟩=false:=by rw [hW1e,KK];exact hfz
 have hu1 : Ints W1 au u.length u:=hu.dQ hm1 (λ_ h=>Hau.out _ h rfl);have hJ1 : J pre W1:=by rw [hW1e];exact HJb.out _ _ _ Hp.out hJ
 have hudr : Ints W1.drew au u.length u:=hu1.af (JP _ _).drew;have HS : Hid (∀V a4 c4,V.ownsRow W1.drew.heap.size 3 1 (.slice a4 u.length c4) u.length (u.map (Value.int .i64))->Below W1.drew.heap.size W1.drew V ->
   V.cell? ⟨By,0,none⟩=some (.func (.yield l) #[] #[])/\V.cell? ⟨Bat,0,none⟩=some (.int .i64 ((pre.length : Int)+1))/\V.frozen? ⟨Bat,0,none⟩=false/\ablk a4 ≠ Bat/\aD W V I I/\I3 l u.length J M 7 pre ⟨a4,c4,u⟩ V):=by intro V a4 c4 ho hb;have hbV : OC W1 V:=(JP _ W1).drew.trans hb;have hMV : aD W1 V I I:=N3 hbV I;obtain ⟨ia,_⟩:=NZ ho;have hne:=ba ho (λe=>by have:=ia.pl (by omega);rw [e] at this;cases this);have hBl : Bat<W1.heap.size:=(HHE.out W1 hM1).lt;have hsz : W1.drew.heap.size=W1.heap.size:=rfl;refine ⟨(HHE.out V (hM1.trans hMV)).yl,(hbV.cell (p:=⟨Bat,0,none⟩) hBl).trans cat1,(hbV.frozen (p:=⟨Bat,0,none⟩) hBl).trans fat1,by show ablk a4 ≠ _;omega,hm1.trans hMV,?_⟩;refine HY.out 7 pre ⟨a4,c4,u⟩ V (hM1.trans hMV) (HJa.out _ _ _ hJ1 hbV) hlt ia λj hj=>?_;have h1:=hIl j hj;have h2:=hM1.size;show j ≠ ablk a4;omega
 clear hW1e hJ1 hM1 hu1 hm1 hat;have hwr : IntKind.i64.wrap ((pre.length : Nat) : Int)=(pre.length : Nat):=J3 _ (by omega);have hmx : prog.follows .mixedOrders=true:=by kernel_rfl
 gi_region_with_o (first
  | ((try refine ⟨trivial,?_⟩);gi_at_call 115;refine (callsIn_wide.2 (dx au u.length cu u hudr hn)).mono ?_;rintro e w4 ⟨a4,c4,rfl,ho4,hb4⟩;obtain ⟨cyl4,cat4,fat4,hne4,hm4,fn,tmps,assign,body,hy,hR⟩:=HS.out _ _ _ ho4 hb4)
  | (refine hR.mono ?_;rintro e V ⟨rfl,hJ5,hm5⟩))
 all_goals gi_wp2
 all_goals go_ret
 all_goals exact ⟨rfl,[⟨a4,c4,u⟩],rfl,hJ5,λx hx=>by
   rcases List.mem_append.1 hx with hx | hx
   ·exact Hp.out x hx
   ·rw [List.mem_singleton.1 hx];exact hne4,by
   have h1 : xe V Bat (pre.length+1):=xe.of_block ⟨cat4,fat4⟩ (hm5.block _ (J2 _ _ cat4) hMB);rw [J0];exact h1,hm4.trans (hm5.wide hMI)⟩
end
def lL (b : Nat) (P M : Int) (am : OA) (mn cm : Nat) (m : Nat) (a : OA) (n c : Nat) (ay : OA) (ny cy : Nat) (C : iz) (sv : Value) (k : Nat) : List Value :=
 [.pointer (some ⟨b,0,none⟩),.int .i64 P,.int .i64 M,.slice am mn cm,.int .i64 m,.slice a n c,.slice ay ny cy,.bool C.cos,.int .i64 C.M,.int .i64 C.W,sv,.int .i64 k]
structure zU (w0 : World) (b : Nat) (G : cX) (a : OA) (n : Nat) (L : Ll) (m : Nat) (ay : OA) (ny : Nat) (C : iz) : Prop where
 g : ee w0 b G
 je : bu w0 a n L
 rws : bs G.El m L
 n6 : n<=1000000
 m6 : m<=64
 w6 : C.W<=64
 yl : C.cos=true->ny=m
 y : C.cos=true->Ints w0 ay m C.y
 ye : C.cos=true->G.DU C.y
theorem OH (m : Nat) (s : LI) : i5 m s []=frTo false s m:=by unfold i5;rw [K7,show dn []=[] by unfold dn;simp];rfl
theorem aO.setCell {w : World} {b : Nat} {cs : List Value} (h : aO w b cs) (i : Nat) (v : Value) : aO (w.setCell ⟨b,i,none⟩ v) b (cs.set i v):=by
 refine ⟨by simpa using h.1,λj u hu=>?_,λj=>by rw [KK];exact h.2.2 j⟩;by_cases e : j=i
 ·subst e;by_cases hl : j<cs.length
  ·rw [List.getElem?_set_self hl] at hu;cases hu
   exact Kf _ _ _ (h.2.1 j cs[j] (Km hl))
  ·rw [LF (by omega),KS (by omega)] at hu;cases hu
 ·rw [List.getElem?_set_ne (by omega)] at hu;rw [J7 _ _ _ _ (by simp <;> omega)];exact h.2.1 j u hu
theorem oq {m : Nat} {t : LI} (h : fF m t=true) : ∀k,k<t.length->0<=nth t k/\nth t k<m:=λ_ hk=>⟨(gQ h hk).1,(gQ h hk).2.1⟩
theorem Ed {L : Ll} {t q i : Nat} (ht : t<L.length) (hq : q<L.length) (hz : nth (ai L q) i ≠ 0) : nth (ai (bt L t q) t) i ≠ 0:=by
 rw [iH _ _ _ _ ht hq,dM];by_cases e : t=q
 ·rw [JT e,e];exact hz
 ·rw [JR e,JT rfl];exact hz
theorem GK {L : Ll} {i t : Nat} (ht : t<=L.length) (h : aZ L i t ≠ L.length) : t<=aZ L i t/\aZ L i t<L.length/\nth (ai L (aZ L i t)) i ≠ 0:=by
 have h1:=jV (c:=i) ht;refine ⟨h1.1,by omega,?_⟩;unfold aZ;refine gK L i _ _ ?_;have : aZ L i t<L.length:=by omega
 unfold aZ at this;omega
theorem AB {O : aM} {El : Int->Prop} {m : Nat} (hO : qa O El) {L : Ll} (hL : bs El m L) {t q i : Nat} (ht : t<L.length) (hq : q<L.length) (hi : i<m) (hz : nth (ai L q) i ≠ 0) : bs El m (iS O L t q i):=by unfold iS;have hs:=hL.swap ht hq;have hr:=hs.row (i:=t) (by rw [bG];exact ht);have hn:=Ed ht hq hz;refine bs.JG hO (hs.set t ⟨by rw [J5];exact hr.1,λx hx=>?_⟩) (by rw [KG,bG];exact ht) hi _ (by rw [KG,bG];exact JO _);obtain ⟨x0,hx0,rfl⟩:=List.mem_map.1 hx;exact hO.mul _ _ (hO.inv _ (hr.2 _ (aI (by rw [hr.1];exact hi))) hn) (hr.2 _ hx0)
theorem OI {O : aM} {El : Int->Prop} {m : Nat} (hO : qa O El) {L : Ll} (hL : bs El m L) {y t : LI} (hy : y.length=m/\∀x ∈ y,El x) (hT : ∀j,j<t.length->(nth t j).toNat<m) :
  ∀k,k<=t.length->bs El m (tE O L y t k).rows/\((tE O L y t k).sum.length=m/\∀x ∈ (tE O L y t k).sum,El x)/\(tE O L y t k).top<=(tE O L y t k).rows.length
 | 0,_=>⟨hL,hy,JU _⟩
 | k+1,hk=>by
  obtain ⟨h1,h2,h3⟩:=OI hO hL hy hT k (by omega);have hi:=hT k (by omega);rw [tE,pU];generalize tE O L y t k=st at *;split
  ·exact ⟨h1,h2,h3⟩
  ·rename_i hne;obtain ⟨a1,a2,a3⟩:=GK h3 hne;have hp:=AB hO h1 (t:=st.top) (by omega) a2 hi a3;have hr:=hp.row (i:=st.top) (by rw [sk];omega);refine ⟨hp,⟨?_,?_⟩,?_⟩
   ·dsimp only;rw [jf _ _ _ _ (by rw [hr.1,h2.1])];exact h2.1
   ·exact BC hO h2.2 hr.2 (by rw [hr.1,h2.1]) (by rw [h2.1];exact hi)
   ·dsimp only;rw [sk];omega
section
variable {m : Nat} {Q : LI}
end

section
open Go.RowKit
end
section
open Go.RowKit
end
section
variable {O : aM} {El : Int->Prop} {m : Nat} {L : Ll}
theorem FO (F : bI O El) (hL : bs El m L) {Q : LI} {x : Int} (h : ¬ ku O El L.length (aX L) (gA Q) x.toNat) : mh O L (Q ++ [x])=mh O L Q+1:=by have h1:=ke F hL (Q ++ [x]);rw [vA] at h1;exact h1.uniq (Rk.ind _ h (ke F hL Q))
end
theorem B4 {P M : Int} {mod : LI} {m : Nat} {L : Ll} (hE : aJ P M mod m L=0) : Rk (ku (ah P M.toNat mod).ops (ah P M.toNat mod).El L.length (aX L)) (List.range m) L.length:=by
 obtain ⟨N',e,hm1,hm64,F,hR⟩:=aY hE;obtain rfl : m=N':=by omega
 have h6:=(eB (aN hE).2.2.2).2;rw [JQ] at h6;have hcan : bH (ah P M.toNat mod).ops m L=L:=h6;have h:=qf F hR;rwa [hcan] at h
section
variable {P M : Int} {mod : LI} {m : Nat} {L : Ll}
end
section
def fV (n k : Nat) : LI:=(List.replicate n 0).set k 1
theorem tX (n k : Nat) : (fV n k).length=n:=by simp [fV]
variable {w : World} {b : Nat} {G : cX}
end
section
open Go.RowKit
end
section
open Go.RowKit
end
section
variable {O : aM} {El : Int->Prop} {m : Nat} {L : Ll}
end
def gU (x : LI) : Nat:=x.countP λy=>decide (y ≠ 0)
section
open Go.RowKit
end
def Al (P M : Int) (am : OA) (mn cm : Nat) (mod : LI) (N : Int) (a : OA) (n c : Nat) (L : Ll) (W : Int) (w : World) (e : Ending) (w' : World) : Prop :=
 OC w w'/\((aJ P M mod N L ≠ 0/\e = .returned (.tuple #[.pointer none,.int .i64 (aJ P M mod N L)])) \/
 (aJ P M mod N L=0/\∃(b : Nat) (w2 : World),e = .returned (.tuple #[.pointer (some ⟨w2.heap.size,0,none⟩),.int .i64 0])/\OC w w2/\ee w2 b (ah P M.toNat mod)/\OC w2 w' /\
  aO w' w2.heap.size [.pointer (some ⟨b,0,none⟩),.int .i64 P,.int .i64 M,.slice am mn cm,.int .i64 N,.slice a n c,.slice none 0 0,.bool false,.int .i64 0,.int .i64 W,.slice none 0 0,.int .i64 0]))
theorem Aq (P M : Int) (am : OA) (mn cm : Nat) (mod : LI) (N : Int) (a : OA) (n c : Nat) (L : Ll) (W : Int) (w : World) (hmod : Ints w am mn mod) (hi : bu w a n L) :
  Calls prog 182 #[.agg #[.int .i64 P,.int .i64 M,.slice am mn cm,.int .i64 N,.slice a n c],.int .i64 W] w (Al P M am mn cm mod N a n c L W w):=by
 go_enter func182,ntmps182;go_wp2_with fail;obtain ⟨U,hU⟩ : ∃U : World,U=w.alloc (.cells #[.int .i64 P,.int .i64 M,.slice am mn cm,.int .i64 N,.slice a n c] 27):=⟨_,rfl⟩
 rw [<- hU];have hbU : OC w U:=by rw [hU];exact an _ _
 have x0 : aO U w.heap.size [.int .i64 P,.int .i64 M,.slice am mn cm,.int .i64 N,.slice a n c]:=by rw [hU];exact NY _ _ _ rfl
 have HX:=Z5 x0;clear hU x0;refine (df P M am mn cm mod N a n c L U (hmod.af hbU) (hi.af hbU)).mono ?_;rintro e w1 ⟨rfl,hb1⟩;have hbw1:=NX hbU hb1;by_cases hE : aJ P M mod N L=0
 ·obtain ⟨hf,_⟩:=aN hE;have HE:=Z5 hE;have Hf:=Z5 hf;rw [hE];have x1:=HX.out.af hb1;have c0:=x1.cell 0 rfl;have c1:=x1.cell 1 rfl;have c2:=x1.cell 2 rfl;have hm1:=(hmod.af hbU).af hb1;clear hE x1 hf;go_wp2_with fail;refine (dB P M am mn cm mod w1 hm1).mono ?_;rintro e w2 (⟨hB,rfl,hb2⟩ | ⟨hB,b,rfl,hG,hbl,hb2⟩)
  ·rw [Hf.out] at hB;cases hB
  ·clear hB;have hg:=hG.gf;have x2:=(HX.out.af hb1).af hb2;have e0:=x2.cell 0 rfl;have e1:=x2.cell 1 rfl;have e2:=x2.cell 2 rfl;have e3:=x2.cell 3 rfl;have e4:=x2.cell 4 rfl;clear x2 c0 c1 c2;go_wp2_with fail;go_ret2;exact ⟨NX (NX hbw1 hb2) (an _ _),.inr ⟨HE.out,b,w2,rfl,NX hbw1 hb2,hg,an _ _,NY w2 [.pointer (some ⟨b,0,none⟩),.int .i64 P,.int .i64 M,.slice am mn cm,.int .i64 N,.slice a n c,.slice none 0 0,.bool false,.int .i64 0,.int .i64 W,.slice none 0 0,.int .i64 0] _ rfl⟩⟩
 ·have HE:=Z5 hE;have hE' : (aJ P M mod N L != 0)=true:=by simpa using hE
  clear hE;go_wp2_with fail;go_ret2;exact ⟨hbw1,.inl ⟨HE.out,rfl⟩⟩
def Gy (P M : Int) (am : OA) (mn cm : Nat) (mod : LI) (m : Nat) (a : OA) (n c : Nat) (L : Ll) (ay : OA) (ny cy : Nat) (C : iz) (w w' : World) (pb : Nat) : Prop :=
 ∃(b : Nat) (w2 : World),pb=w2.heap.size/\OC w w2/\zU w2 b (ah P M.toNat mod) a n L m ay ny C/\OC w2 w'/\aO w' pb (lL b P M am mn cm m a n c ay ny cy C (.slice none 0 0) 0)
section
open Go.RowKit
end
section
open Go.RowKit
end
def Ol:=@aD.grown
def Ox:=@RS.add
end Go.Proofs.YthglbncgemdcbaaGreat
