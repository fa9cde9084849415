import Derived.Test.YthglbncgemdcbaaGreatCE10
import Derived.Test.YthglbncgemdcbaaGreatCE11
namespace Go.Proofs.YthglbncgemdcbaaGreat
set_option linter.all false
set_option maxRecDepth 100000
set_option maxHeartbeats 8000000
open Go.RowKit Go.Proofs.Tryz
theorem Gi:dt 5 2 25 wZ 0 25=true:=by decide +kernel
theorem J4:fs 5 2 25 wZ:=aH (cX 5 2 25 wZ) Gi
theorem FF:dt 5 3 125 mf 0 32=true:=by decide +kernel
theorem Dx:dt 5 3 125 mf 32 32=true:=by decide +kernel
theorem C0:dt 5 3 125 mf 64 32=true:=by decide +kernel
theorem Ej:dt 5 3 125 mf 96 29=true:=by decide +kernel
theorem JQ:fs 5 3 125 mf:=aH (aH (aH (aH (cX 5 3 125 mf) FF) Dx) C0) Ej
theorem ER:dt 7 2 49 vC 0 49=true:=by decide +kernel
theorem JO:fs 7 2 49 vC:=aH (cX 7 2 49 vC) ER
theorem DC:dt 11 2 121 kz 0 32=true:=by decide +kernel
theorem zY:dt 11 2 121 kz 32 32=true:=by decide +kernel
theorem Bj:dt 11 2 121 kz 64 32=true:=by decide +kernel
theorem Bz:dt 11 2 121 kz 96 25=true:=by decide +kernel
theorem GI:fs 11 2 121 kz:=aH (aH (aH (aH (cX 11 2 121 kz) DC) zY) Bj) Bz
theorem C8:dt 13 2 169 iz 0 32=true:=by decide +kernel
theorem Ad:dt 13 2 169 iz 32 32=true:=by decide +kernel
theorem Al:dt 13 2 169 iz 64 32=true:=by decide +kernel
theorem A8:dt 13 2 169 iz 96 32=true:=by decide +kernel
theorem yY:dt 13 2 169 iz 128 32=true:=by decide +kernel
theorem zq:dt 13 2 169 iz 160 9=true:=by decide +kernel
theorem Im:fs 13 2 169 iz:=aH (aH (aH (aH (aH (aH (cX 13 2 169 iz) C8) Ad) Al) A8) yY) zq
def Kr (c:Nat × Nat):Bool:=yV (dq c.1 1 []) c.1 c.2 && decide (0<c.2) && decide (c.2<c.1)
theorem KJ:roots.all Kr=true:=by decide +kernel
theorem EP:((List.range 257).all λp=>p<2 || !gh p || roots.any λc=>c.1 == p)=true:=by decide +kernel
section
variable {P:Int} {M:Nat} {mod:LI} {q:Nat} {x:Int}
theorem Au (h:la P M) (Z:eW P M x):pw P M mod x 1=x:=by show dq P M mod (pw P M mod x 0) x=x;rw [pw,ij h Z]
theorem JY (h:la P M) (Z:eW P M x):pw P M mod x 2=dq P M mod x x:=by show dq P M mod (pw P M mod x 1) x=_;rw [Au h Z]
theorem Jf (h:la P M) (Z:eW P M x):∀k,pw P M mod (dq P M mod x x) k=pw P M mod x (2 * k)
 | 0=>rfl
 | k+1=>by rw [pw,Jf h Z k,<- JY h Z,iP h];rfl
theorem Az (h:la P M):∀(f n:Nat) (x:Int),eW P M x->n<2 ^ f->fpw (dq P M mod) f x n=pw P M mod x n
 | 0,n,x,Y,Z=>by
  have:n=0:=by simpa using Z
  subst this;rfl
 | f+1,n,x,Y,Z=>by
  have V:=Az h f (n / 2) (dq P M mod x x) (fH h x x) (by rw [MT] at Z;omega);unfold fpw;split
  ·rename_i h0;subst h0;rfl
  ·rw [V,Jf h Y];split
   ·rename_i h1;have e:n=2 * (n / 2)+1:=by omega
    have X:pw P M mod x n=pw P M mod x (2 * (n / 2)+1):=congrArg _ e;rw [X];rfl
   ·rename_i h1;have e:n=2 * (n / 2):=by omega
    exact (congrArg _ e).symm
structure Ord (P:Int) (M:Nat) (mod:LI) (q:Nat) (x:Int):Prop where
 one:pw P M mod x (q - 1)=1
 ne:∀k,0<k->k<q - 1->pw P M mod x k ≠ 1
theorem CE (h:la P M) {a:Nat} (h1:pw P M mod x a=1):∀n,pw P M mod x (a * n)=1
 | 0=>rfl
 | n+1=>by rw [Nj,<- iP h,CE h h1 n,h1,ij h (vE h)]
theorem G3 (h:la P M) {a b:Nat} (ha:pw P M mod x a=1) (hb:pw P M mod x b=1):pw P M mod x (a % b)=1:=by have e:a=b * (a / b)+a % b:=(MP a b).symm;rw [e,<- iP h,CE h hb,ij h (pQ h x _)] at ha;exact ha
theorem Jp (h:la P M):∀(b a:Nat),pw P M mod x a=1->pw P M mod x b=1->pw P M mod x (Nat.gcd b a)=1:=by
 intro b;induction b using Nat.strongRecOn with
 | ind b Z =>
  intro a ha hb
  by_cases h0:b=0
  ·subst h0;rw [Nat.gcd_zero_left];exact ha
  ·rw [Nat.gcd_rec]
   exact Z (a % b) (MJ _ (by omega)) b hb (G3 h ha hb)
theorem Ord.of (h:la P M) (U:eW P M x) (B:q<=256) (X:yV (dq P M mod) q x=true):Ord P M mod q x:=by
 unfold yV at X;rw [Lm] at X;obtain ⟨h1,h2⟩:=X;have Z:=eq_of_beq h1;rw [Az h 8 _ x U (by omega)] at Z;refine ⟨Z,λk Y K H=>?_⟩;have E:=Jp h k (q - 1) Z H;have V:Nat.gcd k (q - 1) ∣ q - 1:=Nat.gcd_dvd_right _ _;have D:Nat.gcd k (q - 1)<=k:=Nat.gcd_le_left _ Y;have S:0<Nat.gcd k (q - 1):=Nat.gcd_pos_of_pos_left _ Y;have h3:=List.all_eq_true.1 h2 (Nat.gcd k (q - 1)) (List.mem_range.2 (by omega));have F:(q - 1) % Nat.gcd k (q - 1)=0:=Nat.mod_eq_zero_of_dvd V;simp only [NO,beq_iff_eq,bne_iff_ne,ne_eq] at h3;rcases h3 with (h3 | h3) | h3
 ·omega
 ·exact h3 F
 ·rw [Az h 8 _ x U (by omega)] at h3;exact h3 E
theorem Ord.nz (h:la P M) (o:Ord P M mod q x) {k:Nat} (Z:k<q - 1):pw P M mod x k ≠ 0:=by intro h0;have h1:=iP (mod:=mod) h x k (q - 1 - k);rw [h0,jb h,pf h,show k+(q - 1 - k)=q - 1 by omega,o.one] at h1;omega
theorem Ord.inj (h:la P M) (o:Ord P M mod q x) {i j:Nat} (Y:i<j) (X:j<q - 1):pw P M mod x i ≠ pw P M mod x j:=by
 intro e;have h1:=iP (mod:=mod) h x i (q - 1 - i);have h2:=iP (mod:=mod) h x j (q - 1 - i);rw [show i+(q - 1 - i)=q - 1 by omega,o.one,e,h2] at h1;have h3:pw P M mod x (j - i)=1:=by have Z:=iP (mod:=mod) h x (j - i) (q - 1);rw [o.one,jb h,ij h (pQ h x _),show j - i+(q - 1)=j+(q - 1 - i) by omega,h1] at Z;exact Z
 exact o.ne (j - i) (by omega) (by omega) h3
theorem qY (h:la P M) (Y:eW P M x) (o:Ord P M mod q x):∀(n k:Nat),k<=q - 1->q - 1 - k<n->0<k ->
  powTo (λz=>dq P M mod z x) n ((List.range k).map λi=>pw P M mod x i) (pw P M mod x k)=(List.range (q - 1)).map λi=>pw P M mod x i
 | 0,k,_,X,_=>by omega
 | n+1,k,V,X,h0=>by
  by_cases Z:k=q - 1
  ·subst Z;refine jj _ _ _ _ (.inr ?_);rw [o.one,Nv];exact ⟨0,List.mem_range.2 h0,rfl⟩
  ·rw [rZ]
   ·have e:(List.range k).map (λi=>pw P M mod x i) ++ [pw P M mod x k]=(List.range (k+1)).map λi=>pw P M mod x i:=by rw [Mn,LJ];rfl
    rw [e];exact qY h Y o n (k+1) (by omega) (by omega) (by omega)
   ·rintro (h1 | h1)
    ·exact o.nz h (by omega) h1
    ·obtain ⟨i,hi,e⟩:=List.mem_map.1 h1;exact o.inj h (List.mem_range.1 hi) (by omega) e
theorem Ord.fX (h:la P M) (Z:eW P M x) (X:2<=q) (o:Ord P M mod q x):fX P M mod q x=true:=by
 have Y:fb P M mod q x=(List.range (q - 1)).map λi=>pw P M mod x i:=by
  by_cases h2:q=2
  ·subst h2;have:x=1:=by have:=o.one;rwa [show 2 - 1=1 from rfl,Au h Z] at this
   subst this;rw [fb,jj _ _ _ _ (.inr (by simp))];rfl
  ·have:=qY h Z o q 1 (by omega) (by omega) (by omega);rw [Au h Z] at this;exact this
 unfold Proofs.YthglbncgemdcbaaGreat.fX;rw [Y,Lm];refine ⟨by simp,?_⟩;have e:nth ((List.range (q - 1)).map λi=>pw P M mod x i) (q - 2)=pw P M mod x (q - 2):=by rw [aj (by simp;omega)];simp
 rw [e];have:dq P M mod (pw P M mod x (q - 2)) x=pw P M mod x (q - 1):=by rw [show q - 1=(q - 2)+1 by omega];rfl
 rw [this,o.one];rfl
theorem se:∀(n x y:Nat),2<=q->x<=y->y<x+n->fX P M mod q y=true->genTo P M mod q n x ≠ []
 | 0,x,y,_,h1,h2,_=>by omega
 | n+1,x,y,X,h1,h2,Y=>by
  rw [genTo];by_cases Z:fX P M mod q x=true
  ·rw [KX Z];intro e;simp only [fX,Lm,beq_iff_eq] at Z;rw [e] at Z;simp at Z;omega
  ·rw [KY Z];refine se n (x+1) y X ?_ (by omega) Y;rcases ON h1 with h3 | h3
   ·subst h3;exact absurd Y Z
   ·exact h3
theorem yh {ex:LI} {y a b:Int} (g:tH P M mod q y ex) (ha:eW P M a) (hb:eW P M b) (Z:a ≠ 0) (Y:b ≠ 0):dq P M mod a b ≠ 0:=by obtain ⟨i,_,rfl,_⟩:=g.log ha Z;obtain ⟨j,_,rfl,_⟩:=g.log hb Y;rw [iP g.res];exact g.Jd _
end
theorem D3 {P:Int} {M q:Nat} {l:List (Nat × Nat)} (h:fs P M q l) {v:Nat} (Z:v<q):∃c,BA P M q v c=true:=⟨_,h v Z⟩
theorem Kq (p m:Nat) (Y:gh p=true) (h2:2<=p) (hm:2<=m) (S:m<=8) (Z:(p:Int) ^ m<=256):∃l,fs p m (((p:Int) ^ m).toNat) l:=by
 have V:p<=16:=by
  have h1:=dF (P:=(p:Int)) (by omega) hm;have h3:(p:Int) ^ 2=p * p:=by rw [LY,LY,MU,Ns]
  rcases LP 16 p with X | X
  ·have H:17 * 17<=p * p:=Ng X X;have U:((17 * 17:Nat):Int)<=((p * p:Nat):Int):=Int.ofNat_le.2 H;rw [Om] at U;omega
  ·exact X
 have K:p=2\/p=3\/p=4\/p=5\/p=6\/p=7\/p=8\/p=9\/p=10\/p=11\/p=12\/p=13\/p=14\/p=15\/p=16:=by omega
 have hd:m=2\/m=3\/m=4\/m=5\/m=6\/m=7\/m=8:=by omega
 rcases K with rfl | rfl | rfl | rfl | rfl | rfl | rfl | rfl | rfl | rfl | rfl | rfl | rfl | rfl | rfl
 ·rcases hd with rfl | rfl | rfl | rfl | rfl | rfl | rfl
  ·exact ⟨_,Jo⟩
  ·exact ⟨_,Jq⟩
  ·exact ⟨_,JG⟩
  ·exact ⟨_,JT⟩
  ·exact ⟨_,JC⟩
  ·exact ⟨_,JB⟩
  ·exact ⟨_,Jt⟩
 ·rcases hd with rfl | rfl | rfl | rfl | rfl | rfl | rfl
  ·exact ⟨_,JH⟩
  ·exact ⟨_,JK⟩
  ·exact ⟨_,Jv⟩
  ·exact ⟨_,JA⟩
  ·exact absurd Z (by decide)
  ·exact absurd Z (by decide)
  ·exact absurd Z (by decide)
 ·exact absurd Y (by decide)
 ·rcases hd with rfl | rfl | rfl | rfl | rfl | rfl | rfl
  ·exact ⟨_,J4⟩
  ·exact ⟨_,JQ⟩
  ·exact absurd Z (by decide)
  ·exact absurd Z (by decide)
  ·exact absurd Z (by decide)
  ·exact absurd Z (by decide)
  ·exact absurd Z (by decide)
 ·exact absurd Y (by decide)
 ·rcases hd with rfl | rfl | rfl | rfl | rfl | rfl | rfl
  ·exact ⟨_,JO⟩
  ·exact absurd Z (by decide)
  ·exact absurd Z (by decide)
  ·exact absurd Z (by decide)
  ·exact absurd Z (by decide)
  ·exact absurd Z (by decide)
  ·exact absurd Z (by decide)
 ·exact absurd Y (by decide)
 ·exact absurd Y (by decide)
 ·exact absurd Y (by decide)
 ·rcases hd with rfl | rfl | rfl | rfl | rfl | rfl | rfl
  ·exact ⟨_,GI⟩
  ·exact absurd Z (by decide)
  ·exact absurd Z (by decide)
  ·exact absurd Z (by decide)
  ·exact absurd Z (by decide)
  ·exact absurd Z (by decide)
  ·exact absurd Z (by decide)
 ·exact absurd Y (by decide)
 ·rcases hd with rfl | rfl | rfl | rfl | rfl | rfl | rfl
  ·exact ⟨_,Im⟩
  ·exact absurd Z (by decide)
  ·exact absurd Z (by decide)
  ·exact absurd Z (by decide)
  ·exact absurd Z (by decide)
  ·exact absurd Z (by decide)
  ·exact absurd Z (by decide)
 ·exact absurd Y (by decide)
 ·exact absurd Y (by decide)
 ·exact absurd Y (by decide)
theorem Ii {P:Int} {m:Nat} (hf:RF P m) {mod:LI} (hd:dG P mod) (Z:mod.length=m):0<=valu P mod/\valu P mod<P ^ m:=by have:=nF (P:=P) (by have:=hf.p2;omega) mod hd;rwa [Z] at this
theorem cB (P M:Int) (mod:LI):bF P M mod=bs P M mod:=by
 by_cases hs:cH P M mod=true
 ·unfold bF bs;rw [hs,Mw,Mw];have H:=hs;unfold cH at H;simp only [Lm,bne_iff_ne,ne_eq] at H;obtain ⟨⟨h1,h2⟩,h3⟩:=H;obtain ⟨m,rfl,Z⟩:=RF.of h1;obtain ⟨p,rfl⟩:∃p:Nat,P=p:=⟨P.toNat,by have:=Z.p2;omega⟩
  rw [KV] at h2 ⊢;have hp2:2<=p:=by have:=Z.p2;omega
  have hp256:p<=256:=by have:=Z.p256;omega
  have D:=Z.order;have Y:=Z.res;obtain ⟨q,r⟩:∃q:Nat,(p:Int) ^ m=q:=⟨((p:Int) ^ m).toNat,by have:=one_lt_pow Y;omega⟩
  have F:2<=q:=by have:=one_lt_pow Y;omega
  have K:q<=256:=by have:=Z.pw;omega
  rw [D,r,KV];have U:∀x:Nat,0<x->x<q->yV (dq p m mod) q x=true->(fW p m mod q).isEmpty=false:=λx hx0 hx1 ho=>by
   have B:eW (p:Int) m x:=⟨by omega,by rw [r];omega⟩
   have hg:=(Ord.of Y B K ho).fX Y B F;have:=se (P:=p) (M:=m) (mod:=mod) (q - 1) 1 x F (by omega) (by omega) hg;unfold fW;cases h:genTo p m mod q (q - 1) 1 with
   | nil=>exact absurd h this
   | cons y l=>rfl
  by_cases hm:m=1
  ·subst hm;have A:mod=[]:=by rw [KX (by simp)] at h3;exact Lw (by simpa using h3)
   subst A;have j:=List.all_eq_true.1 EP p (List.mem_range.2 (by omega));have z:decide (p<2)=false:=by simp;omega
   rw [z,h2] at j;simp only [Bool.not_true,Bool.false_or,Nk] at j;obtain ⟨c,X,hcp⟩:=j;have V:=List.all_eq_true.1 KJ c X;have E:c.1=p:=by simpa using hcp
   unfold Kr at V;rw [E] at V;simp only [Lm,LM] at V;have hqp:q=p:=by
    have:(p:Int) ^ 1=p:=by rw [LY,MU,Ns]
    omega
   rw [U c.2 V.1.2 (by omega) (by rw [hqp];exact V.1.1)];rfl
  ·have hM:¬ (m:Int)=1:=by omega
   rw [KY hM] at h3;simp only [Lm,LM] at h3;have hlen:mod.length=m:=by omega
   have S:dG (p:Int) mod:=PO (by omega) λx hx=>by have:=List.all_eq_true.1 h3.2 x hx;simpa using this
   have hv:=Ii Z S hlen;obtain ⟨v,hvv⟩:∃v:Nat,valu p mod=v:=⟨(valu p mod).toNat,by omega⟩
   have hdv:digs v p m=mod:=by rw [<- hvv,<- hlen];exact mg mod S
   obtain ⟨l,hl⟩:=Kq p m h2 hp2 (by have:=Z.m1;omega) Z.m8 Z.pw;rw [r,KV] at hl;obtain ⟨c,X⟩:=D3 hl (v:=v) (by omega);have hM':((m:Int) == 1)=false:=by simpa using hM
   rw [hM',Bool.false_or];unfold BA at X;rw [hdv] at X;split at X
   ·simp only [Lm,LM] at X;rw [X.1.1.1,U c.1 X.1.2 X.2 X.1.1.2];rfl
   ·rename_i hc2;simp only [Lm,LM,Bool.not_eq_true',beq_iff_eq] at X;rw [X.1.1.1.1];cases h:(fW p m mod q).isEmpty with
    | true=>rfl
    | false =>
     exfalso
     have hne:fW p m mod q ≠ []:=λe=>by rw [e] at h;cases h
     obtain ⟨y,hy1,hy2,hy3,hy4⟩:=pO hne
     have g:=tH.xu (mod:=mod) Y r.symm ⟨by omega,by omega⟩ hy3
     exact yh g (a:=(c.1:Int)) (b:=(c.2:Int)) ⟨by omega,by omega⟩ ⟨by omega,by omega⟩ (by omega) (by omega) X.1.1.1.2
 ·have hs':cH P M mod=false:=by simpa using hs
  simp [bF,bs,hs']
theorem rT (f:Int->Int):∀(n:Nat) (y z:Int),y<=z->z<y+n->f z=1->f (invTo f n y)=1/\y<=invTo f n y/\invTo f n y<y+n
 | 0,y,z,h1,h2,_=>by omega
 | n+1,y,z,h1,h2,Z=>by
  unfold invTo;split
  ·exact ⟨by assumption,by omega,by omega⟩
  ·rename_i Y;have hne:y ≠ z:=λe=>Y (e ▸ Z);have:=rT f n (y+1) z (by omega) (by omega) Z;exact ⟨this.1,by omega,by omega⟩
theorem eQ {P M:Int} {mod:LI} (h:bs P M mod=true):∃m:Nat,M=m/\eW P m=(ah P m mod).El/\((ah P m mod).q:Int)=aK P M/\bK (ah P m mod).ops (eW P m)/\Ji (ah P m mod).ops (kG P m mod) (eW P m) /\
  ∀p,eW P m p->p ≠ 0->(gL P m mod p=1 ↔ p=1):=by
 have hF:=dO h;obtain ⟨m,y,rfl,hr,S,hsh,H,g⟩:=kU h;have V:RF P m:=by
  obtain ⟨m',e,h2,_⟩:=dQ (by rw [cB];exact h);have:m=m':=by omega
  rw [this];exact h2
 rw [KV] at hF;have e:eW P m=(ah P m mod).El:=by funext x;simp only [cZ.El,ah,eW];rw [H]
 rw [<- e] at hF;have B:=g.q2;have hmul:∀x z,eW P m x->eW P m z->(ah P m mod).ops.mul x z=mulR P m mod x z:=λx z Z D=>by rw [IU V];exact g.qL Z D
 have U:((aK P m).toNat:Int)=aK P m:=by omega
 have hinv:∀x,eW P m x->x ≠ 0->(ah P m mod).ops.inv x=gL P m mod x:=by
  intro x Z h0;have hi:=hF.cl.inv x Z h0;have hm:=hF.mul_inv x Z h0;rw [hmul x _ Z hi] at hm;have j:(ah P m mod).ops.inv x ≠ 0:=by intro A;have h2:=hF.mul_inv x Z h0;rw [A,hF.dh Z] at h2;exact absurd h2 (by decide)
  have K:=hi.1;have E:=hi.2;obtain ⟨h1,h2,h3⟩:=rT (mulR P m mod x) ((aK P m).toNat - 1) 1 _ (by omega) (by omega) hm;have Y:eW P m (gL P m mod x):=⟨by unfold gL;omega,by unfold gL;omega⟩
  have F:(ah P m mod).ops.mul x (gL P m mod x)=1:=by rw [hmul x _ Z Y];exact h1
  have r:=hF.mul_inv x Z h0;have e1:(ah P m mod).ops.mul ((ah P m mod).ops.inv x) ((ah P m mod).ops.mul x (gL P m mod x))=gL P m mod x:=by rw [<- hF.mul_assoc _ x _ hi Z Y,hF.mul_comm _ x hi Z,r,hF.one_mul _ Y]
  rw [F,hF.iV hi] at e1;exact e1
 refine ⟨m,rfl,e,U,hF,⟨λx z _ _=>rfl,hmul,λx _=>rfl,hinv⟩,λp X h0=>?_⟩;rw [<- hinv p X h0];have hi:=hF.cl.inv p X h0;have hm:=hF.mul_inv p X h0;constructor
 ·intro e1;rw [e1,hF.iV X] at hm;exact hm
 ·intro e1;rw [e1] at hm hi ⊢;rw [hF.one_mul _ hi] at hm;exact hm
theorem kd {P M:Int} {mod:LI} (h:bF P M mod=true):∀p,eW P M.toNat p->p ≠ 0->(gL P M.toNat mod p=1 ↔ p=1):=by obtain ⟨m,rfl,_,_,_,_,Z⟩:=eQ (by rw [<- cB];exact h);exact Z
theorem yH (P M:Int) (mod:LI) (Z:Int) (L:Ll):fO P M mod Z L=dE P M mod Z L:=by
 unfold fO dE;rw [cB];split
 ·rename_i h;obtain ⟨m,rfl,_,Y,_⟩:=eQ h;rw [KV,Y]
 ·rfl
theorem CX {P M:Int} {mod:LI} (h:bs P M mod=true) {L:Ll} {m:Nat} (Z:bt (ah P M.toNat mod).El m L):wb (kG P M.toNat mod) L m=bZ (ah P M.toNat mod) L m:=by obtain ⟨k,rfl,he,_,hF,Y,_⟩:=eQ h;rw [KV] at Z ⊢;rw [<- he] at Z;unfold wb bZ;rw [(gQ Y hF.cl Z m (KT _)).1]
theorem AS (P M:Int) (mod:LI) (Z:Int) (L:Ll):ga P M mod Z L=dD P M mod Z L:=by
 unfold ga dD;rw [yH];split
 ·rename_i h0;obtain ⟨h1,h2⟩:=nc h0;obtain ⟨m,rfl,_,_,Y⟩:=me h2;rw [KV,CX h1 Y]
 ·rfl
theorem ur (P M:Int) (mod:LI) (N:Int) (L:Ll):jQ P M mod N L=aI P M mod N L:=by unfold jQ aI;rw [cB,AS]
theorem aZ {P M:Int} {mod:LI} {N:Int} {L:Ll} (h:aI P M mod N L=0):∃n:Nat,N=n/\1<=n/\n<=64/\bK (ah P M.toNat mod).ops (ah P M.toNat mod).El/\bt (ah P M.toNat mod).El n L:=by obtain ⟨m,rfl,h1,h2,_,Z⟩:=di h;exact ⟨m,rfl,h1,h2,dO (aL h).1,Z⟩
theorem mR (x:Nat) (i:Int):∀k,i ∈ dr x k ↔ ∃j:Nat,j<k/\i=j/\x.testBit j=true
 | 0=>by simp [dr]
 | k+1=>by
  have Y:=mR x i k;unfold dr;split
  ·rename_i Z;rw [L8,Y,LQ];constructor
   ·rintro (⟨j,h1,h2,h3⟩ | rfl)
    ·exact ⟨j,by omega,h2,h3⟩
    ·exact ⟨k,by omega,rfl,Z⟩
   ·rintro ⟨j,h1,h2,h3⟩;by_cases e:j=k
    ·subst e;exact .inr h2
    ·exact .inl ⟨j,by omega,h2,h3⟩
  ·rename_i Z;rw [Y];constructor
   ·rintro ⟨j,h1,h2,h3⟩;exact ⟨j,by omega,h2,h3⟩
   ·rintro ⟨j,h1,h2,h3⟩;by_cases e:j=k
    ·subst e;exact absurd h3 Z
    ·exact ⟨j,by omega,h2,h3⟩
theorem kX (x N:Nat) (i:Nat):i ∈ j9 (dr x N) (dr x N).length ↔ i<N/\x.testBit i=true:=by
 rw [fM];constructor
 ·rintro ⟨j,Z,e⟩;have hm:nth (dr x N) j ∈ dr x N:=aG Z;obtain ⟨t,h1,h2,h3⟩:=(mR x _ N).1 hm;have:t=i:=by omega
  subst this;exact ⟨h1,h3⟩
 ·rintro ⟨h1,h2⟩;have hm:(i:Int) ∈ dr x N:=(mR x _ N).2 ⟨i,h1,rfl,h2⟩;obtain ⟨j,Z,e⟩:=List.mem_iff_getElem.1 hm;exact ⟨j,Z,by rw [aj Z,e];rfl⟩
section
variable {P M:Int} {mod:LI} {n:Nat} {L:Ll}
end
def tu (n:Nat) (Q:LI):Prop:=∀j,j<Q.length->0<=nth Q j/\nth Q j<n
theorem uD (av:OA) (E cv:Nat) (v:LI) (e:OA) (no co:Nat) (Q:LI) (w:World) (D:Ints w av E v) (H:Ints w e no Q) (hQ:tu E Q) (hno:no<=1000000) :
  Calls prog 59 #[.slice av E cv,.slice e no co] w (cQ w (bR Q v)):=by
 have K:=Z5 H.len;have hplq:=H.pl;have hplv:=D.pl;have j:=H.max;have A:=D.max;have HQ:=Z5 hQ;have F:(bR Q v).length=no:=by rw [bR,Lc];exact K
 have U:=Z5 F;unfold maxLen at j A;clear hQ F;go_enter func59,ntmps59;go_wp2_with (at_make;refine bV rfl _ _ 22 3 rfl (cG 0) 8 underlying22 bh rfl no rfl rfl (by omega) (H.max) ?_;intro a1 w1 Z Y hge X);go_loopw [6] (λiv wr=>∃k:Nat,k<=no/\iv = cG k /\
   wr.ownsRow w.heap.size 3 1 (.slice a1 no no) no ((du ((bR Q v).take k) k no).map (Value.int .i64))/\PY w wr)
  (λi _=>no - (intOf i).toNat)
 case atStart=>exact ⟨0,K0 _,rfl,by simpa [du] using Z,Y⟩
 case round =>
  clear Z Y
  obtain ⟨k,hk,rfl,Z,Y⟩:=hrel
  obtain ⟨hints,V⟩:=Pn Z
  have hpl1:=hints.pl
  by_cases X:k<no
  ·have cq:=(H.af Y).cell k X
   have hb:=HQ k (by rw [K.out];exact X)
   obtain ⟨z,r⟩:∃z:Nat,nth Q k=z:=⟨(nth Q k).toNat,by omega⟩
   have B:z<E:=by omega
   have cz:=(D.af Y).cell z B
   have hf:=(V (by omega)).2 k X
   have hc2:=hints.cell k X
   have hB:=(V (by omega)).1
   have Hv:Hid (nth (bR Q v) k=nth v z):=by show _=_;rw [pA Q v (by rw [K.out];exact X),r,KV]
   rw [r] at cq
   clear r hb
   go_wp2_with fail
   go_roundw
   case rel =>
    refine ⟨k+1,by omega,by go_num,?_,Y.setCell hB _⟩
    have h:=bA Z k X (cG (nth v z))
    rw [<- Lq,fF _ _ _ _ (by rw [Lt,U.out];omega) X] at h
    rw [K4 (by rw [U.out];omega),<- aj,Hv.out]
    exact h
   case measure=>simp [intOf] <;> omega
  ·obtain rfl:k=no:=by omega
   have S:du ((bR Q v).take k) k k=bR Q v:=by rw [gn,K5 (by rw [U.out];exact KT _)]
   rw [S] at Z
   clear S
   go_wp2_with fail
   go_ret
   exact ⟨a1,k,by rw [U.out];rfl,by rw [U.out];exact Z,Y⟩
theorem ox (f:LI->LI) (L:Ll) {k:Nat} (Z:k<L.length):ai (L.map f) k=f (ai L k):=by rw [aE (by simpa using Z),aE Z];simp
section
open Go.RowKit
end
theorem rD (x:Nat):∀k,k<=64->(dr x k).length+(dr (rQ x) k).length=k
 | 0,_=>rfl
 | k+1,X=>by have V:=rD x k (by omega);have Z:=uH x k (by omega);rw [dr,dr,Z];cases Y:x.testBit k <;> simp <;> omega
theorem DL (a:OA) (n c:Nat) (l:LI) (v:Int) (w:World) (h:Ints w a n l) :
  Calls prog 238 #[.slice a n c,cG v] w λe w'=>∃z:Int,e = .returned (cG z)/\(0<=z ↔ v ∈ l)/\w'=w:=by
 have H:=Z5 h.len;have E:=h.pl;have Z:=h.max;unfold maxLen at Z;go_enter func238,ntmps238;go_wp2_with fail;go_loopw [8] (λF wr=>∃k:Nat,k<=n/\F = cG k/\Hid (∀j,j<k->nth l j ≠ v)/\wr=w) (λi _=>n - (intOf i).toNat);case atStart=>exact ⟨0,K0 _,rfl,λj U=>by omega,rfl⟩
 case round =>
  obtain ⟨k,D,rfl,X,rfl⟩:=hrel
  by_cases Y:k<n
  ·have c1:=h.cell k Y
   by_cases he:nth l k=v
   ·have V:(v == nth l k)=true:=by rw [he];simp
    have S:Hid (v ∈ l):=by show v ∈ l;rw [<- he];exact aG (by rw [H.out];exact Y)
    clear he
    go_wp2_with fail
    go_ret
    exact ⟨k,rfl,⟨λ_=>S.out,λ_=>M3 _⟩,rfl⟩
   ·have V:(v == nth l k)=false:=by simpa using λe=>he e.symm
    have K:Hid (∀j,j<k+1->nth l j ≠ v):=λj U=>by
     by_cases e:j=k
     ·subst e;exact he
     ·exact X j (by omega)
    clear he
    go_wp2_with fail
    go_roundw
    case rel=>exact ⟨k+1,by omega,by go_num,K,by simp⟩
    case measure=>simp [intOf] <;> omega
  ·obtain rfl:k=n:=by omega
   have S:Hid (¬ v ∈ l):=λhm=>by obtain ⟨j,U,e⟩:=List.mem_iff_getElem.1 hm;rw [<- aj U] at e;exact X j (by have:=H.out;omega) e
   go_wp2_with fail
   go_ret
   exact ⟨-1,rfl,⟨λh=>absurd h (by omega),λh=>absurd h S.out⟩,rfl⟩
theorem dg (a:OA) (n c:Nat) (l:LI) (v:Int) (w:World) (h:Ints w a n l) :
  Calls prog 189 #[.slice a n c,cG v] w λe w'=>e = .returned (.bool (decide (v ∈ l)))/\w'=w:=by
 go_enter func189,ntmps189;go_wp2_with fail;refine (DL a n c l v w h).mono ?_;rintro e V ⟨z,rfl,Z,rfl⟩;by_cases h0:0<=z
 ·have Y:Hid (decide (v ∈ l)=true):=by show _=_;simpa using Z.1 h0
  have X:decide (0<=z)=true:=by simpa using h0
  clear Z h0;go_wp2_with fail;go_ret;exact ⟨aX Y.symm,rfl⟩
 ·have Y:Hid (decide (v ∈ l)=false):=by show _=_;simpa using λh=>h0 (Z.2 h)
  have X:decide (0<=z)=false:=by simpa using h0
  clear Z h0;go_wp2_with fail;go_ret;exact ⟨aX Y.symm,rfl⟩
def aU (G:cZ) (L:Ll) (m:Nat):Ll:=bZ G (dk G.ops m (bZ G L m) (bq G L m) m) m
def qH (G:cZ) (L:Ll) (m:Nat) (w:World) (e:Ending) (w':World):Prop :=
 ∃a c,e = .returned (.tuple #[.agg #[cG m,.slice a (aU G L m).length c],cG 0])/\cF w.heap.size w' a (aU G L m).length (aU G L m)/\PY w w'
theorem wz (P:LI):∀k,(eX P k).length<=k
 | 0=>KT _
 | k+1=>by have:=wz P k;rw [eX];split <;> simp <;> omega
theorem A6 (P M:Int) (am:OA) (mn cm:Nat) (mod:LI) (m:Nat) (a:OA) (n c:Nat) (L:Ll) (w:World) (hmod:Ints w am mn mod) (hi:bw w a n L) (hE:aI P M mod m L=0) :
  Calls prog 133 #[.agg #[cG P,cG M,.slice am mn cm],.agg #[cG m,.slice a n c]] w (qH (ah P M.toNat mod) L m w):=by
 have Hlen:=Z5 hi.len;obtain ⟨N',e,hm1,hm64,F,hR⟩:=aZ hE;obtain rfl:m=N':=by omega
 have hL256:=(di hE).choose_spec.2.2.2.1;have hn:n<=256:=by rw [<- hi.len];exact hL256
 obtain ⟨h5,h6⟩:=eJ (aL hE).2.2.2;obtain ⟨hfB,h8⟩:=nc h5;have HR:=Z5 hR;have HF:=Z5 F;clear hE h5 h6 e hL256;go_enter func133,ntmps133;go_wp2_with fail;obtain ⟨W,hW⟩:∃W:World,W=((((w.alloc (.cells #[cG P,cG M,.slice am mn cm] 24)).alloc (.cells #[cG m,.slice a n c] 94)).alloc (.cells #[cG 0,ds] 94)).alloc (.cells #[cG m,.slice a n c] 94)):=⟨_,rfl⟩
 rw [<- hW];have hbW:PY w W:=by rw [hW];exact ((((KU _ _).alloc (KT _) _).alloc (by simp) _).alloc (by simp;omega) _).alloc (by simp;omega) _
 have hsW:W.heap.size=w.heap.size+4:=by rw [hW];simp
 have q1:W.cell? ⟨w.heap.size+1,0,none⟩=some (cG m)/\W.cell? ⟨w.heap.size+1,1,none⟩=some (.slice a n c):=by rw [hW];exact ⟨br (br (aF _ _ _ (by simp) 0) _) _,br (br (aF _ _ _ (by simp) 1) _) _⟩
 have q2:W.cell? ⟨w.heap.size+1+1,0,none⟩=some (cG 0)/\W.cell? ⟨w.heap.size+1+1,1,none⟩=some ds/\W.frozen? ⟨w.heap.size+1+1,0,none⟩=false/\W.frozen? ⟨w.heap.size+1+1,1,none⟩=false:=by rw [hW];exact ⟨br (aF _ _ _ (by simp) 0) _,br (aF _ _ _ (by simp) 1) _,dP (by simp) (fN _ _ _ (by simp) 0) _,dP (by simp) (fN _ _ _ (by simp) 1) _⟩
 have q3:W.cell? ⟨w.heap.size+1+1+1,0,none⟩=some (cG m)/\W.cell? ⟨w.heap.size+1+1+1,1,none⟩=some (.slice a n c):=by rw [hW];exact ⟨aF _ _ _ (by simp) 0,aF _ _ _ (by simp) 1⟩
 have hiW:=hi.af hbW;have hMs:DY W (some ⟨w.heap.size+1+1+1,0,none⟩) 1 [((m:Int),L)]:=⟨rfl,λ_=>rfl,by unfold maxLen;omega,λi hi=>by
  have:i=0:=by simp at hi;omega
  subst this;exact ⟨a,n,c,by simpa using q3.1,by simpa using q3.2,hiW⟩⟩
 have HsW:=Z5 hsW;clear hW hsW;refine (yG P M am mn cm mod _ 1 1 _ W (hmod.af hbW) hMs).mono ?_;rintro e w1 ⟨hb1,hcase⟩;have hbw1:=Pm hbW hb1;have hq:∀V,PY W V->V.cell? ⟨w.heap.size+1,0,none⟩=some (cG m)/\V.cell? ⟨w.heap.size+1,1,none⟩=some (.slice a n c)/\V.cell? ⟨w.heap.size+1+1,0,none⟩=some (cG 0)/\V.cell? ⟨w.heap.size+1+1,1,none⟩=some ds/\V.frozen? ⟨w.heap.size+1+1,0,none⟩=false/\V.frozen? ⟨w.heap.size+1+1,1,none⟩=false:=by intro V hV;have hs:=HsW.out;exact ⟨aB hV q1.1,aB hV q1.2,aB hV q2.1,aB hV q2.2.1,(hV.frozen (p:=⟨w.heap.size+1+1,0,none⟩) (by simp [hs])).trans q2.2.2.1,(hV.frozen (p:=⟨w.heap.size+1+1,1,none⟩) (by simp [hs])).trans q2.2.2.2⟩
 have Hq:=Z5 hq;clear hq q1 q2 q3;rw [pK] at hcase;rcases hcase with ⟨hB,_⟩ | ⟨_,er,h0,h1,_⟩ | ⟨_,_,b,rfl,hG,hbl⟩
 ·rw [hfB] at hB;exact absurd hB (by decide)
 ·rw [h8] at h1;exact absurd h1.symm h0
 obtain ⟨r1,r2,r3,r4,r5,r6⟩:=Hq w1 hb1;have HPost:Hid (∀a c w',cF w.heap.size w' a (aU (ah P M.toNat mod) L m).length (aU (ah P M.toNat mod) L m)->PY w w'->qH (ah P M.toNat mod) L m w (.returned (.tuple #[.agg #[cG m,.slice a (aU (ah P M.toNat mod) L m).length c],cG 0])) w'):=λa c w' h1 h2=>⟨a,c,rfl,h1,h2⟩
 obtain ⟨G,hGG⟩:∃G,ah P M.toNat mod=G:=⟨_,rfl⟩
 have HGG:=Z5 hGG;rw [hGG] at hG HR HF HPost hR F;clear h8 hGG hfB;have H:=Z5 (tZ a n c m L hG (hiW.af hb1) hR (by omega) (by omega));have hRc:bt G.El m (bZ G L m):=bS F hR;obtain ⟨hPv,hLd⟩:=bU F hR;have hcl:(bZ G L m).length=(bq G L m).length:=dM G L m;have HPv:Hid (lh (bZ G L m) (bq G L m) m):=hPv;have hrws:∀k,k<=m->bt G.El m (dk G.ops m (bZ G L m) (bq G L m) k):=by
  intro k;induction k with
  | zero=>intro _ r hr;simp [dk] at hr
  | succ k ih =>
   intro hk r hr
   rw [dk] at hr
   split at hr
   ·exact ih (by omega) r hr
   ·rw [L8,LQ] at hr
    rcases hr with hr | rfl
    ·exact ih (by omega) r hr
    ·exact kq F hRc hPv hcl (by omega) _ (KT _)
 have Hrws:=Z5 hrws;have hdl:aU G L m=bZ G (dk G.ops m (bZ G L m) (bq G L m) m) m:=rfl;have Hdl:=Z5 hdl;have Hcp:Hid (∀c,c<m->∀i,i<(bq G L m).length->G.El (nth (ai (bZ G L m) i) c)):=λc hc i hi=>Ps (hRc.row (by rw [hcl];exact hi)) hc;have Hrl:Hid (∀i,i<(bq G L m).length->(ai (bZ G L m) i).length=m):=λi hi=>(hRc.row (by rw [hcl];exact hi)).1;clear hR F hPv hLd hrws hdl;go_wp2_with fail;refine H.mono ?_;rintro e w2 ⟨a2,c2,ap,cp,rfl,hM2,hp2,hb2⟩;have Hkp:Hid (∀c i,kerTo G.ops m (bZ G L m) (bq G L m) c (i+1)=(kerTo G.ops m (bZ G L m) (bq G L m) c i).set (nth (bq G L m) i).toNat (G.neg (nth (ai (bZ G L m) i) c))):=λc i=>rfl;have Hk0:Hid (∀c,kerTo G.ops m (bZ G L m) (bq G L m) c 0=(List.replicate m 0).set c 1):=λc=>rfl;have Hplt:Hid (∀j,j<(bq G L m).length->0<=nth (bq G L m) j/\nth (bq G L m) j<m):=HPv.lt;obtain ⟨R,hRR⟩:∃R,bZ G L m=R:=⟨_,rfl⟩
 obtain ⟨Z,hPP⟩:∃Z,bq G L m=Z:=⟨_,rfl⟩
 rw [hRR,hPP] at Hrws Hdl Hcp Hkp Hk0 Hrl;rw [hPP] at Hplt hp2 hM2 hcl;rw [hRR] at hM2 hcl;rw [hPP];clear hRR hPP HPv H;obtain ⟨t,ht⟩:∃t,Z.length=t:=⟨_,rfl⟩
 have Ht:=Z5 ht;rw [ht] at hM2 hp2 Hcp Hplt hcl Hrl;rw [ht];have hMM:=hM2.iZ;have hII:=hp2.ints;have hplP:=hII.pl;have hplR:=hMM.pl;have hbw2:=Pm hbw1 hb2;have K:=Pm hb1 hb2;have hG2:=hG.af hb2;have hmaxP:=hII.max;unfold maxLen at hmaxP;obtain ⟨z1,z2,z3,z4,z5,z6⟩:=Hq w2 K;clear ht hM2 hp2 hG r1 r2 r3 r4 r5 r6;go_wp2_with fail;go_loopw [10,37] (λov iv wr=>∃(k:Nat) (a1:OA) (c1:Nat),k<=m/\iv = cG k/\ov = .slice a1 (eX Z k).length c1/\(∃Rr,aO wr w2.heap.size a1 (eX Z k).length c1 Rr (dk G.ops m R Z k))/\PY w2 wr) (λ_ iv _=>m - (intOf iv).toNat);case atStart=>exact ⟨0,none,0,K0 _,rfl,rfl,⟨[],aO.Gb w2 w2.heap.size⟩,KU _ _⟩
 case round =>
  clear z1 z2 z3 z4 z5 z6
  obtain ⟨k,a1,c1,hk,rfl,rfl,⟨Rr,hO⟩,S⟩:=hrel
  have hnk:=wz Z k
  by_cases hlt:k<m
  ·have Y:=dg ap t cp Z k wr (hII.af S)
   obtain ⟨z1,_,_,_,_,_⟩:=Hq wr (Pm K S)
   by_cases U:(k:Int) ∈ Z
   ·have hN:Hid (eX Z (k+1)=eX Z k):=by show _=_;rw [eX,KX U]
    have hKk:Hid (dk G.ops m R Z (k+1)=dk G.ops m R Z k):=by show _=_;rw [dk,KX U]
    rw [show decide ((k:Int) ∈ Z)=true by simpa using U] at Y
    have A:=Z5 Y
    clear U Y
    go_wp2_with fail
    refine A.mono ?_
    rintro e w3 ⟨rfl,rfl⟩
    go_wp2_with fail
    go_roundw
    case rel=>exact ⟨k+1,a1,c1,by omega,by go_num,by rw [hN.out],⟨Rr,by rw [hN.out,hKk.out];exact hO⟩,S⟩
    case measure=>simp [intOf] <;> omega
   ·have hN:Hid (eX Z (k+1)=eX Z k ++ [k]):=by show _=_;rw [eX,KY U]
    have hKk:Hid (dk G.ops m R Z (k+1)=dk G.ops m R Z k ++ [kerTo G.ops m R Z k t]):=by show _=_;rw [dk,KY U,Ht.out]
    rw [show decide ((k:Int) ∈ Z)=false by simpa using U] at Y
    have A:=Z5 Y
    clear U Y
    go_wp2_with fail
    refine A.mono ?_
    rintro e w3 ⟨rfl,rfl⟩
    go_wp2_with (at_make;refine bV rfl _ _ 22 3 rfl (cG 0) 8 underlying22 bh rfl m rfl rfl (by omega) (by unfold maxLen;omega) ?_;intro a5 w5 B hbel5 hge5 hlt5;obtain ⟨hi5,hm5⟩:=Pn (l:=List.replicate m 0) (by simpa using B);have hc5:=hi5.cell k hlt;have hf5:=(hm5 (by omega)).2 k hlt;have hpl5:=hi5.pl)
    have hx0:=bA B k hlt (cG 1)
    have hx0':(w5.setCell ⟨ablk a5,aJ a5+k,none⟩ (cG 1)).ownsRow w3.heap.size 3 1 (.slice a5 m m) m ((kerTo G.ops m R Z k 0).map (Value.int .i64)):=by rw [Hk0.out,Lq,Mv];exact hx0
    have hbx0:=hbel5.setCell (p:=⟨ablk a5,aJ a5+k,none⟩) (hm5 (by omega)).1 (cG 1)
    clear hx0 B hbel5 hge5 hlt5 hi5 hm5 hc5 hf5 z1
    go_loopw [51] (λiv wx=>∃i:Nat,i<=t/\iv = cG i/\wx.ownsRow w3.heap.size 3 1 (.slice a5 m m) m ((kerTo G.ops m R Z k i).map (Value.int .i64))/\PY w3 wx) (λiv _=>t - (intOf iv).toNat)
    case atStart=>exact ⟨0,K0 _,rfl,hx0',hbx0⟩
    case round =>
     clear hx0' hbx0
     obtain ⟨i,hi',rfl,E,hbx⟩:=hrel
     by_cases hli:i<t
     ·have hb2x:=Pm S hbx
      have cpi:=(hII.af hb2x).cell i hli
      have hpb:=Hplt i hli
      obtain ⟨z,hz⟩:∃z:Nat,nth Z i=z:=⟨(nth Z i).toNat,by omega⟩
      have hzm:z<m:=by omega
      obtain ⟨ra,rn,rc,hcell,hrow⟩:=(hMM.af hb2x).cell i hli
      have hrn:rn=m:=by rw [<- hrow.len];exact Hrl i hli
      subst hrn
      have ck:=hrow.cell k hlt
      have hpr:=hrow.pl
      have hel:=Hcp k hlt i hli
      have hst:kerTo G.ops rn R Z k (i+1)=(kerTo G.ops rn R Z k i).set z (G.neg (nth (ai R i) k)):=by rw [Hkp.out,hz,KV]
      have Hst:=Z5 hst
      obtain ⟨x9,hx9⟩:∃x,nth (ai R i) k=x:=⟨_,rfl⟩
      rw [hx9] at ck hel Hst
      have Hng:=Z5 (IT x9 (hG2.af hb2x) hel)
      rw [hz] at cpi
      obtain ⟨hints,hmine⟩:=Pn E
      have hpl5':=hints.pl
      have cz:=hints.cell z hzm
      have fz:=(hmine (by omega)).2 z hzm
      have hB:=(hmine (by omega)).1
      clear hz hpb hst hx9 hel
      go_wp2_with fail
      refine Hng.mono ?_
      rintro e w6 ⟨nd,rfl,rfl⟩
      go_wp2_with fail
      go_roundw
      case rel =>
       have h:=bA (w:=wr.drewN nd) E z hzm (cG (G.neg x9))
       rw [<- Lq,<- Hst.out] at h
       exact ⟨i+1,by omega,by go_num,h,(below_drewN hbx nd).setCell hB _⟩
      case measure=>simp [intOf] <;> omega
     ·obtain rfl:i=t:=by omega
      obtain ⟨X,hX⟩:∃X,kerTo G.ops m R Z k i=X:=⟨_,rfl⟩
      have hXl:X.length=m:=by rw [<- hX];exact gy _ _ _ _ _ _
      rw [hX] at E hKk
      have HXl:=Z5 hXl
      have hO3:=hO.af (Pm hbx (an wr (.cells #[.slice a5 m m] 22)))
      have hsz:=S.size
      have hsx:=hbx.size
      have hs3:w2.heap.size<=(wr.alloc (.cells #[.slice a5 m m] 22)).heap.size:=by simp;omega
      have hcn:=bm wr (.slice a5 m m) 22
      clear hX hXl
      go_wp2_with (at_builtin;refine aS rfl _ _ 25 22 rfl ds 24 underlying25 dw rfl w2.heap.size a1 (eX Z k).length c1 _ rfl hO3.own ⟨wr.heap.size,0,none⟩ 1 (.slice a5 m m) rfl hcn rfl (by omega) (by unfold maxLen;omega) hs3 ?_;intro a7 c7 w7 hown7 hgr7 hap7)
      go_roundw
      case rel =>
       have hb4:PY w3 (wr.alloc (.cells #[.slice a5 m m] 22)):=Pm hbx (an _ _)
       have hown4:(wr.alloc (.cells #[.slice a5 m m] 22)).ownsRow w2.heap.size 3 1 (.slice a5 X.length m) X.length (X.map (Value.int .i64)):=by rw [HXl.out];exact aY (bf E (an _ _)) hsz
       have hra:a5 ≠ none->¬ bQ a1 Rr (ablk a5):=λh0 hI=>by have h1:=(aT E h0).1;have h2:=(hO.lt _ hI).2;omega
       have hP:=Py hO3 hown4 hra (by rw [HXl.out];exact hown7) hgr7 hap7
       have hb5:PY w2 w7:=Pp (Pm S hb4) hO3.own hgr7 (KT _) (K9 hsz hb4.size)
       exact ⟨k+1,a7,c7,by omega,by go_num,by rw [hN.out];simp,⟨_,by rw [hN.out,hKk.out,K6];exact hP⟩,hb5⟩
      case measure=>simp [intOf] <;> omega
  ·obtain rfl:k=m:=by omega
   have hbw:=Pm hbw2 S
   have hcan:=tZ a1 (eX Z k).length c1 k (dk G.ops k R Z k) (hG2.af S) hO.iZ (Hrws k (KT _)) (by omega) (by omega)
   have H:=Z5 hcan
   obtain ⟨z1,z2,z3,z4,z5,z6⟩:=Hq wr (Pm K S)
   clear hcan hO
   go_wp2_with fail
   refine H.mono ?_
   rintro e w8 ⟨a8,c8,ap8,cp8,rfl,hM8,hp8,hb8⟩
   have D:(bq G (dk G.ops k R Z k) k).length=(aU G L k).length:=by rw [Hdl.out,dM]
   have hM8':cF wr.heap.size w8 a8 (aU G L k).length (aU G L k):=by rw [<- D,Hdl.out];exact hM8
   rw [D]
   have hbw8:=Pm hbw hb8
   have hF:=HPost a8 c8 ((w8.setCell ⟨w.heap.size+1+1,0,none⟩ (cG k)).setCell ⟨w.heap.size+1+1,1,none⟩ (.slice a8 (aU G L k).length c8)) (by have hs:=HsW.out;have hs1:=(Pm K S).size;exact ((hM8'.setCell (p:=⟨w.heap.size+1+1,0,none⟩) (by simp;omega) _).setCell (p:=⟨w.heap.size+1+1,1,none⟩) (by simp;omega) _).mono (by omega)) ((hbw8.setCell (by simp;omega) _).setCell (by simp;omega) _)
   have HF2:=Z5 hF
   clear hF hM8 hp8 hM8' H z1 z2 z3 z4 z5 z6 D
   obtain ⟨z1,z2,z3,z4,z5,z6⟩:=Hq w8 (Pm (Pm K S) hb8)
   generalize (aU G L k).length=q at *
   go_wp2_with fail
   exact bodyPost_ret (v:=.tuple #[.agg #[cG k,.slice a8 q c8],cG 0]) (by simp [results,results133,go_sem,z3,z4]) rfl (by rw [HGG.out];exact HF2)
theorem jH {P M:Int} {mod:LI} (h:bs P M mod=true):mod.length<=8:=by
 unfold bs cH at h;simp only [Lm,bne_iff_ne,ne_eq] at h;obtain ⟨⟨⟨h1,_⟩,h3⟩,_⟩:=h;have h2:=gP h1;by_cases Z:M=1
 ·rw [KX Z] at h3;have:mod.length=0:=by simpa using h3
  omega
 ·rw [KY Z] at h3;simp only [Lm,LM] at h3;omega
theorem gS {P M:Int} {mod:LI} {m:Nat} {L:Ll} (hE:aI P M mod m L=0) :
  aI P M mod m (aU (ah P M.toNat mod) L m)=0/\∀x,JX (ah P M.toNat mod).ops (aU (ah P M.toNat mod) L m) m x=JX (ah P M.toNat mod).ops L m x:=by
 obtain ⟨N',e,hm1,B,F,V⟩:=aZ hE;obtain rfl:m=N':=by omega
 obtain ⟨j,h1,h64,h4⟩:=aL hE;obtain ⟨h5,h6⟩:=eJ h4;rw [KV] at h6;have U:bI (ah P M.toNat mod).ops m L=L:=h6;obtain ⟨S,A⟩:=bU F V;have K:=cI F V;rw [U] at S A K;have hK:=fY F V S K;have hdl:aU (ah P M.toNat mod) L m=bI (ah P M.toNat mod).ops m (dk (ah P M.toNat mod).ops m L (aD (ah P M.toNat mod).ops L m).2 m):=by unfold aU bq;rw [h6];rfl
 obtain ⟨k1,k2⟩:=Ds F V S A K;have Z:=bS F hK;have Y:=py F hK;have E:=qF F hK;have H:=qF F V;rw [U] at H;rw [<- hdl] at k1 k2 Z Y E;generalize aU (ah P M.toNat mod) L m=D at *;constructor
 ·have hq:((ah P M.toNat mod).q:Int)=aK P M\/True:=.inr trivial;have hm:fD (ah P M.toNat mod).q m D=0:=by
   unfold fD;rw [KY (by omega)];have hsh:jk (m:Int) D=true:=by unfold jk;rw [LR];intro r hr;have:=(Z r hr).1;simp;omega
   rw [KY (by rw [hsh];decide),KX];rw [LR];intro r hr;unfold ez iQ;rw [LR];intro x hx;have:=(Z r hr).2 x hx;unfold cZ.El at this;simp;exact this
  have hf:dE P M mod m D=0:=by unfold dE;rw [KX j];exact hm
  have hsp:dD P M mod m D=0:=by unfold dD;rw [KX hf,KV,KX];exact Y
  have hle:i7 (m:Int)=0:=qN (by omega) (by omega);unfold aI;rw [KX j,KX hle];exact hsp
 ·intro x;have hs:=pP F Z (dr x m);have hc:=pP F Z (dr (rQ x) m);have gs:=pP F V (dr x m);have gc:=pP F V (dr (rQ x) m);have hb:=rD x m B;have X:∀Q:LI,∀k,(j9 Q k).length=k:=λQ k=>by
   induction k with
   | zero=>rfl
   | succ k ih=>rw [j9,LB,ih]
  have hS:∀i ∈ j9 (dr x m) (dr x m).length,i<m:=λi hi=>((kX x m i).1 hi).1;have hC:∀i ∈ j9 (dr (rQ x) m) (dr (rQ x) m).length,i<m:=λi hi=>((kX (rQ x) m i).1 hi).1;have z:∀p,p<m->p ∈ j9 (dr x m) (dr x m).length\/p ∈ j9 (dr (rQ x) m) (dr (rQ x) m).length:=λp hp=>by
   rw [kX,kX,uH _ _ (by omega)];cases hx:x.testBit p
   ·exact .inr ⟨hp,rfl⟩
   ·exact .inl ⟨hp,rfl⟩
  have r1:=Ci F V Z k2 k1 H E hS hC z (by rw [X,X];exact hb) gc hs;have r2:=Ci F V Z k2 k1 H E hC hS (λp hp=>(z p hp).symm) (by rw [X,X];omega) gs hc;rw [X] at r1 r2;unfold JX;omega
theorem yO {l:LI} {x:Int} {i:Nat} (h:i<l.length):nth (l ++ [x]) i=nth l i:=by simp only [nth,KZ];rw [Lg h]
theorem EM (l:LI) (x:Int):nth (l ++ [x]) l.length=x:=by simp [nth]
theorem yu (l:LI) (x:Int):∀k,k<=l.length->j9 (l ++ [x]) k=j9 l k
 | 0,_=>rfl
 | k+1,h=>by rw [j9,j9,yO (by omega),yu l x k (by omega)]
theorem vV (l:LI) (x:Int):j9 (l ++ [x]) (l ++ [x]).length=x.toNat :: j9 l l.length:=by rw [K6,Lo,j9,EM,yu l x l.length (KT _)]
def gA (Q:LI):LN:=j9 Q Q.length
theorem nD (l:LI) (x:Int):gA (l ++ [x])=x.toNat :: gA l:=vV l x
theorem pM {Q:LI} {x:Nat}:x ∈ gA Q ↔ ∃y ∈ Q,y.toNat=x:=by
 unfold gA;rw [fM];constructor
 ·rintro ⟨j,Z,e⟩;exact ⟨nth Q j,aG Z,e⟩
 ·rintro ⟨y,Y,e⟩;obtain ⟨j,Z,rfl⟩:=List.mem_iff_getElem.1 Y;exact ⟨j,Z,by rw [aj Z];exact e⟩
def iA (Z:LI->Nat) (Q:LI) (most:Nat):Nat->LI
 | 0=>[]
 | k+1=>if (iA Z Q most k).length<most/\Z (iA Z Q most k ++ [nth Q k])=(iA Z Q most k).length+1 then iA Z Q most k ++ [nth Q k] else iA Z Q most k
theorem uX {Z:LI->Nat} {Q:LI} {most:Nat}:∀ {j k:Nat},k<=j->most<=(iA Z Q most k).length->iA Z Q most j=iA Z Q most k
 | 0,k,h,_=>by
   obtain rfl:k=0:=by omega
   rfl
 | j+1,k,h,h2=>by
  by_cases e:k=j+1
  ·subst e;rfl
  ·have Y:=uX (j:=j) (k:=k) (by omega) h2;rw [iA,KY (by rw [Y];omega),Y]
section
variable {O:aP} {El:Int->Prop} {m:Nat} {L:Ll}
def kC (O:aP) (L:Ll) (Q:LI):Nat:=(mE O L Q).length
theorem jR (F:bK O El) (Z:bt El m L) (Q:LI):Rk (kB O El L.length (ba L)) (gA Q) (kC O L Q):=pP F Z Q
theorem F1 (F:bK O El) (U:bt El m L) (Q:LI):∀k,Rk (kB O El L.length (ba L)) (gA (grTo O L Q k).2) (grTo O L Q k).2.length /\
  (∀x ∈ gA (grTo O L Q k).2,x ∈ j9 Q k)/\(∀x ∈ j9 Q k,kB O El L.length (ba L) (gA (grTo O L Q k).2) x)
 | 0=>⟨.nil,λx Z=>by simp [gA,grTo,j9] at Z,λx Z=>by simp [j9] at Z⟩
 | k+1=>by
  obtain ⟨h1,h2,h3⟩:=F1 F U Q k;obtain ⟨g1,g2,_⟩:=vg F U Q k;have K:=gg F U;have D:=ch U F.zero;have H:=jG F g1 (D (nth Q k).toNat);have X:kB O El L.length (ba L) (j9 Q k) (nth Q k).toNat ↔ (grTo O L Q k).1.eH O (ba L (nth Q k).toNat)=false:=by rw [H];exact ⟨λh V Y h0=>h V Y ((g2 V Y).2 h0),λh V Y h0=>h V Y ((g2 V Y).1 h0)⟩
  rw [grTo];by_cases S:(grTo O L Q k).1.eH O (ba L (nth Q k).toNat)=true
  ·simp only [KX S];rw [nD,K6,Lo];refine ⟨.ind _ (λh=>?_) h1,λx Z=>?_,λx Z=>?_⟩
   ·have:=X.1 (K.sub h2 h);rw [S] at this;exact absurd this (by decide)
   ·rw [j9];rcases List.mem_cons.1 Z with rfl | Z
    ·exact Nq ..
    ·exact LF _ (h2 x Z)
   ·rw [j9] at Z;rcases List.mem_cons.1 Z with rfl | Z
    ·exact K.mem _ _ (Nq ..)
    ·exact K.sub (λy E=>LF _ E) (h3 x Z)
  ·simp only [KY S];have hf:(grTo O L Q k).1.eH O (ba L (nth Q k).toNat)=false:=by simpa using S
   refine ⟨h1,λx Z=>?_,λx Z=>?_⟩
   ·rw [j9];exact LF _ (h2 x Z)
   ·rw [j9] at Z;rcases List.mem_cons.1 Z with rfl | Z
    ·exact K.mono _ _ h3 _ (X.2 hf)
    ·exact h3 x Z
theorem FA (F:bK O El) (X:bt El m L) (Q:LI) (k:Nat) :
  (grTo O L Q k).1.eH O (ba L (nth Q k).toNat)=true ↔ kC O L ((grTo O L Q k).2 ++ [nth Q k])=(grTo O L Q k).2.length+1:=by
 obtain ⟨h1,h2,h3⟩:=F1 F X Q k;obtain ⟨g1,g2,_⟩:=vg F X Q k;have E:=gg F X;have D:=ch X F.zero;have H:=jG F g1 (D (nth Q k).toNat);have K:kB O El L.length (ba L) (j9 Q k) (nth Q k).toNat ↔ (grTo O L Q k).1.eH O (ba L (nth Q k).toNat)=false:=by rw [H];exact ⟨λh V Z h0=>h V Z ((g2 V Z).2 h0),λh V Z h0=>h V Z ((g2 V Z).1 h0)⟩
 have U:=jR F X ((grTo O L Q k).2 ++ [nth Q k]);rw [nD] at U;have Y:kB O El L.length (ba L) (gA (grTo O L Q k).2) (nth Q k).toNat ↔ (grTo O L Q k).1.eH O (ba L (nth Q k).toNat)=false:=by rw [<- K];exact ⟨λh=>E.sub h2 h,λh=>E.mono _ _ h3 _ h⟩
 constructor
 ·intro S;refine U.uniq (.ind _ (λh=>?_) h1);have:=Y.1 h;rw [S] at this;exact absurd this (by decide)
 ·intro he;apply Lr;intro S;have:=U.uniq (.dep _ (Y.2 (by simpa using S)) h1);omega
theorem FE (F:bK O El) (Z:bt El m L) {Q Q':LI} (h:∀x ∈ gA Q,kB O El L.length (ba L) (gA Q') x):kC O L Q<=kC O L Q':=Rk.le (gg F Z) (jR F Z Q) (jR F Z Q') h
end
def frTo (b:Bool) (U:LI):Nat->LI
 | 0=>[]
 | k+1=>if decide ((k:Int) ∈ U)=b then frTo b U k ++ [(k:Int)] else frTo b U k
theorem ef {b:Bool} {U:LI} {x:Int}:∀k,x ∈ frTo b U k ↔ ∃j:Nat,j<k/\x=j/\decide ((j:Int) ∈ U)=b
 | 0=>by simp [frTo]
 | k+1=>by
  rw [frTo];by_cases h:decide ((k:Int) ∈ U)=b
  ·rw [KX h,L8,ef k,LQ];constructor
   ·rintro (⟨j,Y,e,hb⟩ | e)
    ·exact ⟨j,by omega,e,hb⟩
    ·exact ⟨k,by omega,e,h⟩
   ·rintro ⟨j,Y,e,hb⟩;by_cases Z:j=k
    ·subst Z;exact .inr e
    ·exact .inl ⟨j,by omega,e,hb⟩
  ·rw [KY h,ef k];constructor
   ·rintro ⟨j,Y,e,hb⟩;exact ⟨j,by omega,e,hb⟩
   ·rintro ⟨j,Y,e,hb⟩;by_cases Z:j=k
    ·subst Z;exact absurd hb h
    ·exact ⟨j,by omega,e,hb⟩
theorem jn (b:Bool) (U:LI):∀k,(frTo b U k).length<=k
 | 0=>KT _
 | k+1=>by have:=jn b U k;rw [frTo];split <;> simp <;> omega
theorem ry (O:aP) (L:Ll) (Q:LI):∀k,k<=Q.length->∀x ∈ (grTo O L Q k).2,x ∈ Q
 | 0,_,x,Z=>by simp [grTo] at Z
 | k+1,Y,x,Z=>by
  rw [grTo] at Z;split at Z
  ·rcases List.mem_append.1 Z with Z | Z
   ·exact ry O L Q k (by omega) x Z
   ·rw [LQ] at Z;rw [Z];exact aG (by omega)
  ·exact ry O L Q k (by omega) x Z
def tD (O:aP) (L:Ll) (Q:LI) (most:Nat):LI:=(mE O L Q).take most
def gU (m:Nat) (s z:LI):LI:=cO z ++ frTo false (s ++ z) m
structure js where
 M:Nat
 W:Nat
 cos:Bool
 y:LI
def lP (m:Nat) (s t:LI):Bool:=fP m t && t.all λx=>decide (¬ x ∈ s)
structure LS where
 rows:Ll
 sum:LI
 top:Nat
def gz (O:aP) (v:LI) (i:Nat) (r:LI):LI :=
 if nth v i=0 then v else List.zipWith (λa y=>if y=0 then a else O.add a (O.neg (O.mul (nth v i) y))) v r
def dW (O:aP) (t i:Nat) (L:Ll):Nat->Ll
 | 0=>L
 | l+1=>if t<l then (dW O t i L l).set l (gz O (ai (dW O t i L l) l) i (ai (dW O t i L l) t)) else dW O t i L l
def iN (O:aP) (L:Ll) (t k i:Nat):Ll :=
 dW O t i ((bj L t k).set t ((ai (bj L t k) t).map (O.mul (O.inv (nth (ai (bj L t k) t) i))))) L.length
def jE (O:aP) (st:LS) (i:Nat):LS :=
 if bd st.rows i st.top=st.rows.length then st
 else ⟨iN O st.rows st.top (bd st.rows i st.top) i,gz O st.sum i (ai (iN O st.rows st.top (bd st.rows i st.top) i) st.top),st.top+1⟩
def gN (O:aP) (L:Ll) (y t:LI):Nat->LS
 | 0=>⟨L,y,0⟩
 | k+1=>jE O (gN O L y t k) (nth t k).toNat
def fS (s v:LI):Nat->Nat
 | 0=>0
 | k+1=>if nth v k ≠ 0/\¬ (k:Int) ∈ s then fS s v k+1 else fS s v k
def gk (O:aP) (L:Ll) (y s t:LI):Nat:=fS s (gN O L y t t.length).sum (gN O L y t t.length).sum.length
def dx (O:aP) (L:Ll) (m:Nat) (C:js) (s t:LI):Bool :=
 lP m s t && (decide ((mE O L t).length=t.length) &&
  if C.cos=true then decide ((mE O L (frTo false s m)).length=t.length) && decide (C.W<s.length+gk O L C.y s t) else decide (t.length=C.M))
def jL (C:js) (s z t:LI):LI:=if s.length<C.W then t.filter λx=>decide (¬ x ∈ z) else []
def kfol (F:LI->LI->Ll->Option Ll) (s:LI):LI->LI->Ll->Option Ll
 | _,[],Y=>some Y
 | z,k :: X,Y=>match F (s ++ [k]) z Y with
  | none=>none
  | some Z=>kfol F s (z ++ [k]) X Z
def folS (O:aP) (L:Ll) (m:Nat) (C:js):Nat->LI->LI->Ll->Option Ll
 | 0,s,_,Z=>match Z with
  | []=>none
  | t :: Z=>if dx O L m C s t=true then some Z else none
 | d+1,s,z,Z=>match Z with
  | []=>none
  | t :: Z=>if dx O L m C s t=true then kfol (folS O L m C d) s z (jL C s z t) Z else none
def provS (O:aP) (L:Ll) (m:Nat) (C:js) (T:Ll):Int :=
 match folS O L m C C.W [] [] T with
 | some []=>0
 | _=>13
def et (O:aP) (L:Ll) (m:Nat) (C:js) (s z:LI):LI:=cO (tD O L (gU m s z) (if C.cos=true then m else C.M))
def e9 (F:LI->LI->Ll->Int × Ll) (s:LI):LI->LI->Ll->Int × Ll
 | _,[],T=>(0,T)
 | z,k :: Z,T=>if (F (s ++ [k]) z T).1=0 then e9 F s (z ++ [k]) Z (F (s ++ [k]) z T).2 else ((F (s ++ [k]) z T).1,[])
def gH (O:aP) (L:Ll) (m:Nat) (C:js):Nat->LI->LI->Ll->Int × Ll
 | 0,s,z,T=>if dx O L m C s (et O L m C s z)=true then if T.length=65536 then (8,[]) else (0,T ++ [et O L m C s z]) else (11,[])
 | d+1,s,z,T=>if dx O L m C s (et O L m C s z)=true then if T.length=65536 then (8,[]) else e9 (gH O L m C d) s z (jL C s z (et O L m C s z)) (T ++ [et O L m C s z]) else (11,[])
def sX (O:aP) (L:Ll) (m:Nat) (C:js):Int × Ll:=gH O L m C C.W [] [] []
theorem zM (O:aP) (L:Ll) (Q:LI) {k:Nat}:∀j,k<=j->(grTo O L Q k).2 <+: (grTo O L Q j).2
 | 0,h=>by
   obtain rfl:k=0:=by omega
   exact Mt
 | j+1,h=>by
  by_cases e:k=j+1
  ·subst e;exact Mt
  ·refine (zM O L Q j (by omega)).trans ?_;rw [grTo];split
   ·exact NU _ _
   ·exact Mt
theorem EY {O:aP} {L:Ll} {Q:LI} {k most:Nat} (Y:k<=Q.length) (h:(grTo O L Q k).2.length=most):tD O L Q most=(grTo O L Q k).2:=by obtain ⟨l,Z⟩:=zM O L Q Q.length Y;rw [tD,mE,<- Z,<- h,List.take_left]
theorem GO {O:aP} {L:Ll} {Q:LI} {most:Nat} (h:(grTo O L Q Q.length).2.length<=most):tD O L Q most=(grTo O L Q Q.length).2:=by rw [tD,mE,K5 h]
theorem CG (O:aP) (L:Ll) (Q:LI):∀k,(grTo O L Q k).2.length<=k
 | 0=>KT _
 | k+1=>by
  have Z:=CG O L Q k;rw [grTo];split
  ·simp;omega
  ·dsimp only;omega
theorem Bl (O:aP) (L:Ll) (Q:LI):(mE O L Q).length<=Q.length:=CG O L Q _
theorem zg {O:aP} {L:Ll} {Q:LI} {most:Nat} (h:Q.length<=most):tD O L Q most=mE O L Q :=
 K5 (K9 (Bl O L Q) h)
theorem vz {O:aP} {L:Ll} {Q:LI} {most:Nat}:∀x ∈ tD O L Q most,x ∈ Q:=λx Z =>
 ry O L Q Q.length (KT _) x (Mb Z)
theorem CJ {O:aP} {El:Int->Prop} {m:Nat} {L:Ll} (F:bK O El) (X:bt El m L) (Q:LI) (most:Nat):∀k,iA (kC O L) Q most k=(grTo O L Q k).2.take most
 | 0=>by simp [iA,grTo]
 | k+1=>by
  have U:=CJ F X Q most k;have V:=FA F X Q k;rw [iA,U,grTo];by_cases h:(grTo O L Q k).2.length<most
  ·rw [K5 (by omega)];by_cases Z:(grTo O L Q k).1.eH O (ba L (nth Q k).toNat)=true
   ·rw [KX ⟨h,V.1 Z⟩,KX Z,K5 (by simp;omega)]
   ·rw [KY λY=>Z (V.2 Y.2),KY Z,K5 (by dsimp only;omega)]
  ·rw [KY λY=>by have h2:=Y.1;rw [Lt] at h2;omega];split
   ·rw [NJ (by omega)]
   ·rfl
theorem Jl {O:aP} {El:Int->Prop} {m:Nat} {L:Ll} (F:bK O El) (Z:bt El m L) (Q:LI) (most:Nat):iA (kC O L) Q most Q.length=tD O L Q most:=CJ F Z Q most _
theorem zt (m:Nat) (s z:LI):(gU m s z).length<=z.length+m:=by unfold gU;have:=jn false (s ++ z) m;rw [K6,eE];omega
theorem nf {m:Nat} {s z:LI} {x:Int} (h:x ∈ gU m s z):x ∈ z\/(0<=x/\x<m/\¬ x ∈ s/\¬ x ∈ z):=by
 unfold gU at h;rcases List.mem_append.1 h with h | h
 ·exact .inl ((dC z).mem_iff.1 h)
 ·obtain ⟨j,Z,rfl,hd⟩:=(ef m).1 h;have:¬ (j:Int) ∈ s ++ z:=by simpa using hd
  rw [L8] at this;exact .inr ⟨by omega,by omega,λh=>this (.inl h),λh=>this (.inr h)⟩
theorem yp {m:Nat} {s t:LI} (h:lP m s t=true):fP m t=true/\∀x ∈ t,¬ x ∈ s:=by unfold lP at h;rw [Lm,LR] at h;exact ⟨h.1,λx Z=>by simpa using h.2 x Z⟩
theorem yS {O:aP} {L:Ll} {m:Nat} {C:js} {s t:LI} (h:dx O L m C s t=true):fP m t=true/\∀x ∈ t,¬ x ∈ s:=by unfold dx at h;rw [Lm] at h;exact yp h.1
theorem rE {C:js} {s z t:LI} {x:Int} (h:x ∈ jL C s z t):x ∈ t/\¬ x ∈ z/\s.length<C.W:=by
 unfold jL at h;split at h
 ·rename_i Z;rw [MQ] at h;exact ⟨h.1,by simpa using h.2,Z⟩
 ·simp at h
section
theorem eK (O:aP) (v:LI) (i:Nat) (r:LI) (h:r.length=v.length):(gz O v i r).length=v.length:=by unfold gz;split <;> simp [h]
theorem sg (O:aP) (v:LI) (i:Nat) (r:LI) (j:Nat) (h:r.length=v.length) (Z:j<v.length) (h0:nth v i ≠ 0) :
  nth (gz O v i r) j=if nth r j=0 then nth v j else O.add (nth v j) (O.neg (O.mul (nth v i) (nth r j))):=by unfold gz;rw [KY h0,aj (show j<_ by simp [h];omega),aj Z,aj (show j<r.length by omega)];simp
theorem qG {O:aP} {El:Int->Prop} (U:qC O El) {v r:LI} {i:Nat} (X:∀x ∈ v,El x) (S:∀x ∈ r,El x) (V:r.length=v.length) (hi:i<v.length):∀x ∈ gz O v i r,El x:=by
 intro x Z;by_cases h0:nth v i=0
 ·unfold gz at Z;rw [KX h0] at Z;exact X x Z
 ·obtain ⟨j,Y,rfl⟩:=List.mem_iff_getElem.1 Z;rw [eK O v i r V] at Y;have h1:=sg O v i r j V Y h0;rw [aj (show j<(gz O v i r).length by rw [eK O v i r V];exact Y)] at h1;rw [h1];have e1:El (nth v j):=X _ (aG Y);have H:El (nth r j):=S _ (aG (by omega));have K:El (nth v i):=X _ (aG hi);split
  ·exact e1
  ·exact U.add _ _ e1 (U.neg _ (U.mul _ _ K H))
variable {w:World} {b:Nat} {G:cZ}
theorem p9 (B:World) (pb:Nat) (D:OA) (cv n:Nat) (v:LI) (i:Nat) (au:OA) (cu:Nat) (u:LI) (h:dU B b G) (hb:PY B w)
  (p0:B.cell? ⟨pb,0,none⟩=some (.pointer (some ⟨b,0,none⟩)))
  (hv:w.ownsRow B.heap.size 3 1 (.slice D n cv) n (v.map (Value.int .i64))) (hu:Ints w au n u) (hap:D=none\/au=none\/ablk au ≠ ablk D)
  (A:∀x ∈ v,G.El x) (hue:∀x ∈ u,G.El x) (hin:i<n) :
  Calls prog 270 #[.pointer (some ⟨pb,0,none⟩),.slice D n cv,cG i,.slice au n cu] w
   λe w'=>e = .returned (.tuple #[])/\w'.ownsRow B.heap.size 3 1 (.slice D n cv) n ((gz G.ops v i u).map (Value.int .i64))/\db D w w':=by
 have hul:=hu.len;have z:v.length=n:=by simpa using jB hv
 have hmax:=hu.max;unfold maxLen at hmax;have hpu:=hu.pl;obtain ⟨iv0,mv0⟩:=Pn hv;have hpv:=iv0.pl;have ci:=iv0.cell i hin;have hav:0<n->D ≠ none:=λhn e=>by have:=hpv hn;rw [e] at this;cases this
 have hxe:G.El (nth v i):=A _ (aG (by omega));have Hul:=Z5 hul;have Hvl:=Z5 z;have Hav:=Z5 hav;have Hve:=Z5 A;have Hue:=Z5 hue;have HP:=Z5 (λ(V:World) (hV:PY B V)=>aB hV p0);clear hav A hue;by_cases hx:nth v i=0
 ·have Hn:Hid (gz G.ops v i u=v):=by show _=_;rw [gz,KX hx]
  have hx':(nth v i != 0)=false:=by simpa using hx
  clear hx hul z;go_enter func270,ntmps270;go_wp2_with fail;go_end0;exact ⟨rfl,by rw [Hn.out];exact hv,PD _ _⟩
 have hx':(nth v i != 0)=true:=by simpa using hx
 have Hnl:=Z5 (eK G.ops v i u (by omega));have Hnth:=Z5 (λj hj=>sg G.ops v i u j (by omega) hj hx);clear hx hul z;generalize gz G.ops v i u=N at *;go_enter func270,ntmps270;go_wp2_with fail;generalize nth v i=x at *;go_loopw [19] (λiv wr=>∃k:Nat,k<=n/\iv = cG k/\wr.ownsRow B.heap.size 3 1 (.slice D n cv) n ((gv N v k).map (Value.int .i64))/\db D w wr) (λiv _=>n - (intOf iv).toNat);case atStart=>exact ⟨0,K0 _,rfl,by rw [fC];exact hv,PD _ _⟩
 case round =>
  obtain ⟨k,hk,rfl,X,Z⟩:=hrel
  by_cases S:k<n
  ·have hiu:=Z.ints hu hap
   have cu1:=hiu.cell k S
   have E:N.length=v.length:=Hnl.out
   have K:k<v.length:=by rw [Hvl.out];exact S
   have Y:=Hnth k K
   have U:=eA N v k k E (by omega)
   rw [KY (by omega)] at U
   by_cases hz:nth u k=0
   ·rw [KX hz] at Y
    have F:=mW N v k E K Y
    have r:=Z5 F
    have hz':(nth u k != 0)=false:=by simpa using hz
    clear Y U F E K hz
    go_wp2_with fail
    go_roundw
    case rel=>exact ⟨k+1,by omega,by go_num,by rw [r.out];exact X,Z⟩
    case measure=>simp [intOf] <;> omega
   ·rw [KY hz] at Y
    have H:=fh N v k E K
    obtain ⟨hiv,hmv⟩:=Pn X
    have cv1:=hiv.cell k S
    have fv1:=(hmv (by omega)).2 k S
    rw [U] at cv1
    have elv:G.El (nth v k):=Hve _ (aG K)
    have elu:G.El (nth u k):=Hue _ (aG (by rw [Hul.out];exact S))
    have hbr:PY B wr:=L5 hb (Z.below (λha=>(aT hv ha).1) hb.size)
    have p0r:=HP wr hbr
    have hGr:dU wr b G:=h.af hbr
    have elm:∀x y,G.El (G.mul x y):=λx y=>PQ h x y
    have HG:Hid (dU wr.drew b G/\∀n,dU (wr.drewN n) b G):=⟨hGr.af (KU _ _).drew,λn=>hGr.drewN n⟩
    rw [Y] at H
    have Hset:=Z5 H
    have hz':(nth u k != 0)=true:=by simpa using hz
    clear Y U H E K hz
    go_wp2_with fail
    go_region_law ((first
     | (go_simp;go_at_call 57;((with_reducible refine (oh x (nth u k) HG.out.1 hxe elu).mono ?_);rintro e w4 ⟨m4,rfl,rfl⟩))
     | (go_simp;go_at_call 57;((with_reducible refine (oh x (nth u k) (HG.out.2 _) hxe elu).mono ?_);rintro e w4 ⟨m4,rfl,rfl⟩))
     | (go_simp;go_at_call 199;((with_reducible refine (JR (nth v k) (G.mul x (nth u k)) (HG.out.2 _) elv (elm _ _)).mono ?_);rintro e w4 ⟨m5,rfl,rfl⟩))))
    all_goals (
     go_wp2_with fail
     go_roundw
     case rel =>
      have hdr:bg wr (wr.drewN (1+m4+m5)):=⟨_,rfl⟩
      refine ⟨k+1,by omega,by go_num,?_,Z.trans ((PA hdr).trans (PF _ k _ (Hav (by omega))))⟩
      have h1:=bA (w:=wr.drewN (1+m4+m5)) X k S (cG (G.sub (nth v k) (G.mul x (nth u k))))
      rw [<- Lq,show G.sub (nth v k) (G.mul x (nth u k))=G.ops.add (nth v k) (G.ops.neg (G.ops.mul x (nth u k))) from rfl,Hset.out] at h1
      exact h1
     case measure=>simp [intOf] <;> omega)
  ·obtain rfl:k=n:=by omega
   rw [gx N v k (by rw [Hnl.out,Hvl.out]) Hvl.out] at X
   go_wp2_with fail
   go_end0
   exact ⟨rfl,X,Z⟩
end
section
theorem fI (O:aP) (t i:Nat) (L:Ll):∀l,(dW O t i L l).length=L.length
 | 0=>rfl
 | l+1=>by
  rw [dW];split
  ·rw [LZ];exact fI O t i L l
  ·exact fI O t i L l
theorem jU (O:aP) (L:Ll) (t k i:Nat):(iN O L t k i).length=L.length:=by unfold iN;rw [fI,LZ,bC]
theorem bt.KD {O:aP} {El:Int->Prop} {m:Nat} (X:qC O El) {L:Ll} {t i:Nat} (Y:bt El m L) (V:t<L.length) (hi:i<m):∀l,l<=L.length->bt El m (dW O t i L l)
 | 0,_=>Y
 | l+1,U=>by
  have Z:=bt.KD X Y V hi l (by omega);rw [dW];split
  ·have h1:=Z.row (i:=l) (by rw [fI];omega);have h2:=Z.row (i:=t) (by rw [fI];omega);exact Z.set l ⟨by rw [eK _ _ _ _ (by rw [h1.1,h2.1])];exact h1.1,qG X h1.2 h2.2 (by rw [h1.1,h2.1]) (by rw [h1.1];exact hi)⟩
  ·exact Z
theorem th (s v:LI):∀k,fS s v k<=k
 | 0=>KT _
 | k+1=>by have:=th s v k;rw [fS];split <;> omega
variable {w:World} {b:Nat} {G:cZ}
theorem AX (S:World) (A:Nat) (a:OA) (n c:Nat) (R:LA) (L:Ll) (m i l t:Nat) (Y:aO w S.heap.size a n c R L)
  (h:dU S b G) (hb:PY S w) (r:S.cell? ⟨A,0,none⟩=some (.pointer (some ⟨b,0,none⟩))) (U:l<n) (H:t<n) (D:l ≠ t) (hi:i<m) (z:bt G.El m L) (V:World) (hd:bg w V) :
  Calls prog 270 #[.pointer (some ⟨A,0,none⟩),.slice (aM R l).1 m (aM R l).2,cG i,.slice (aM R t).1 m (aM R t).2] V
   λe w'=>e = .returned (.tuple #[])/\(w'.cell? ⟨ablk a,aJ a+l,none⟩=some (.slice (aM R l).1 m (aM R l).2)/\w'.cell? ⟨ablk a,aJ a+t,none⟩=some (.slice (aM R t).1 m (aM R t).2)) /\
    aO w' S.heap.size a n c R (L.set l (gz G.ops (ai L l) i (ai L t)))/\aC w w' (bQ a R) (bQ a R):=by
 have rl:=z.row (i:=l) (by rw [Y.ll];exact U);have rt:=z.row (i:=t) (by rw [Y.ll];exact H);have cl:=Y.cell U;have ct:=Y.cell H;have ol:=Y.row l U;have it:=Y.ints H;rw [rl.1] at cl ol;rw [rt.1] at ct it;have B:(aM R l).1=none\/(aM R t).1=none\/ablk (aM R t).1 ≠ ablk (aM R l).1:=Y.sep l t U H D;refine (p9 S A _ _ m (ai L l) i _ _ (ai L t) h (hd.Ag hb) r (bf ol hd.below) (it.af hd.below) B rl.2 rt.2 hi).mono ?_;rintro e w' ⟨rfl,K,Z⟩;have E:aC w w' (bQ a R) (bQ a R):=(Pr hd.below _).trans (Z.dc (λj=>aO.kg (by rw [Y.rl];exact U) j));have X:¬ ((aM R l).1 ≠ none/\ablk a=ablk (aM R l).1):=by
  rintro ⟨h1,h2⟩;rcases Y.tq l U with h3 | h3
  ·exact h1 h3
  ·exact h3 h2.symm
 refine ⟨rfl,⟨PS (PH (Pr hd.below _) Z) cl X,PS (PH (Pr hd.below _) Z) ct X⟩,?_,E⟩;have hOr:=Y.af hd.below;have F:(gz G.ops (ai L l) i (ai L t)).length=(ai L l).length:=eK _ _ _ _ (by rw [rl.1,rt.1]);refine hOr.Jc U F (by rw [rl.1];exact K) λb hb hne=>Z.block b hb λ⟨h1,h2⟩=>?_;rcases hne with h3 | h3
 ·exact h1 h3
 ·exact h3 h2
theorem AY (S V:World) (a:OA) (n c:Nat) (R:LA) (L:Ll) (t m:Nat) (r:LI) (X:aO w S.heap.size a n c R L) (hb:PY S w) (H:t<n) (D:r.length=m)
  (E:PY w V) {a4:OA} {c4:Nat} (Z:V.ownsRow w.heap.size 3 1 (.slice a4 m c4) m (r.map (Value.int .i64))) :
  ∃K,aO (V.setCell ⟨ablk a,aJ a+t,none⟩ (.slice a4 m c4)) S.heap.size a n c K (L.set t r)/\aC w (V.setCell ⟨ablk a,aJ a+t,none⟩ (.slice a4 m c4)) (bQ a R) (bQ a K):=by
 subst D;have U:=X.af E;have Y:∀b,b<w.heap.size->eY a4 b:=λb hb=>kO Z hb;have h1:=U.setRow H (aY Z hb.size) (Y _ (X.lt _ (.inl ⟨X.ne (by omega),rfl⟩)).2) (λj B _=>by
  by_cases F:(aM R j).1=none
  ·exact .inl F
  ·exact .inr (Y _ (X.lt _ (aO.kg (by rw [X.rl];exact B) F)).2))
 have h2:=X.jS E H (r:=a4) (rc:=c4) (.slice a4 r.length c4) (λha=>.inr (aT Z ha).1);exact ⟨_,h1,h2⟩
end
theorem vs (A:Nat) (a:OA) (n c:Nat) (L:Ll) (i:Nat) (w:World) (p5:w.cell? ⟨A,5,none⟩=some (.slice a n c)) (hi:bw w a n L) (z:∀r ∈ L,i<r.length) (hn:n<=1000000) :
  Calls prog 258 #[.pointer (some ⟨A,0,none⟩),cG i] w (cQ w (ba L i)):=by
 have S:=Z5 hi.len;have hpl:=hi.pl;have HL:=Z5 z;clear z;go_enter func258,ntmps258;go_wp2_with (at_make;refine bV rfl _ _ 22 3 rfl (cG 0) 8 underlying22 bh rfl n rfl rfl (by omega) (by unfold maxLen;omega) ?_;intro a1 F Z Y hge X;have c5:F.cell? ⟨A,5,none⟩=some (.slice a n c):=aB Y p5);have B:PY w F:=Y;have H:F.ownsRow w.heap.size 3 1 (.slice a1 n n) n (List.replicate n (cG 0)):=Z;clear Z Y;go_loopw [21] (λiv wr=>∃k:Nat,k<=n/\iv = cG k /\
   wr.ownsRow w.heap.size 3 1 (.slice a1 n n) n ((du ((ba L i).take k) k n).map (Value.int .i64))/\PY w wr)
  (λi _=>n - (intOf i).toNat)
 case atStart=>exact ⟨0,K0 _,rfl,by simpa [du] using H,B⟩
 case round =>
  obtain ⟨k,hk,rfl,Z,Y⟩:=hrel
  obtain ⟨hints,V⟩:=Pn Z
  have e:=hints.pl
  by_cases X:k<n
  ·obtain ⟨ra,rn,rc,D,U⟩:=(hi.af Y).cell k X
   have K:k<L.length:=by rw [S.out];exact X
   have E:i<rn:=by rw [<- U.len,aE K];exact HL _ (Ly K)
   have ci:=U.cell i E
   have hpr:=U.pl
   have hf:=(V (by omega)).2 k X
   have hc2:=hints.cell k X
   have hB:=(V (by omega)).1
   have Hv:=Z5 (dj L i k K)
   go_wp2_with fail
   go_roundw
   case rel =>
    refine ⟨k+1,by omega,by go_num,?_,Y.setCell hB _⟩
    have h:=bA Z k X (cG (nth (ai L k) i))
    rw [<- Lq,fF _ _ _ _ (by rw [Lt,dz];omega) X] at h
    rw [K4 (by rw [dz];omega),<- aj,Hv.out]
    exact h
   case measure=>simp [intOf] <;> omega
  ·obtain rfl:k=n:=by omega
   have hl:(ba L i).length=k:=by rw [dz];exact S
   rw [gn,K5 (by omega)] at Z
   have j:=Z5 hl
   clear hl
   go_wp2_with fail
   go_ret
   exact ⟨a1,k,by rw [j.out];rfl,by rw [j.out];exact Z,Y⟩
theorem kY {w:World} {b:Nat} {G:cZ} (pb:Nat) (a:OA) (n c:Nat) (L:Ll) (m:Nat) (ao:OA) (no co:Nat) (Q:LI) (most:Nat)
  (p0:w.cell? ⟨pb,0,none⟩=some (.pointer (some ⟨b,0,none⟩))) (p5:w.cell? ⟨pb,5,none⟩=some (.slice a n c))
  (h:dU w b G) (hi:bw w a n L) (hR:bt G.El m L) (hq:Ints w ao no Q) (hQ:∀k,k<no->0<=nth Q k/\nth Q k<m) (hn:n<=1000000) (hno:no<=1000000) :
  Calls prog 231 #[.pointer (some ⟨pb,0,none⟩),.slice ao no co,cG most] w (cQ w (tD G.ops L Q most)):=by
 have Hlen:=Z5 hi.len;have HR:=Z5 hR;have HQ:=Z5 hQ;have Hql:=Z5 hq.len;have hplq:=hq.pl;have hcl:=Z5 (PL h);have HP:=Z5 (λ(V:World) (hV:PY w V)=>aB hV p5);clear hR hQ;go_enter func231,ntmps231;go_wp2_with fail;obtain ⟨V,hV⟩:∃V:World,V=w.alloc (.cells #[.pointer (some ⟨b,0,none⟩),ds,ds] 259):=⟨_,rfl⟩
 rw [<- hV];have hbV:PY w V:=by rw [hV];exact an _ _
 have hB0:sA V w.heap.size w.heap.size b none 0 [] none 0 ⟨[],[]⟩:=sA.start (KT _) (by rw [hV];exact Po _ _ _ rfl);clear hV p0 p5;go_loopw [8,19] (λqv iv wr=>∃(k:Nat) (X:OA) (cq:Nat) (out:LI) (s:BS) (ar:OA) (cr:Nat) (R:LA) (ap:OA) (cp:Nat),k<=no/\iv = cG k/\qv = .slice X out.length cq /\
   Hid (grTo G.ops L Q k=(s,out))/\sA wr w.heap.size w.heap.size b ar cr R ap cp s/\wr.ownsRow w.heap.size 3 1 (.slice X out.length cq) out.length (out.map (Value.int .i64))/\Hid (X ≠ none->¬ Am w.heap.size ar R ap (ablk X)) /\
   PY w wr/\Hid (s.Ok G.El n)/\s.rows.length<=k/\out.length<=k/\Hid (out.length<=most))
  (λ_ iv _=>no - (intOf iv).toNat)
 case atStart=>exact ⟨0,none,0,[],⟨[],[]⟩,none,0,[],none,0,K0 _,rfl,rfl,rfl,hB0,cU,λh0=>absurd rfl h0,hbV,⟨λr hr=>by simp at hr,rfl,λi hi=>by simp at hi⟩,K0 _,K0 _,K0 _⟩
 case round =>
  obtain ⟨k,X,cq,out,s,ar,cr,R,ap,cp,hk,rfl,rfl,K,hBr,hop,hdq,Y,hok,hsk,hok2,hom⟩:=hrel
  generalize wr=U at *
  by_cases hlt:k<no
  ·have cq1:=(hq.af Y).cell k hlt
   have hQk:=HQ k hlt
   obtain ⟨i,hik⟩:∃i:Nat,nth Q k=i:=⟨(nth Q k).toNat,by omega⟩
   rw [hik] at cq1 hQk
   by_cases hmo:out.length=most
   ·have Ho:Hid (tD G.ops L Q most=out):=by show _=_;have h1:=EY (O:=G.ops) (L:=L) (Q:=Q) (k:=k) (most:=most) (by rw [Hql.out];exact hk) (by rw [K.out];exact hmo);rw [h1,K.out]
    have hd:((out.length:Int) == (most:Int))=true:=by simp;omega
    clear hmo
    go_wp2_with fail
    go_ret
    exact ⟨X,cq,by rw [Ho.out];rfl,by rw [Ho.out];exact hop,Y⟩
   have hd:((out.length:Int) == (most:Int))=false:=by simp;omega
   have Hom:Hid (out.length+1<=most):=by have:=hom.out;show _<=_;omega
   have him:i<m:=by omega
   have p5:=HP U Y
   have j:=Ih HR.out him
   rw [Hlen.out] at j
   have A:grTo G.ops L Q (k+1)=(s.next G.ops (ba L i),if s.eH G.ops (ba L i)=true then out ++ [(i:Int)] else out):=by rw [grTo,K.out,hik,KV]
   have B:=Z5 A
   have S:=Z5 j
   clear A j hik hmo
   go_wp2_with fail
   refine (vs pb a n c L i U p5 (hi.af Y) (λr hr=>by rw [(HR r hr).1];exact him) hn).mono ?_
   rintro e w3 ⟨a3,c3,rfl,Z,hb3⟩
   rw [S.1] at Z
   rw [S.1]
   have hB3:=hBr.af hb3
   have z:=Pm Y hb3
   have hn3:a3 ≠ none->¬ Am w.heap.size ar R ap (ablk a3):=λh0 hI=>by have h1:=(aT Z h0).1;have h2:=(hBr.lt _ hI).2;omega
   clear p5
   go_wp2_with fail
   refine (DP w.heap.size ar cr R ap cp s a3 c3 n (ba L i) h z hB3 hok.out (aY Z Y.size) hn3 S.2 hn (by omega)).mono ?_
   rintro e w4 ⟨H,cr',R',F,cp',rfl,hB4,hM4⟩
   have D:PY w w4:=z.trans (hM4.below (λx hx=>by
    rcases hx with h1 | ⟨h1,h2⟩
    ·exact (hB3.lt x h1).1
    ·rw [h2];exact K9 Y.size (aT Z h1).1) z.size)
   have hop3:=bf hop hb3
   have hnI:X ≠ none->¬ (Am w.heap.size ar R ap (ablk X)\/(a3 ≠ none/\ablk X=ablk a3)):=λh0 hI=>by
    rcases hI with h1 | ⟨h1,h2⟩
    ·exact hdq h0 h1
    ·have e1:=(aT hop h0).2;have e2:=(aT Z h1).1;omega
   have E:=hM4.own hop3 hnI
   have hdq4:X ≠ none->¬ Am w.heap.size H R' F (ablk X):=λh0=>hM4.not (aT hop3 h0).2 (hnI h0)
   have hok4:(s.next G.ops (ba L i)).Ok G.El n:=BS.Ok.next hcl.out hok.out S.out
   have hlen4:=BS.Gl G.ops s (ba L i)
   have Hok4:=Z5 hok4
   have Hdq4:=Z5 hdq4
   clear hnI hdq4 hok4
   by_cases ht:s.eH G.ops (ba L i)=true
   ·rw [ht]
    have Hst:Hid (grTo G.ops L Q (k+1)=(s.next G.ops (ba L i),out ++ [(i:Int)])):=by show _=_;rw [B.out,KX ht]
    clear ht
    generalize s.next G.ops (ba L i)=s' at *
    have hcn:=bm w4 (cG i) 3
    have hbn:=an w4 (.cells #[cG i] 3)
    have hsz4:=D.size
    go_wp2_with (at_builtin;refine aS rfl _ _ 22 3 rfl (cG 0) 8 underlying22 bh rfl w.heap.size X out.length cq _ rfl (E.alloc _) ⟨w4.heap.size,0,none⟩ 1 (cG i) rfl hcn rfl (by omega) (by unfold maxLen;omega) (by simp;omega) ?_;intro a5 c5 w5 hown5 hgr5 hap5)
    go_roundw
    case rel =>
     have hBn:=hB4.af hbn
     have haq:∀x,Am w.heap.size H R' F x->eY X x:=λx hx=>by
      by_cases h0:X=none
      ·exact .inl h0
      ·exact .inr λe=>Hdq4 h0 (e ▸ hx)
     have hB5:sA w5 w.heap.size w.heap.size b H cr' R' F cp' s':=hBn.bp λx hx=>hgr5.block x (hBn.lt x hx).2 λe=>(haq x hx).own _ _ e.symm
     have hb5:PY w w5:=Pp (L5 D (hbn.mono hsz4)) (E.alloc _) hgr5 (KT _) (K9 hsz4 hbn.size)
     refine ⟨k+1,a5,c5,out ++ [(i:Int)],s',H,cr',R',F,cp',by omega,by go_num,by simp,Hst,hB5,?_,?_,hb5,Hok4,by omega,by simp;omega,?_⟩
     ·simpa using hown5
     ·show a5 ≠ none->_
      intro h0 hI
      rcases hap5 _ (hBn.lt _ hI).2 (haq _ hI) with h1 | h1
      ·exact h0 h1
      ·exact h1 rfl
     ·show _<=_
      rw [K6];exact Hom
    case measure=>simp [intOf] <;> omega
   ·have ht':s.eH G.ops (ba L i)=false:=by simpa using ht
    rw [ht']
    have Hst:Hid (grTo G.ops L Q (k+1)=(s.next G.ops (ba L i),out)):=by show _=_;rw [B.out,KY ht]
    clear ht ht'
    generalize s.next G.ops (ba L i)=s' at *
    go_wp2_with fail
    go_roundw
    case rel=>exact ⟨k+1,X,cq,out,s',H,cr',R',F,cp',by omega,by go_num,rfl,Hst,hB4,E,Hdq4,D,Hok4,by omega,by omega,hom⟩
    case measure=>simp [intOf] <;> omega
  ·obtain rfl:k=no:=by omega
   have Ho:Hid (tD G.ops L Q most=out):=by show _=_;have h1:=GO (O:=G.ops) (L:=L) (Q:=Q) (most:=most) (by rw [Hql.out,K.out];exact hom);rw [h1,Hql.out,K.out]
   go_wp2_with fail
   go_ret
   exact ⟨X,cq,by rw [Ho.out];rfl,by rw [Ho.out];exact hop,Y⟩
theorem uL (U:LI) (k:Nat):frTo false U (k+1)=if decide ((k:Int) ∈ U)=false then frTo false U k ++ [(k:Int)] else frTo false U k:=rfl
theorem mN (pb m:Nat) (sa:OA) (ns cs:Nat) (s:LI) (A:OA) (nz r:Nat) (z:LI) (w:World) (p4:w.cell? ⟨pb,4,none⟩=some (cG m)) (hs:Ints w sa ns s) (hz:Ints w A nz z)
  (hnz:nz<=1000000) (hm:m<=1000) :
  Calls prog 232 #[.pointer (some ⟨pb,0,none⟩),.slice sa ns cs,.slice A nz r] w (cQ w (gU m s z)):=by
 have Hzl:=Z5 hz.len;have HP:=Z5 (λ(V:World) (hV:PY w V)=>aB hV p4);go_enter func232,ntmps232;go_wp2_with fail;refine (AJ A nz r w).mono ?_;rintro e w1 ⟨rfl,rfl⟩;have hb1:PY w (w.alloc (.cells #[.slice A nz r] 22)):=an _ _;have HSo:=Z5 (Ah w.heap.size A nz r z hnz (w.alloc (.cells #[.slice A nz r] 22)) (by simp) (aF _ _ _ rfl 0) (hz.af hb1));have hsz1:w.heap.size<=(w.alloc (.cells #[.slice A nz r] 22)).heap.size:=hb1.size;generalize w.alloc (.cells #[.slice A nz r] 22)=w1 at *;go_wp2_with fail;refine HSo.mono ?_;rintro e w2 ⟨a2,c2,rfl,D,hb2⟩;have hbw2:=Pm hb1 hb2;have p4':=HP w2 hbw2;have hO2:w2.ownsRow w.heap.size 3 1 (.slice a2 nz c2) nz ((cO z).map (Value.int .i64)):=aY D hsz1;clear D p4;go_wp2_with fail;go_loopw [7,17] (λqv iv wr=>∃(k:Nat) (aq:OA) (cq:Nat) (out:LI),k<=m/\iv = cG k/\qv = .slice aq out.length cq/\Hid (out=cO z ++ frTo false (s ++ z) k)/\Hid (out.length<=nz+k) /\
   wr.ownsRow w.heap.size 3 1 (.slice aq out.length cq) out.length (out.map (Value.int .i64))/\PY w wr)
  (λ_ iv _=>m - (intOf iv).toNat)
 case atStart =>
  refine ⟨0,a2,c2,cO z,K0 _,rfl,?_,?_,?_,?_,hbw2⟩
  ·rw [eE,Hzl.out]
  ·show _=_;simp [frTo]
  ·show _<=_;rw [eE,Hzl.out];omega
  ·rw [eE,Hzl.out];exact hO2
 case round =>
  obtain ⟨k,aq,cq,out,hk,rfl,rfl,hst,hln,B,Y⟩:=hrel
  generalize wr=U at *
  by_cases hlt:k<m
  ·have hsU:=hs.af Y
   have hzU:=hz.af Y
   have hlen:=hln.out
   have K:Hid (((k:Int) ∈ s ++ z)->out=cO z ++ frTo false (s ++ z) (k+1)):=λH=>by rw [uL,KY (by rw [Lj H];decide)];exact hst
   have Htake:Hid (¬ ((k:Int) ∈ s ++ z)->out ++ [(k:Int)]=cO z ++ frTo false (s ++ z) (k+1)):=λH=>by rw [uL,KX (by rw [Lp H]),<- LW,<- hst.out]
   by_cases h1:(k:Int) ∈ s
   ·have X:decide ((k:Int) ∈ s)=true:=by simpa using h1
    have S:=Z5 (dg sa ns cs s k U hsU)
    rw [X] at S
    have F:Hid (out=cO z ++ frTo false (s ++ z) (k+1)):=K (List.mem_append.2 (.inl h1))
    clear h1 X
    go_wp2_with fail
    refine S.mono ?_
    rintro e w6 ⟨rfl,rfl⟩
    go_wp2_with fail
    go_roundw
    case rel=>exact ⟨k+1,aq,cq,out,by omega,by go_num,rfl,F,(show _<=_ by omega),B,Y⟩
    case measure=>simp [intOf] <;> omega
   ·have X:decide ((k:Int) ∈ s)=false:=by simpa using h1
    have S:=Z5 (dg sa ns cs s k U hsU)
    rw [X] at S
    by_cases h2:(k:Int) ∈ z
    ·have Z:decide ((k:Int) ∈ z)=true:=by simpa using h2
     have E:=Z5 (dg A nz r z k U hzU)
     rw [Z] at E
     have F:Hid (out=cO z ++ frTo false (s ++ z) (k+1)):=K (List.mem_append.2 (.inr h2))
     clear h1 X h2 Z
     go_wp2_with fail
     refine S.mono ?_
     rintro e w6 ⟨rfl,rfl⟩
     go_wp2_with fail
     refine E.mono ?_
     rintro e w7 ⟨rfl,rfl⟩
     go_wp2_with fail
     go_roundw
     case rel=>exact ⟨k+1,aq,cq,out,by omega,by go_num,rfl,F,(show _<=_ by omega),B,Y⟩
     case measure=>simp [intOf] <;> omega
    ·have Z:decide ((k:Int) ∈ z)=false:=by simpa using h2
     have E:=Z5 (dg A nz r z k U hzU)
     rw [Z] at E
     have F:Hid (out ++ [(k:Int)]=cO z ++ frTo false (s ++ z) (k+1)):=Htake λh=>by
      rcases List.mem_append.1 h with h | h
      ·exact h1 h
      ·exact h2 h
     have hcn:=bm U (cG k) 3
     have hbn:=an U (.cells #[cG k] 3)
     have j:=Y.size
     clear h1 X h2 Z
     go_wp2_with fail
     refine S.mono ?_
     rintro e w6 ⟨rfl,rfl⟩
     go_wp2_with fail
     refine E.mono ?_
     rintro e w7 ⟨rfl,rfl⟩
     go_wp2_with (at_builtin;refine aS rfl _ _ 22 3 rfl (cG 0) 8 underlying22 bh rfl w.heap.size aq out.length cq _ rfl (B.alloc _) ⟨w7.heap.size,0,none⟩ 1 (cG k) rfl hcn rfl (by omega) (by unfold maxLen;omega) (by simp;omega) ?_;intro a5 c5 w5 hown5 hgr5 hap5)
     go_roundw
     case rel =>
      have hb5:PY w w5:=Pp (L5 Y (hbn.mono j)) (B.alloc _) hgr5 (KT _) (K9 j hbn.size)
      refine ⟨k+1,a5,c5,out ++ [(k:Int)],by omega,by go_num,by simp,F,(show _<=_ by rw [K6,Lo];omega),?_,hb5⟩
      simpa using hown5
     case measure=>simp [intOf] <;> omega
  ·obtain rfl:k=m:=by omega
   have Ho:Hid (gU k s z=out):=by show _=_;rw [gU,hst.out]
   go_wp2_with fail
   go_ret
   exact ⟨aq,cq,by rw [Ho.out];rfl,by rw [Ho.out];exact B,Y⟩
section
theorem jV:∀ {s T:LI},s.Nodup->(∀x ∈ s,x ∈ T)->s.length<=T.length
 | [],_,_,_=>K0 _
 | x :: s,T,V,h=>by have Y:x ∈ T:=h x (by simp);have Z:=List.nodup_cons.1 V;have h1:∀y ∈ s,y ∈ T.erase x:=λy X=>(List.mem_erase_of_ne (λ(e:y=x)=>Z.1 (by rw [<- e];exact X))).2 (h y (by simp [X]));have h2:=jV Z.2 h1;rw [List.length_erase_of_mem Y] at h2;have:0<T.length:=List.length_pos_of_mem Y;simp only [LB];omega
variable {O:aP} {L:Ll} {m:Nat} {C:js}
theorem yC {B:LI->LI->Ll->Int × Ll} {F:LI->LI->Ll->Option Ll} {s:LI}
  (V:∀S z T Z,B S z T=(0,Z)->∃X,Z=T ++ X/\∀rest,F S z (X ++ rest)=some rest):∀(U z:LI) (T Z:Ll),e9 B s z U T=(0,Z)->∃X,Z=T ++ X/\∀rest,kfol F s z U (X ++ rest)=some rest
 | [],z,T,Z,h=>by
  rw [e9] at h;cases h
  exact ⟨[],by simp,λrest=>rfl⟩
 | k :: U,z,T,Z,h=>by
  rw [e9] at h;by_cases h0:(B (s ++ [k]) z T).1=0
  ·rw [KX h0] at h;obtain ⟨X,K,hF⟩:=V (s ++ [k]) z T (B (s ++ [k]) z T).2 (by rw [<- h0]);obtain ⟨Y,H,E⟩:=yC V U (z ++ [k]) _ Z h;refine ⟨X ++ Y,by rw [H,K,LW],λrest=>?_⟩;rw [kfol,LW,hF];exact E rest
  ·rw [KY h0] at h;have:=congrArg Prod.fst h;exact absurd this h0
theorem BU:∀(d:Nat) (s z:LI) (T Z:Ll),gH O L m C d s z T=(0,Z)->∃X,Z=T ++ X/\∀rest,folS O L m C d s z (X ++ rest)=some rest
 | 0,s,z,T,Z,h=>by
  rw [gH] at h;split at h
  ·rename_i Y;split at h
   ·cases h
   ·cases h
    exact ⟨_,rfl,λrest=>by rw [List.singleton_append,folS,KX Y]⟩
  ·cases h
 | d+1,s,z,T,Z,h=>by
  rw [gH] at h;split at h
  ·rename_i Y;split at h
   ·cases h
   ·obtain ⟨X,V,hF⟩:=yC (BU d) _ _ _ _ h;exact ⟨et O L m C s z :: X,by rw [V];simp,λrest=>by rw [MG,folS];(try dsimp only);rw [KX Y];exact hF rest⟩
  ·cases h
theorem DV {T:Ll} (h:sX O L m C=(0,T)):provS O L m C T=0:=by obtain ⟨X,Z,hF⟩:=BU _ _ _ _ _ h;have h1:=hF [];rw [Mh] at h1;rw [L3] at Z;unfold provS;rw [Z,h1]
end
section
open Go.RowKit
end
section
open Go.RowKit
end
theorem mh (b:Bool) (U:LI):∀k,(frTo b U k).Pairwise (λx y=>x<y)
 | 0=>List.Pairwise.nil
 | k+1=>by
  have Z:=mh b U k;rw [frTo];split
  ·rw [NK];refine ⟨Z,by simp,λx Y y X=>?_⟩;rw [LQ] at X;obtain ⟨j,V,rfl,_⟩:=(ef k).1 Y;omega
  ·exact Z
theorem C9 {m:Nat} {U:LI} (X:U.Nodup) (Y:∀x ∈ U,0<=x/\x<(m:Int)):cO U=frTo true U m:=by
 have h:=mh true U m;refine (kP (h.imp λh=>by omega) ((NV (h.imp λh=>by omega) X).2 λx=>?_)).symm;rw [ef];constructor
 ·rintro ⟨j,_,rfl,h1⟩;simpa using h1
 ·intro Z;have h1:=Y x Z;exact ⟨x.toNat,by omega,by omega,by rw [show ((x.toNat:Nat):Int)=x by omega];simpa using Z⟩
theorem lI {m:Nat} {U:LI} (Y:U.Nodup) (Z:∀x ∈ U,0<=x/\x<(m:Int)):U.length<=m:=by rw [<- eE,C9 Y Z];exact jn _ _ _
theorem qs {N:Int} {A:LI} (h:fP N A=true):A.Nodup:=by
 refine tJ λi j Z X=>?_;have key:∀d i,i+d<A.length->0<d->nth A i<nth A (i+d):=λd=>by
  induction d with
  | zero=>intro i _ h0;omega
  | succ d Y =>
   intro i hi _
   have h1:=(ie h hi).2.2 (by omega)
   rw [show i+(d+1) - 1=i+d by omega] at h1
   by_cases h0:d=0
   ·subst h0;exact h1
   ·have:=Y i (by omega) (by omega);omega
 have:=key (j - i) i (by omega) (by omega);rw [show i+(j - i)=j by omega] at this;omega
section
variable {O:aP} {El:Int->Prop} {m:Nat} {L:Ll}
end
section
variable {O:aP} {El:Int->Prop} {m:Nat} {L:Ll}
theorem zd (F:bK O El) (Z:bt El m L) (Q:LI) (x:Int):kC O L (Q ++ [x])<=kC O L Q+1:=by
 have h1:=jR F Z (Q ++ [x]);rw [nD] at h1;have h2:=jR F Z Q;generalize kC O L (Q ++ [x])=n at *;cases h1 with
 | dep _ _ h=>rw [h2.uniq h];omega
 | ind _ _ h=>rw [h2.uniq h];omega
theorem sH (F:bK O El) (Y:bt El m L) (Q:LI):∀(n:Nat) (A:LI),A.length=n->kC O L (Q ++ A)<=kC O L Q+n
 | 0,A,h=>by rw [Lw h,Mh];omega
 | n+1,A,h=>by
  have X:A ≠ []:=λe=>by rw [e] at h;simp at h
  obtain ⟨Z,x,rfl⟩:∃Z x,A=Z ++ [x]:=⟨A.dropLast,A.getLast X,(List.dropLast_concat_getLast X).symm⟩
  have V:=sH F Y Q n Z (by simpa using h);have h1:=zd F Y (Q ++ Z) x;rw [LW] at h1;omega
theorem Ff (O:aP) (L:Ll) (Q:LI):kC O L Q<=Q.length:=Bl O L Q
theorem Gp (F:bK O El) (Z:bt El m L) {Q A:LI} (h:kC O L (Q ++ A)=(Q ++ A).length):kC O L Q=Q.length:=by have h1:=sH F Z Q _ A rfl;have h2:=Ff O L Q;rw [K6] at h;omega
theorem E6 (F:bK O El) (Z:bt El m L) {Q Q':LI} (h:∀x ∈ Q,x ∈ Q'):kC O L Q<=kC O L Q' :=
 FE F Z λx Y=>by obtain ⟨y,X,e⟩:=pM.1 Y;exact (gg F Z).mem _ _ (pM.2 ⟨y,h y X,e⟩)
variable {C:js}
structure Ky (O:aP) (L:Ll) (m:Nat) (C:js) (s z:LI):Prop where
 sn:s.Nodup
 sb:∀x ∈ s,0<=x/\x<(m:Int)
 zn:z.Nodup
 zb:∀x ∈ z,0<=x/\x<(m:Int)
 sz:∀x ∈ z,¬ x ∈ s
 zi:kC O L z=z.length
 zk:¬ C.cos=true->z.length<=C.M
theorem DG {s z:LI} (Z:z.Nodup):(gU m s z).Nodup:=by
 unfold gU;rw [Mq];refine ⟨(dC z).nodup_iff.2 Z,(mh false (s ++ z) m).imp λh=>by omega,λa ha b hb e=>?_⟩;obtain ⟨j,X,rfl,hd⟩:=(ef m).1 hb;have Y:¬ (j:Int) ∈ s ++ z:=by simpa using hd
 exact Y (List.mem_append.2 (.inr ((dC z).mem_iff.1 (e ▸ ha))))
theorem yK {s z:LI} {x:Int}:x ∈ et O L m C s z ↔ x ∈ tD O L (gU m s z) (if C.cos=true then m else C.M):=(dC _).mem_iff
theorem sU {s z:LI} (hz:z.Nodup):(et O L m C s z).Nodup:=by unfold et;refine (dC _).nodup_iff.2 ?_;unfold tD;refine M4 (Nx _ _) ?_;exact gr_nodup (DG hz)
where gr_nodup {Q : LI} (hQ : Q.Nodup) : (mE O L Q).Nodup := M4 (gr_sub Q Q.length (KT _)) (by rw [N9]; exact hQ)
      gr_sub (Q:LI):∀k,k<=Q.length->((grTo O L Q k).2).Sublist (Q.take k)
 | 0,_=>by simp [grTo]
 | k+1,h=>by
  have ih:=gr_sub Q k (by omega);rw [grTo,K4 (by omega)];split
  ·rw [aj (show k<Q.length by omega)];exact ih.append (List.Sublist.refl _)
  ·exact ih.trans (List.sublist_append_left _ _)
end
theorem aC.nG {w V Z:World} {I I':Nat->Prop} (h:aC w V I I') (g:Below w.heap.size V Z):aC w Z I I' :=
 ⟨g.os.trans h.os,g.tape.trans h.tape,g.output.trans h.output,K9 h.size g.size,λb hb hi=>(g.block b hb).trans (h.block b hb hi),h.grow⟩
theorem aC.grown {w w':World} {K:Nat->Prop} {a:OA} {n c:Nat} (Z:w.grownBy w' (Value.slice a n c).ownBlock) (Y:a ≠ none->K (ablk a)):aC w w' K K :=
 ⟨Z.os,Z.tape,Z.output,Z.size,λb hb hi=>Z.block b hb λe=>by
  cases a with
  | none=>cases e
  | some ad =>
   have h1:b=ad.block:=by simpa [Value.ownBlock] using e
   exact hi (h1 ▸ Y (by simp)),λb hb=>.inl hb⟩
theorem Ints.dc {w w':World} {I I':Nat->Prop} {a:OA} {n:Nat} {l:LI} (h:Ints w a n l) (Y:aC w w' I I') (hI:0<n->¬ I (ablk a)):Ints w' a n l :=
 h.of_block λZ=>Y.block _ (h.lt Z) (hI Z)
theorem aQ.dc {w w':World} {I I':Nat->Prop} {b:Nat} {cs:List Value} (h:aQ w b cs) (Z:aC w w' I I') (hI:¬ I b):aQ w' b cs:=by have hb:=Z.block b h.1 hI;refine ⟨Lx h.1 Z.size,λi v Y=>(Lu (w:=w) (a:=⟨b,i,none⟩) hb).trans (h.2.1 i v Y),λi=>?_⟩;rw [<- h.2.2 i];unfold World.frozen?;simp only [hb]
theorem aC.put (w:World) (b i:Nat) (v:Value):aC w (w.setCell ⟨b,i,none⟩ v) (λx=>x=b) (λx=>x=b):=by have Z:Below 0 w (w.setCell ⟨b,i,none⟩ v):=(KU 0 w).setCell (K0 _) v;exact ⟨Z.os,Z.tape,Z.output,Z.size,λx Y hI=>Lf _ _ _ _ λe=>hI e,λx Y=>.inl Y⟩
theorem FW {L:Ll} {t q i:Nat} (Y:t<L.length) (X:q<L.length) (Z:nth (ai L q) i ≠ 0):nth (ai (bj L t q) t) i ≠ 0:=by
 rw [gO _ _ _ _ Y X,dX];by_cases e:t=q
 ·rw [KX e,e];exact Z
 ·rw [KY e,KX rfl];exact Z
theorem B2 {L:Ll} {i t:Nat} (Z:t<=L.length) (h:bd L i t ≠ L.length):t<=bd L i t/\bd L i t<L.length/\nth (ai L (bd L i t)) i ≠ 0:=by
 have h1:=kZ (c:=i) Z;refine ⟨h1.1,by omega,?_⟩;unfold bd;refine il L i _ _ ?_;have:bd L i t<L.length:=by omega
 unfold bd at this;omega
theorem rG {O:aP} {El:Int->Prop} {m:Nat} (X:qC O El) {L:Ll} (H:bt El m L) {t q i:Nat} (Y:t<L.length) (S:q<L.length) (hi:i<m) (E:nth (ai L q) i ≠ 0):bt El m (iN O L t q i):=by unfold iN;have U:=H.swap Y S;have Z:=U.row (i:=t) (by rw [bC];exact Y);have F:=FW Y S E;refine bt.KD X (U.set t ⟨by rw [Lc];exact Z.1,λx K=>?_⟩) (by rw [LZ,bC];exact Y) hi _ (by rw [LZ,bC];exact KT _);obtain ⟨D,V,rfl⟩:=List.mem_map.1 K;exact X.mul _ _ (X.inv _ (Z.2 _ (aG (by rw [Z.1];exact hi))) F) (Z.2 _ V)
theorem F7 {O:aP} {El:Int->Prop} {m:Nat} (Y:qC O El) {L:Ll} (X:bt El m L) {y t:LI} (V:y.length=m/\∀x ∈ y,El x) (S:∀j,j<t.length->(nth t j).toNat<m) :
  ∀k,k<=t.length->bt El m (gN O L y t k).rows/\((gN O L y t k).sum.length=m/\∀x ∈ (gN O L y t k).sum,El x)/\(gN O L y t k).top<=(gN O L y t k).rows.length
 | 0,_=>⟨X,V,K0 _⟩
 | k+1,K=>by
  obtain ⟨h1,h2,h3⟩:=F7 Y X V S k (by omega);have hi:=S k (by omega);rw [gN,jE];generalize gN O L y t k=st at *;split
  ·exact ⟨h1,h2,h3⟩
  ·rename_i hne;obtain ⟨a1,a2,a3⟩:=B2 h3 hne;have U:=rG Y h1 (t:=st.top) (by omega) a2 hi a3;have Z:=U.row (i:=st.top) (by rw [jU];omega);refine ⟨U,⟨?_,?_⟩,?_⟩
   ·dsimp only;rw [eK _ _ _ _ (by rw [Z.1,h2.1])];exact h2.1
   ·exact qG Y h2.2 Z.2 (by rw [Z.1,h2.1]) (by rw [h2.1];exact hi)
   ·dsimp only;rw [jU];omega
def mA (b:Nat) (P M:Int) (am:OA) (Y cm:Nat) (m:Nat) (a:OA) (n c:Nat) (Z:OA) (V cy:Nat) (C:js) (X:Value) (k:Nat):List Value :=
 [.pointer (some ⟨b,0,none⟩),cG P,cG M,.slice am Y cm,cG m,.slice a n c,.slice Z V cy,.bool C.cos,cG C.M,cG C.W,X,cG k]
structure Ak (w0:World) (b:Nat) (G:cZ) (a:OA) (n:Nat) (L:Ll) (m:Nat) (ay:OA) (ny:Nat) (C:js):Prop where
 g:dU w0 b G
 iZ:bw w0 a n L
 rws:bt G.El m L
 n6:n<=1000000
 m6:m<=64
 w6:C.W<=64
 yl:C.cos=true->ny=m
 y:C.cos=true->Ints w0 ay m C.y
 ye:C.cos=true->G.Ch C.y
theorem Gh (m:Nat) (s:LI):gU m s []=frTo false s m:=by unfold gU;rw [Mh,show cO []=[] by unfold cO;simp];rfl
theorem aQ.setCell {w:World} {b:Nat} {cs:List Value} (h:aQ w b cs) (i:Nat) (v:Value):aQ (w.setCell ⟨b,i,none⟩ v) b (cs.set i v):=by
 refine ⟨by simpa using h.1,λj u hu=>?_,λj=>by rw [L7];exact h.2.2 j⟩;by_cases e:j=i
 ·subst e;by_cases Z:j<cs.length
  ·rw [List.getElem?_set_self Z] at hu;cases hu
   exact Lh _ _ _ (h.2.1 j cs[j] (LC Z))
  ·rw [MX (by omega),Mc (by omega)] at hu;cases hu
 ·rw [List.getElem?_set_ne (by omega)] at hu;rw [Le _ _ _ _ (by simp <;> omega)];exact h.2.1 j u hu
theorem pL {m:Nat} {t:LI} (h:fP m t=true):∀k,k<t.length->0<=nth t k/\nth t k<m:=λ_ Z=>⟨(ie h Z).1,(ie h Z).2.1⟩
section
variable {f:Nat->Int} {N:Nat} (hf:∀y,f y<=N)
include hf
end

section
variable {O:aP} {El:Int->Prop} {m:Nat}
end
section
variable {P M:Int} {mod:LI} {m:Nat} {L:Ll} {Q:LI}
end
section
variable {O:aP} {El:Int->Prop} {m:Nat} {R:Ll} {P:LI}
theorem nK (hR:bt El m R) (hP:lh R P m) (hlen:R.length=P.length):BS.Inv El m ⟨R,P⟩ where
 ok:=⟨hR,hlen.symm,λi hi=>hP.lt i (by rw [<- hlen];exact hi)⟩
 one:=λi hi=>by show nth (ai R i) (nth P i).toNat=1;rw [hP.one i i (by rw [<- hlen];exact hi) hi,KX rfl]
 zero:=λj i hj hi=>by have hi':i<R.length:=hi;show nth (ai R i) (nth P j).toNat=0;rw [hP.one j i (by omega) hi',KY (by omega)]
theorem EI (F:bK O El) (hI:BS.Inv El m ⟨R,P⟩) {v:LI} (V:Vc El m v) (U:RS O El m R (λx=>nth v x)):∀k,k<=R.length->RS O El m R (λx=>nth (redTo O R P v k) x)
 | 0,_=>U
 | k+1,S=>by have hu:Vc El m (redTo O R P v k):=PK F hI.ok V k (show k<=R.length by omega);have Z:(nth P k).toNat<m:=hI.ok.pl (show k<R.length by omega);have X:Vc El m (ai R k):=hI.ok.row (show k<R.length by omega);refine ((EI F hI V U k (by omega)).comb F (.row F (i:=k) (by omega)) (hu.at Z)).congr λx Y=>?_;rw [redTo,fG F hu X Z Y,F.mul_comm _ _ (hu.at Z) (X.at Y)]
theorem EU (F:bK O El) (V:bt El m R) (Z:lh R P m) (hlen:R.length=P.length) {v:LI} (X:Vc El m v) (S:RS O El m R (λx=>nth v x)):∀x,x<m->nth (redTo O R P v R.length) x=0:=by have hI:=nK V Z hlen;obtain ⟨e,he,h⟩:=EI F hI X S R.length (KT _);intro x Y;have h1:nth (redTo O R P v R.length) x=e (ba R x):=h x Y;rw [h1];refine Z.all F V Y e he λy U=>?_;obtain ⟨j,K,rfl⟩:=(fM P _ _).1 U;rw [<- h _ (by have:=Z.lt j K;omega)];exact hI.place F X R.length (KT _) j (by omega)
def cmbTo (O:aP) (m:Nat) (x:LI) (L:Ll):Nat->LI
 | 0=>List.replicate m 0
 | k+1=>if nth x k=0 then cmbTo O m x L k else bX O (cmbTo O m x L k) (nth x k) (ai L k)
theorem RS.add (F:bK O El) {L:Ll} {f g:Nat->Int} (V:bt El m L) (hf:RS O El m L f) (Y:RS O El m L g) {s:Int} (Z:El s):RS O El m L (λx=>O.add (f x) (O.mul (g x) s)):=by
 refine (hf.comb F Y (F.cl.neg s Z)).congr λx X=>?_;obtain ⟨e,he,h⟩:=Y;have hgx:El (g x):=by rw [h x X];exact he.el _ (ch V F.zero x)
 rw [F.mul_neg hgx Z,F.neg_neg (F.cl.mul _ _ hgx Z)]
theorem iM (F:bK O El) {L:Ll} (X:bt El m L) {x:LI} (U:∀k,k<L.length->El (nth x k)):∀k,k<=L.length->Vc El m (cmbTo O m x L k)/\RS O El m L (λi=>nth (cmbTo O m x L k) i)
 | 0,_=>by
  have h0:∀i,nth (List.replicate m (0:Int)) i=0:=λi=>by unfold nth;simp only [KZ,Ls];split <;> rfl
  exact ⟨⟨by simp [cmbTo],λy K=>by rw [L6 K];exact F.zero⟩,RS.Gb F λi _=>h0 i⟩
 | k+1,E=>by
  obtain ⟨h1,h2⟩:=iM F X U k (by omega);have Y:=X.row (i:=k) (by omega);have Z:=U k (by omega);rw [cmbTo];split
  ·exact ⟨h1,h2⟩
  ·have S:(ai L k).length=(cmbTo O m x L k).length:=by rw [Y.1,h1.1]
   refine ⟨⟨by rw [dm _ _ _ _ S];exact h1.1,o0 F.cl h1.2 Y.2 Z⟩,(RS.add F X h2 (.row F (i:=k) (by omega)) Z).congr λi hi=>?_⟩;have V:El (nth (ai L k) i):=Ps Y hi;rw [gj O _ _ _ i S (by rw [h1.1];exact hi)];split
   ·rename_i H;rw [H,F.jw Z,F.add_zero _ (h1.at hi)]
   ·rw [F.mul_comm _ _ Z V]
end
def BZ (P M:Int) (mod:LI) (w:World) (e:Ending) (w':World):Prop :=
 ∃a c,e = .returned (.agg #[cG P,cG M,.slice a mod.length c])/\bL w.heap.size w' a mod.length mod/\PY w w'
theorem IA (P M:Int) (am:OA) (S cm:Nat) (mod:LI) (w:World) (H:Ints w am S mod) (E:S<=1000000) :
  Calls prog 178 #[.agg #[cG P,cG M,.slice am S cm]] w (BZ P M mod w):=by
 go_enter func178,ntmps178;go_wp2_with fail;obtain ⟨W,U⟩:∃W:World,W=(w.alloc (.cells #[cG P,cG M,.slice am S cm] 24)).alloc (.cells #[cG 0,cG 0,ds] 24):=⟨_,rfl⟩
 rw [<- U];have K:PY w W:=by rw [U];exact bY _ _ _
 have hsW:W.heap.size=w.heap.size+2:=by rw [U];simp
 have x0:aQ W w.heap.size [cG P,cG M,.slice am S cm]:=by rw [U];exact (Po _ _ _ rfl).alloc _
 have B:aQ W (w.heap.size+1) [cG 0,cG 0,ds]:=by rw [U];exact Po _ _ _ (by simp)
 clear U;refine (dp am S cm mod (H.af K) E).mono ?_;rintro e z ⟨a1,c1,rfl,Z,X⟩;have F:=x0.af X;have V:=B.af X;have d0:=F.cell 0 rfl;have d1:=F.cell 1 rfl;have d2:=F.cell 2 rfl;have e0:=V.cell 0 rfl;have e1:=V.cell 1 rfl;have e2:=V.cell 2 rfl;have fx:=F.frozen 2;have f0:=V.frozen 0;have f1:=V.frozen 1;have f2:=V.frozen 2;have Y:=Pm K X;have r:=Z5 (PW Z);have D:bL w.heap.size ((((z.setCell ⟨w.heap.size,2,none⟩ (.slice a1 mod.length c1)).setCell ⟨w.heap.size+1,0,none⟩ (cG P)).setCell ⟨w.heap.size+1,1,none⟩ (cG M)).setCell ⟨w.heap.size+1,2,none⟩ (.slice a1 mod.length c1)) a1 mod.length mod :=
  ((((r.setCell (p:=⟨w.heap.size,2,none⟩) (by simp;omega) _).setCell (p:=⟨w.heap.size+1,0,none⟩) (by simp;omega) _).setCell (p:=⟨w.heap.size+1,1,none⟩) (by simp;omega) _).setCell (p:=⟨w.heap.size+1,2,none⟩) (by simp;omega) _).mono (by omega)
 have j:PY w ((((z.setCell ⟨w.heap.size,2,none⟩ (.slice a1 mod.length c1)).setCell ⟨w.heap.size+1,0,none⟩ (cG P)).setCell ⟨w.heap.size+1,1,none⟩ (cG M)).setCell ⟨w.heap.size+1,2,none⟩ (.slice a1 mod.length c1)) :=
  (((Y.setCell (p:=⟨w.heap.size,2,none⟩) (by simp) _).setCell (p:=⟨w.heap.size+1,0,none⟩) (by simp) _).setCell (p:=⟨w.heap.size+1,1,none⟩) (by simp) _).setCell (p:=⟨w.heap.size+1,2,none⟩) (by simp) _
 have A:=Z5 (K3 D j);clear D j Z r x0 B Y;go_wp2_with fail;exact bodyPost_ret (v:=.agg #[cG P,cG M,.slice a1 mod.length c1]) (by simp [results,results178,go_sem,e0,e1,e2]) rfl ⟨a1,c1,rfl,A.1,A.2⟩
def pz (P M:Int) (mod:LI) (m:Int) (a:OA) (k c:Nat) (w:World) (e:Ending) (w':World):Prop :=
 ∃a1 c1,e = .returned (.tuple #[.agg #[cG P,cG M,.slice a1 mod.length c1,cG m,.slice a k c],cG 0])/\bL w.heap.size w' a1 mod.length mod/\PY w w'
theorem Bw (P M:Int) (am:OA) (S cm:Nat) (mod:LI) (m:Int) (a:OA) (k c:Nat) (w:World) (K:Ints w am S mod) (j:S<=1000000) :
  Calls prog 120 #[.agg #[cG P,cG M,.slice am S cm],.agg #[cG m,.slice a k c],cG 0] w (pz P M mod m a k c w):=by
 go_enter func120,ntmps120;go_wp2_with fail;obtain ⟨W,F⟩:∃W:World,W=((w.alloc (.cells #[cG P,cG M,.slice am S cm] 24)).alloc (.cells #[cG m,.slice a k c] 94)).alloc (.cells #[cG 0,cG 0,ds,cG 0,ds] 27):=⟨_,rfl⟩
 rw [<- F];have X:PY w W:=by rw [F];exact kS _ _ _ _
 have B:W.heap.size=w.heap.size+3:=by rw [F];simp
 have x0:aQ W w.heap.size [cG P,cG M,.slice am S cm]:=by rw [F];exact ((Po _ _ _ rfl).alloc _).alloc _
 have y0:aQ W (w.heap.size+1) [cG m,.slice a k c]:=by rw [F];exact (Po _ _ _ (by simp)).alloc _
 have z0:aQ W (w.heap.size+1+1) [cG 0,cG 0,ds,cG 0,ds]:=by rw [F];exact Po _ _ _ (by simp)
 have H:Hid (∀V,PY W V->Calls prog 178 #[.agg #[cG P,cG M,.slice am S cm]] V (BZ P M mod V)):=λV E=>IA P M am S cm mod V (K.af (Pm X E)) j;have hS:∀V,PY W V->V.cell? ⟨w.heap.size,0,none⟩=some (cG P)/\V.cell? ⟨w.heap.size,1,none⟩=some (cG M)/\V.cell? ⟨w.heap.size,2,none⟩=some (.slice am S cm)/\V.cell? ⟨w.heap.size+1,0,none⟩=some (cG m)/\V.cell? ⟨w.heap.size+1,1,none⟩=some (.slice a k c) /\
   aQ V (w.heap.size+1+1) [cG 0,cG 0,ds,cG 0,ds]:=λV E=>by have A:=x0.af E;have y1:=y0.af E;exact ⟨A.cell 0 rfl,A.cell 1 rfl,A.cell 2 rfl,y1.cell 0 rfl,y1.cell 1 rfl,z0.af E⟩
 have z:=Z5 hS;have HbW:=Z5 X;have r:=Z5 B;obtain ⟨c0,c1,c2,c3,c4,_⟩:=z W (KU _ _);have HP:Hid (∀(U:World) (a4:OA) (Z:Nat),bL W.drew.heap.size U a4 mod.length mod->Below W.drew.heap.size W.drew U ->
   pz P M mod m a k c w (.returned (.tuple #[.agg #[cG P,cG M,.slice a4 mod.length Z,cG m,.slice a k c],cG 0]))
    (((((U.setCell ⟨w.heap.size+1+1,0,none⟩ (cG P)).setCell ⟨w.heap.size+1+1,1,none⟩ (cG M)).setCell ⟨w.heap.size+1+1,2,none⟩ (.slice a4 mod.length Z)).setCell ⟨w.heap.size+1+1,3,none⟩ (cG m)).setCell ⟨w.heap.size+1+1,4,none⟩ (.slice a k c))):=λU a4 Z h1 h2=>by
  have h1':bL W.heap.size U a4 mod.length mod:=h1;have hb:=Pm X (Pm (KU _ _).drew h2);have hs:=r.out;refine ⟨a4,Z,rfl,?_,?_⟩
  ·exact (((((h1'.setCell (p:=⟨w.heap.size+1+1,0,none⟩) (by simp;omega) _).setCell (p:=⟨w.heap.size+1+1,1,none⟩) (by simp;omega) _).setCell (p:=⟨w.heap.size+1+1,2,none⟩) (by simp;omega) _).setCell (p:=⟨w.heap.size+1+1,3,none⟩) (by simp;omega) _).setCell (p:=⟨w.heap.size+1+1,4,none⟩) (by simp;omega) _).mono (by omega)
  ·exact ((((hb.setCell (p:=⟨w.heap.size+1+1,0,none⟩) (by simp;omega) _).setCell (p:=⟨w.heap.size+1+1,1,none⟩) (by simp;omega) _).setCell (p:=⟨w.heap.size+1+1,2,none⟩) (by simp;omega) _).setCell (p:=⟨w.heap.size+1+1,3,none⟩) (by simp;omega) _).setCell (p:=⟨w.heap.size+1+1,4,none⟩) (by simp;omega) _
 clear F x0 y0 z0 hS K X B;go_wp2_with fail;go_region_law (
  (go_simp;go_at_call 178;((with_reducible refine (H.out _ (KU _ _).drew).mono ?_);rintro e U ⟨a4,Z,rfl,D,hb4⟩;obtain ⟨c0,c1,c2,c3,c4,Y⟩:=z.out U (Pm (KU _ _).drew hb4);have z0:=Y.cell 0 rfl;have z1:=Y.cell 1 rfl;have z2:=Y.cell 2 rfl;have z3:=Y.cell 3 rfl;have z4:=Y.cell 4 rfl;have f0:=Y.frozen 0;have f1:=Y.frozen 1;have f2:=Y.frozen 2;have f3:=Y.frozen 3;have f4:=Y.frozen 4)))
 all_goals (
  have HP4:=Z5 (HP U a4 Z D hb4)
  clear D hb4 H z HP
  go_wp2_with fail
  exact bodyPost_ret (v:=.tuple #[.agg #[cG P,cG M,.slice a4 mod.length Z,cG m,.slice a k c],cG 0]) (by simp [results,results120,go_sem,z0,z1,z2,z3,z4]) rfl HP4.out)
theorem qB {σ:Type} (I:World->σ->Prop) (J:σ->Nat->Prop) (val:σ->Ll) (F:LI->LI->Ll->Int × Ll) (pb W:Nat)
  (sa:OA) (ns cs:Nat) (s:LI) (az:OA) (nz cz:Nat) (z:LI) (at':OA) (nt ct:Nat) (t:LI) (w:World) (Y:σ)
  (hI0:I w Y) (hIb:∀V V' σ,I V σ->aC V V' (λb=>w.heap.size<=b/\¬ J σ b) (λb=>w.heap.size<=b/\¬ J σ b)->I V' σ) (hp:w.cell? ⟨pb,9,none⟩=some (cG W)) (hS:∀V σ,I V σ->Ints V sa ns s/\Ints V at' nt t)
  (hJ:∀V σ x,I V σ->J σ x->x<V.heap.size) (hz:Ints w az nz z) (htn:t.Nodup) (hns:ns<=1000) (hnz:nz<=1000) (hnt:nt<=1000) (hWs:ns<=W)
  (hF:ns<W->∀(V:World) (σ:σ) (a1:OA) (c1:Nat) (a2:OA) (c2 k:Nat) (Z:LI),k<nt->Z=z ++ (t.take k).filter (λx=>decide (¬ x ∈ z))->¬ nth t k ∈ z->I V σ->aC w V (J Y) (J σ) ->
   Ints V a1 (ns+1) (s ++ [nth t k])->Ints V a2 Z.length Z->¬ J σ (ablk a1)->(a2 ≠ none->¬ J σ (ablk a2)) ->
   Calls prog 184 #[.pointer (some ⟨pb,0,none⟩),.slice a1 (ns+1) c1,.slice a2 Z.length c2] V
    λe V'=>∃X,I V' X/\aC V V' (J σ) (J X)/\e = .returned (cG (F (s ++ [nth t k]) Z (val σ)).1)/\((F (s ++ [nth t k]) Z (val σ)).1=0->val X=(F (s ++ [nth t k]) Z (val σ)).2)) :
  Calls prog 234 #[.pointer (some ⟨pb,0,none⟩),.slice sa ns cs,.slice az nz cz,.slice at' nt ct,.func (.func 184) #[.pointer (some ⟨pb,0,none⟩)] #[]] w
   λe w'=>∃X,I w' X/\aC w w' (J Y) (J X)/\e = .returned (cG (e9 F s z (if ns<W then t.filter (λx=>decide (¬ x ∈ z)) else []) (val Y)).1) /\
    ((e9 F s z (if ns<W then t.filter (λx=>decide (¬ x ∈ z)) else []) (val Y)).1=0->val X=(e9 F s z (if ns<W then t.filter (λx=>decide (¬ x ∈ z)) else []) (val Y)).2):=by
 obtain ⟨KB,hKB⟩:∃KB,e9 F s z (if ns<W then t.filter (λx=>decide (¬ x ∈ z)) else []) (val Y)=KB:=⟨_,rfl⟩
 rw [hKB];have HKB:=Z5 hKB;clear hKB;have Hzl:=Z5 hz.len;have Htl:=Z5 (hS w Y hI0).2.len;have Hsl:=Z5 (hS w Y hI0).1.len;have hplt:=(hS w Y hI0).2.pl;have HS:=Z5 hS;have HI0:=Z5 hI0;have HIb:=Z5 hIb;have HJ:=Z5 hJ;have Htn:=Z5 htn;have HF:=Z5 hF;clear hS hI0 hIb hJ htn hF;by_cases hW:ns=W
 ·have hd:((ns:Int) == (W:Int))=true:=by simp;omega
  have Hk:Hid (KB=(0,val Y)):=by show _=_;rw [<- HKB.out,KY (by omega)];rfl
  go_enter func234,ntmps234;clear hW;go_wp2_with fail;go_ret;exact ⟨Y,HI0,Pz _ _,by rw [Hk.out];rfl,λ_=>by rw [Hk.out]⟩
 have hd:((ns:Int) == (W:Int))=false:=by simp;omega
 have hlW:ns<W:=by omega
 have HKB:Hid (KB=e9 F s z (t.filter (λx=>decide (¬ x ∈ z))) (val Y)):=by show _=_;rw [<- HKB.out,KX hlW]
 have HF:=Z5 (HF hlW);clear hlW hW;go_enter func234,ntmps234;go_wp2_with fail;refine (dp az nz cz z hz (by omega)).mono ?_;rintro e w1 ⟨a0,c0,rfl,hown0,hb1⟩;have hI1:=HIb w w1 Y HI0.out (Pr hb1 _);go_wp2_with fail;go_loopw [2,25] (λzv iv wr=>∃(k:Nat) (aq:OA) (cq:Nat) (Z:LI) (σ:σ),k<=nt/\iv = cG k/\zv = .slice aq Z.length cq/\Hid (Z=z ++ (t.take k).filter (λx=>decide (¬ x ∈ z))) /\
   wr.ownsRow w.heap.size 3 1 (.slice aq Z.length cq) Z.length (Z.map (Value.int .i64))/\Hid (I wr σ)/\Hid (aC w wr (J Y) (J σ))/\Hid (aq ≠ none->¬ J σ (ablk aq)) /\
   Hid (KB=e9 F s Z ((t.drop k).filter (λx=>decide (¬ x ∈ z))) (val σ))/\Z.length<=nz+k)
  (λ_ iv _=>nt - (intOf iv).toNat)
 case atStart =>
  refine ⟨0,a0,c0,z,Y,K0 _,rfl,rfl,?_,hown0,hI1,Pr hb1 _,?_,?_,by rw [Hzl.out];omega⟩
  ·show _=_;simp
  ·show a0 ≠ none->_
   intro ha hj
   have h1:=HJ w Y _ HI0.out hj
   have h2:=(aT hown0 ha).1
   omega
  ·show _=_;rw [MK];exact HKB
 case round =>
  obtain ⟨k,aq,cq,Z,σ,hk,rfl,rfl,hzc,hop,hI,hM,hap,hkb,hzn⟩:=hrel
  generalize wr=U at *
  by_cases hlt:k<nt
  ·have htU:=(HS U σ hI.out).2
   have hsU:=(HS U σ hI.out).1
   have ck:=htU.cell k hlt
   obtain ⟨hzi,_⟩:=Pn hop
   have hktl:k<t.length:=by rw [Htl.out];exact hlt
   have Htk:=Z5 (show t.take (k+1)=t.take k ++ [nth t k] from oe t hktl)
   have Hdk:=Z5 (show t.drop k=nth t k :: t.drop (k+1) by rw [aj hktl];exact LH hktl)
   have Hzm:Hid (nth t k ∈ Z ↔ nth t k ∈ z):=by
    show _ ↔ _;rw [hzc.out,L8,MQ];constructor
    ·rintro (h | h)
     ·exact h
     ·exfalso;have hn:(t.take k ++ t.drop k).Nodup:=by rw [Nb];exact Htn
      rw [Mq] at hn;exact hn.2.2 _ h.1 (nth t k) (by rw [Hdk.out];simp) rfl
    ·exact .inl
   by_cases E:nth t k ∈ z
   ·have hmd:decide (nth t k ∈ Z)=true:=by simpa using Hzm.2 E
    have HcA:=Z5 (dg aq Z.length cq Z (nth t k) U hzi)
    rw [hmd] at HcA
    have j:Hid (Z=z ++ (t.take (k+1)).filter (λx=>decide (¬ x ∈ z))):=by show _=_;rw [Htk.out,M5,MA (by simpa using E),Na,Mh];exact hzc
    have S:Hid (KB=e9 F s Z ((t.drop (k+1)).filter (λx=>decide (¬ x ∈ z))) (val σ)):=by show _=_;rw [hkb.out,Hdk.out,MA (by simpa using E)]
    clear E hmd
    go_wp2_with fail
    refine HcA.mono ?_
    rintro e w6 ⟨rfl,rfl⟩
    go_wp2_with fail
    go_roundw
    case rel=>exact ⟨k+1,aq,cq,Z,σ,by omega,by go_num,rfl,j,hop,hI,hM,hap,S,by omega⟩
    case measure=>simp [intOf] <;> omega
   ·have hmd:decide (nth t k ∈ Z)=false:=by simpa using λh=>E (Hzm.1 h)
    have HcA:=Z5 (dg aq Z.length cq Z (nth t k) U hzi)
    rw [hmd] at HcA
    have j:Hid (Z ++ [nth t k]=z ++ (t.take (k+1)).filter (λx=>decide (¬ x ∈ z))):=by show _=_;rw [Htk.out,M5,MC (by simpa using E),Na,<- LW,<- hzc.out]
    have S:Hid (KB=if (F (s ++ [nth t k]) Z (val σ)).1=0 then e9 F s (Z ++ [nth t k]) ((t.drop (k+1)).filter (λx=>decide (¬ x ∈ z))) (F (s ++ [nth t k]) Z (val σ)).2 else ((F (s ++ [nth t k]) Z (val σ)).1,[])):=by show _=_;rw [hkb.out,Hdk.out,MC (by simpa using E),e9]
    have HFk:=Z5 (λV σ a1 c1 a2 c2=>HF V σ a1 c1 a2 c2 k Z hlt hzc.out E)
    have hszU:=hM.size
    clear E hmd
    go_wp2_with fail
    refine HcA.mono ?_
    rintro e w6 ⟨rfl,rfl⟩
    go_wp2_with fail
    refine (dp sa ns cs s hsU (by omega)).mono ?_
    rintro e w7 ⟨a7,c7,rfl,H,hb7⟩
    rw [Hsl.out] at H
    rw [Hsl.out]
    obtain ⟨x,hx⟩:∃x,nth t k=x:=⟨_,rfl⟩
    rw [hx] at ck j S HFk Htk Hdk Hzm HcA ⊢
    have hcn:=bm w7 (cG x) 3
    have K:=an w7 (.cells #[cG x] 3)
    go_wp2_with (at_builtin;refine aS rfl _ _ 22 3 rfl (cG 0) 8 underlying22 bh rfl w6.heap.size a7 ns c7 _ rfl (H.alloc _) ⟨w7.heap.size,0,none⟩ 1 (cG x) rfl hcn rfl (by omega) (by unfold maxLen;omega) (K9 hb7.size K.size) ?_;intro a8 c8 w8 hown8 hgr8 hap8)
    have hb68:PY w6 w8:=Pp (Pm hb7 K) (H.alloc _) hgr8 (KT _) (K9 hb7.size K.size)
    have own8:w8.ownsRow w6.heap.size 3 1 (.slice a8 (ns+1) c8) (ns+1) ((s ++ [x]).map (Value.int .i64)):=by simpa using hown8
    have hz8:=hzi.af hb68
    clear H hown8 hgr8 hap8 hcn K
    go_wp2_with fail
    refine (dp aq Z.length cq Z hz8 (by omega)).mono ?_
    rintro e w9 ⟨a9,c9,rfl,r,hb9⟩
    have hb69:=Pm hb68 hb9
    have hI9:=HIb w6 w9 σ hI.out (Pr hb69 _)
    have hM9:aC w w9 (J Y) (J σ):=hM.nG (hb69.mono hszU)
    have hs9:=(Pn own8).1.af hb9
    have hz9:=(Pn r).1
    have hn8:¬ J σ (ablk a8):=λhj=>by have h1:=HJ w6 σ _ hI.out hj;have h2:=(dR own8 (by omega)).1;omega
    have hn9:a9 ≠ none->¬ J σ (ablk a9):=λha hj=>by have h1:=HJ w6 σ _ hI.out hj;have h2:=(aT r ha).1;have h3:=hb68.size;omega
    have hopz:=bf hop hb69
    have A:=Z5 (HFk w9 σ a8 c8 a9 c9 hI9 hM9 hs9 hz9 hn8 hn9)
    clear HFk hI9 hs9 hz9 hn8 hn9 hz8 own8 r
    generalize F (s ++ [x]) Z (val σ)=FR at *
    obtain ⟨fe,fv⟩:=FR
    dsimp only at A S
    go_wp2_with fail
    refine A.mono ?_
    rintro e D ⟨X,hI',hM',rfl,hval⟩
    have hM10:=Z5 (hM9.trans hM')
    have hapz:aq ≠ none->¬ J X (ablk aq):=λha=>hM'.not (aT hopz ha).2 (hap ha)
    have hopq:=hM'.own hopz hap.out
    have Hapz:=Z5 hapz
    have HI':=Z5 hI'
    clear A hM9 hM' hapz hI' hopz
    by_cases hfe:fe=0
    ·have Hval:Hid (val X=fv):=hval hfe
     subst hfe
     rw [KX rfl] at S
     have hcn:=bm D (cG x) 3
     have K:=an D (.cells #[cG x] 3)
     have B:=hM10.size
     clear hval
     go_wp2_with (at_builtin;refine aS rfl _ _ 22 3 rfl (cG 0) 8 underlying22 bh rfl w.heap.size aq Z.length cq _ rfl (hopq.alloc _) ⟨D.heap.size,0,none⟩ 1 (cG x) rfl hcn rfl (by omega) (by unfold maxLen;omega) (K9 B K.size) ?_;intro a11 c11 w11 hown11 hgr11 hap11)
     go_roundw
     case rel =>
      have hb11:Below w.heap.size D w11:=Pp (K.mono B) (hopq.alloc _) hgr11 (KT _) (K9 B K.size)
      have hK:aC D w11 (λb=>w.heap.size<=b/\¬ J X b) (λb=>w.heap.size<=b/\¬ J X b):=(Pr K _).trans (aC.grown hgr11 λha=>⟨(aT hopq ha).1,Hapz ha⟩)
      refine ⟨k+1,a11,c11,Z ++ [x],X,by omega,by go_num,by simp,j,by simpa using hown11,HIb D w11 X HI'.out hK,hM10.nG hb11,?_,?_,by simp;omega⟩
      ·show a11 ≠ none->_
       intro ha hj
       have h1:=HJ D X _ HI'.out hj
       have h2:eY aq (ablk a11):=by
        by_cases h0:aq=none
        ·exact .inl h0
        ·exact .inr λe=>Hapz h0 (by rw [e];exact hj)
       rcases hap11 _ (Lx h1 K.size) h2 with h3 | h3
       ·exact ha h3
       ·exact h3 rfl
      ·show _=_
       rw [S.out,Hval.out]
     case measure=>simp [intOf] <;> omega
    ·have hfe':(fe != 0)=true:=by simpa using hfe
     have Hk2:Hid (KB=(fe,[])):=by show _=_;rw [S.out,KY hfe]
     have Hfe:=Z5 hfe
     clear hfe hval
     go_wp2_with fail
     go_ret
     exact ⟨X,HI',hM10,by rw [Hk2.out];rfl,λh0=>absurd (by rw [Hk2.out] at h0;exact h0) Hfe.out⟩
  ·obtain rfl:k=nt:=by omega
   have Hf:Hid (KB=(0,val σ)):=by show _=_;rw [hkb.out,L0 (by rw [Htl.out];exact KT _),Na,e9]
   go_wp2_with fail
   go_ret
   exact ⟨σ,hI,hM,by rw [Hf.out];rfl,λ_=>by rw [Hf.out]⟩
theorem KR {G:cZ} {x:Int} (h:G.El x):(decide (0<=x) && decide (x<G.q))=true:=by unfold cZ.El at h;simp;exact h
theorem Ar {w:World} {b:Nat} {G:cZ} (q:Nat) (x:Int) (X:w.cell? ⟨q,0,none⟩=some (.pointer (some ⟨b,0,none⟩))) (h:dU w b G) (Z:G.El x) :
  Calls prog 241 #[cG x,.pointer (some ⟨q,0,none⟩)] w λe w'=>e = .returned (.bool false)/\w=w':=by have Y:=KR Z;go_enter func241,ntmps241;go_wp2_with fail;refine (J9 x h).mono ?_;rintro e w' ⟨rfl,rfl⟩;rw [Y];go_wp2_with fail;go_ret;exact ⟨rfl,rfl⟩
theorem xK (q:Nat) (a:OA) (n c:Nat) (l:LI) (w:World) (hi:Ints w a n l) (hf:∀k,k<n->Calls prog 241 #[cG (nth l k),.pointer (some ⟨q,0,none⟩)] w λe w'=>e = .returned (.bool false)/\w=w') :
  Calls prog 111 #[.slice a n c,.func (.func 241) #[] #[.pointer (some ⟨q,0,none⟩)]] w λe w'=>e = .returned (cG (-1))/\w=w':=by
 have S:=hi.pl;have Y:=hi.max;have V:=Z5 hf;unfold maxLen at Y;clear hf;go_enter func111,ntmps111;go_wp2_with fail;go_loop [8] (λX=>∃k:Nat,k<=n/\X = cG k) (λX=>n - (intOf X).toNat);case atStart=>exact ⟨0,K0 _,rfl⟩
 case round =>
  obtain ⟨k,H,rfl⟩:=hrel
  by_cases Z:k<n
  ·have K:=hi.cell k Z
   have U:=Z5 (V k Z)
   go_wp2_with fail
   refine U.mono ?_
   rintro e w' ⟨rfl,rfl⟩
   go_wp2_with fail
   go_round
   case rel=>exact ⟨k+1,by omega,by go_num⟩
   case measure=>simp [intOf] <;> omega
  ·obtain rfl:k=n:=by omega
   go_wp2_with fail
   go_ret
   exact ⟨rfl,rfl⟩
theorem tN (q:Nat) (a:OA) (n c:Nat) (l:LI) (w:World) (hi:Ints w a n l) (hf:∀k,k<n->Calls prog 241 #[cG (nth l k),.pointer (some ⟨q,0,none⟩)] w λe w'=>e = .returned (.bool false)/\w=w') :
  Calls prog 53 #[.slice a n c,.func (.func 241) #[] #[.pointer (some ⟨q,0,none⟩)]] w λe w'=>e = .returned (.bool false)/\w=w':=by have Z:=Z5 (xK q a n c l w hi hf);clear hf;go_enter func53,ntmps53;go_wp2_with fail;refine Z.mono ?_;rintro e w' ⟨rfl,rfl⟩;go_wp2_with fail;go_ret;exact ⟨rfl,rfl⟩
theorem vA {w:World} {b:Nat} {G:cZ} (m:Nat) (a:OA) (n c:Nat) (ap:OA) (np cp:Nat) (V:OA) (S:Nat) (x:LI) (h:dU w b G) (K:Ints w V m x) (X:Vc G.El m x) :
  Calls prog 191 #[.agg #[.pointer (some ⟨b,0,none⟩),cG m,.slice a n c,.slice ap np cp],.slice V m S] w λe w'=>e = .returned (cG 0)/\PY w w':=by
 go_enter func191,ntmps191;go_wp2_with fail;obtain ⟨W,Y⟩:∃W:World,W=w.alloc (.cells #[.pointer (some ⟨b,0,none⟩),cG m,.slice a n c,.slice ap np cp] 210):=⟨_,rfl⟩
 rw [<- Y];have Z:PY w W:=by rw [Y];exact an _ _
 have U:aQ W w.heap.size [.pointer (some ⟨b,0,none⟩),cG m,.slice a n c,.slice ap np cp]:=by rw [Y];exact Po _ _ _ rfl
 have c0:=U.cell 0 rfl;have c1:=U.cell 1 rfl;have H:((m:Int) != m)=false:=by simp
 have E:=Z5 (tN w.heap.size V m S x W (K.af Z) λk F =>
  Ar w.heap.size (nth x k) c0 (h.af Z) (X.at F))
 clear Y U;go_wp2_with fail;refine E.mono ?_;rintro e w' ⟨rfl,rfl⟩;go_wp2_with fail;go_ret;exact ⟨rfl,Z⟩
theorem qn {w:World} {b:Nat} {G:cZ} (m:Nat) (a:OA) (n c:Nat) (R:Ll) (ap:OA) (cp:Nat) (A:LI) (ax:OA) (cx:Nat) (x:LI)
  (h:dU w b G) (hi:bw w a n R) (hp:Ints w ap n A) (hx:Ints w ax m x) (hOk:BS.Ok G.El m ⟨R,A⟩) (hxe:Vc G.El m x) (hn:n<=1000000) (hm:m<=1000000) :
  Calls prog 242 #[.agg #[.pointer (some ⟨b,0,none⟩),cG m,.slice a n c,.slice ap n cp],.slice ax m cx] w
   λe w'=>∃a1 c1 v2,e = .returned (.tuple #[.slice a1 m c1,v2])/\w'.ownsRow w.heap.size 3 1 (.slice a1 m c1) m ((redTo G.ops R A x n).map (Value.int .i64))/\PY w w':=by
 have hcl:=PL h;have hrl:R.length=n:=hi.len;have hred:=lH hcl hOk.rws (Q:=A) hOk.plc hxe;have Hred:=Z5 hred;have HOk:=Z5 hOk;have Hrl:=Z5 hrl;have Hxl:=Z5 hxe.1;have hplp:=hp.pl;have hplr:=hi.pl;clear hred hOk hrl hcl;go_enter func242,ntmps242;go_wp2_with fail;obtain ⟨W,hW⟩:∃W:World,W=w.alloc (.cells #[.pointer (some ⟨b,0,none⟩),cG m,.slice a n c,.slice ap n cp] 210):=⟨_,rfl⟩
 rw [<- hW];have hbW:PY w W:=by rw [hW];exact an _ _
 have x0:aQ W w.heap.size [.pointer (some ⟨b,0,none⟩),cG m,.slice a n c,.slice ap n cp]:=by rw [hW];exact Po _ _ _ rfl
 have HX:=Z5 x0;have HbW:=Z5 hbW;clear hW x0;refine (dp ax m cx x (hx.af hbW) hm).mono ?_;rintro e w1 ⟨a1,c1,rfl,X,hb1⟩;rw [Hxl.out] at X ⊢;have ha1:a1 ≠ none->ablk a1<w1.heap.size:=λh0=>(aT X h0).2;have ha1W:a1 ≠ none->W.heap.size<=ablk a1:=λh0=>(aT X h0).1;have x1:=HX.af hb1;have q2:=x1.cell 2 rfl;have q3:=x1.cell 3 rfl;have hs1:=hb1.size;clear x1;go_wp2_with fail;go_loopw [5,16] (λtv iv wr=>∃(k:Nat) (B:OA) (ct:Nat) (xs:List Value),k<=n/\iv = cG k/\tv = .slice B k ct/\wr.ownsRow W.heap.size 3 1 (.slice a1 m c1) m ((redTo G.ops R A x k).map (Value.int .i64)) /\
   wr.ownsRow w1.heap.size 3 1 (.slice B k ct) k xs/\PY W wr/\w1.heap.size<=wr.heap.size) (λ_ iv _=>n - (intOf iv).toNat)
 case atStart=>exact ⟨0,none,0,[],K0 _,rfl,rfl,X,cU,hb1,KT _⟩
 case round =>
  clear q2 q3 X
  obtain ⟨k,B,ct,xs,hkn,rfl,rfl,K,V,hbr,hsr⟩:=hrel
  have xr:=HX.af hbr
  have hbwr:=Pm HbW.out hbr
  by_cases hlt:k<n
  ·have hkr:k<R.length:=by rw [Hrl.out];exact hlt
   have hrow:=HOk.rws.row hkr
   have hplc:0<=nth A k/\nth A k<m:=HOk.plc k hkr
   obtain ⟨ra,rn,rc,er,ir⟩:=hi.cell k hlt
   have hrn:rn=m:=by rw [<- ir.len];exact hrow.1
   rw [hrn] at er ir
   have ep:=(hp.af hbwr).cell k hlt
   obtain ⟨E,hpn⟩:∃E:Nat,nth A k=E:=⟨(nth A k).toNat,by omega⟩
   rw [hpn] at ep hplc
   have hpnn:E<m:=by omega
   have hrd:=Hred k (by omega)
   have hrd1:=Hred (k+1) (by omega)
   have hstep:redTo G.ops R A x (k+1)=ey G.ops (redTo G.ops R A x k) E (ai R k):=by rw [redTo,hpn]
   have Hstep:=Z5 hstep
   have z:=Z5 hrow
   clear hstep hpn hrn
   obtain ⟨u,hu⟩:∃u,redTo G.ops R A x k=u:=⟨_,rfl⟩
   rw [hu] at K hrd
   have Hu:=Z5 hu
   obtain ⟨iu,mu⟩:=Pn K
   have eu:=iu.cell E hpnn
   have hpu:=iu.pl
   have D:=Z5 hrd
   clear hu hrow hrd hrd1
   have hne1:a1 ≠ none:=λe=>by have:=hpu (by omega);rw [e] at this;cases this
   have ha1':=ha1 hne1
   have hapt:eY B (ablk a1):=by
    by_cases h0:B=none
    ·exact .inl h0
    ·have:=(aT V h0).1;exact .inr (by omega)
   have hcn:=bm wr (cG (nth u E)) 3
   have hbn:=an wr (.cells #[cG (nth u E)] 3)
   have hbnx:=L5 hbr (hbn.mono (by omega))
   have HN5:Hid (∀(a5:OA) (c5:Nat) (w5:World),(wr.alloc (.cells #[cG (nth u E)] 3)).grownBy w5 (Value.slice B k ct).ownBlock->PY W w5/\w5.ownsRow W.heap.size 3 1 (.slice a1 m c1) m (u.map (Value.int .i64))/\w1.heap.size<=w5.heap.size):=λa5 c5 w5 Z =>
    ⟨Pp hbnx (V.alloc _) Z (by omega) (by simp;omega),iR (K.alloc _) Z hapt,by have:=Z.size;simp at this;omega⟩
   clear hbnx mu
   by_cases hz:nth u E=0
   ·have hz':(nth u E != 0)=false:=by simpa using hz
    have Hn:Hid (redTo G.ops R A x (k+1)=u):=by show _=_;rw [Hstep.out,Hu.out,ey,KV,KX hz]
    clear hz
    go_wp2_with (at_builtin;refine aS rfl _ _ 22 3 rfl (cG 0) 8 underlying22 bh rfl w1.heap.size B k ct xs rfl (V.alloc _) ⟨wr.heap.size,0,none⟩ 1 (cG (nth u E)) rfl hcn rfl (by omega) (by unfold maxLen;omega) (by simp;omega) ?_;intro a5 c5 w5 H Z hap5)
    go_roundw
    case rel =>
     obtain ⟨h1,h2,h3⟩:=HN5 a5 c5 w5 Z
     exact ⟨k+1,a5,c5,_,by omega,by go_num,rfl,by rw [Hn.out];exact h2,H,h1,h3⟩
    case measure=>simp [intOf] <;> omega
   ·have hz':(nth u E != 0)=true:=by simpa using hz
    have Hn:Hid (redTo G.ops R A x (k+1)=dY G.ops u (nth u E) (ai R k)):=by show _=_;rw [Hstep.out,Hu.out,ey,KV,KY hz]
    have hxe2:G.El (nth u E):=D.2 _ (aG (by rw [D.1];exact hpnn))
    have hSl:(dY G.ops u (nth u E) (ai R k)).length=u.length:=fi _ _ _ _ (by rw [z.1,D.1])
    have hSn:=λi hi=>eS G.ops u (nth u E) (ai R k) i (by rw [z.1,D.1]) hi
    have HSl:=Z5 hSl
    have HSn:=Z5 hSn
    clear hz hSl hSn
    have hplr2:=ir.pl
    go_upto_region 8 with (at_builtin;refine aS rfl _ _ 22 3 rfl (cG 0) 8 underlying22 bh rfl w1.heap.size B k ct xs rfl (V.alloc _) ⟨wr.heap.size,0,none⟩ 1 (cG (nth u E)) rfl hcn rfl (by omega) (by unfold maxLen;omega) (by simp;omega) ?_;intro a5 c5 w5 H Z hap5)
    obtain ⟨hbU,hownU,hsU⟩:=HN5 a5 c5 w5 Z
    have hna5:a5 ≠ none->¬ (a1 ≠ none/\ablk a5=ablk a1):=λh0 h1=>by have:=(aT H h0).1;omega
    clear HN5 Z hap5 hcn hbn eu iu ep xr K V hapt
    generalize w5=U at *
    have hbwU:=Pm HbW.out hbU
    have xU:=HX.af hbU
    have q1:=xU.cell 1 rfl
    have q2:=xU.cell 2 rfl
    have erU:=aB hbwU er
    clear xU
    go_wp2_with fail
    clear q1 q2 erU
    generalize nth u E=y at *
    generalize dY G.ops u y (ai R k)=S at *
    go_loopw [38] (λiv wx=>∃j:Nat,j<=m/\iv = cG j/\wx.ownsRow W.heap.size 3 1 (.slice a1 m c1) m ((gv S u j).map (Value.int .i64))/\db a1 U wx) (λiv _=>m - (intOf iv).toNat)
    case atStart=>exact ⟨0,K0 _,rfl,by rw [fC];exact hownU,PD _ _⟩
    case round =>
     clear hownU
     obtain ⟨j,hj,rfl,F,Y⟩:=hrel
     have hbx0:Below W.heap.size U wr:=Y.below ha1W hbU.size
     have hbx:=L5 hbU hbx0
     have hbwx:=Pm HbW.out hbx
     by_cases r:j<m
     ·have cj:=(ir.af hbwx).cell j r
      have f0:=(HX.af hbx).cell 0 rfl
      obtain ⟨im,mm⟩:=Pn F
      have cm:=im.cell j r
      have fm:=(mm (by omega)).2 j r
      have hju:j<u.length:=by rw [D.1];exact r
      have hmix:=eA S u j j HSl.out (by omega)
      rw [KY (by omega)] at hmix
      rw [hmix] at cm
      have hset:=fh S u j HSl.out hju
      rw [HSn j hju] at hset
      have Hset:=Z5 hset
      have ely:G.El (nth (ai R k) j):=z.2 _ (aG (by rw [z.1];exact r))
      have elv:G.El (nth u j):=D.2 _ (aG hju)
      have hGr:dU wr b G:=h.af hbwx
      have elm:∀x y,G.El (G.mul x y):=λx y=>PQ h x y
      have HG:Hid (dU wr.drew b G/\∀n,dU (wr.drewN n) b G):=⟨hGr.af (KU _ _).drew,λn=>hGr.drewN n⟩
      clear hset hmix
      go_wp2_with fail
      go_region_law ((first
       | (go_simp;go_at_call 57;((with_reducible refine (oh y (nth (ai R k) j) HG.out.1 hxe2 ely).mono ?_);rintro e w4 ⟨m4,rfl,rfl⟩))
       | (go_simp;go_at_call 57;((with_reducible refine (oh y (nth (ai R k) j) (HG.out.2 _) hxe2 ely).mono ?_);rintro e w4 ⟨m4,rfl,rfl⟩))
       | (go_simp;go_at_call 199;((with_reducible refine (JR (nth u j) (G.mul y (nth (ai R k) j)) (HG.out.2 _) elv (elm _ _)).mono ?_);rintro e w4 ⟨m5,rfl,rfl⟩))))
      all_goals (
       go_wp2_with fail
       go_roundw
       case rel =>
        have hdr:bg wr (wr.drewN (1+m4+m5)):=⟨_,rfl⟩
        refine ⟨j+1,by omega,by go_num,?_,Y.trans ((PA hdr).trans (PF _ j _ hne1))⟩
        have h1:=bA (w:=wr.drewN (1+m4+m5)) F j r (cG (G.sub (nth u j) (G.mul y (nth (ai R k) j))))
        rw [<- Lq,show G.sub (nth u j) (G.mul y (nth (ai R k) j))=G.ops.add (nth u j) (G.ops.neg (G.ops.mul y (nth (ai R k) j))) from rfl,Hset.out] at h1
        exact h1
       case measure=>simp [intOf] <;> omega)
     ·obtain rfl:j=m:=by omega
      rw [gx S u j (by rw [HSl.out,D.1]) D.1] at F
      have hown6:=aC.own Y H hna5
      have hsx:=Y.size
      go_wp2_with fail
      go_roundw
      case rel=>exact ⟨k+1,a5,c5,_,by omega,by go_num,rfl,by rw [Hn.out];exact F,hown6,hbx,by omega⟩
      case measure=>simp [intOf] <;> omega
  ·obtain rfl:k=n:=by omega
   have hF:=aY K HbW.size
   have HF:=Z5 hF
   clear hF K V xr
   go_wp2_with fail
   go_ret2
   exact ⟨a1,c1,_,rfl,HF,hbwr⟩
theorem AZ {w:World} {b:Nat} {G:cZ} (m:Nat) (a:OA) (n c:Nat) (R:Ll) (ap:OA) (cp:Nat) (Z:LI) (V:OA) (U:Nat) (x:LI)
  (h:dU w b G) (hi:bw w a n R) (K:Ints w ap n Z) (S:Ints w V m x) (X:BS.Ok G.El m ⟨R,Z⟩) (Y:Vc G.El m x) (H:n<=1000000) (hm:m<=1000000) :
  Calls prog 242 #[.agg #[.pointer (some ⟨b,0,none⟩),cG m,.slice a n c,.slice ap n cp],.slice V m U] w
   λe w'=>∃a1 c1 v2,e = .returned (.tuple #[.slice a1 m c1,v2])/\Ints w' a1 m (redTo G.ops R Z x n)/\PY w w' :=
 (qn m a n c R ap cp Z V U x h hi K S X Y H hm).mono λ_ _ ⟨a1,c1,v2,h1,h2,h3⟩=>⟨a1,c1,v2,h1,(Pn h2).1,h3⟩
section
variable {m:Nat} {Q:LI}
end

section
open Go.RowKit
end
section
open Go.RowKit
end
def PC:=@aC.grown
end Go.Proofs.YthglbncgemdcbaaGreat
