import Derived.Test.YthglbncgemdcbaaGreatS15
import Derived.Test.YthglbncgemdcbaaGreatS12
namespace Go.Proofs.YthglbncgemdcbaaGreat
set_option linter.all false
set_option maxRecDepth 100000
set_option maxHeartbeats 4000000
open Go.RowKit Go.Proofs.Tryz
section
variable {P : Int} {M : Nat} {mod : Lz} {q : Nat} {x : Int}
theorem DT (h : oL P M) (hx : gq P M x) : pw P M mod x 1=x:=by show dQ P M mod (pw P M mod x 0) x=x;rw [pw,ku h hx]
theorem Mh (h : oL P M) (hx : gq P M x) : pw P M mod x 2=dQ P M mod x x:=by show dQ P M mod (pw P M mod x 1) x=_;rw [DT h hx]
theorem Lu (h : oL P M) (hx : gq P M x) : ∀k,pw P M mod (dQ P M mod x x) k=pw P M mod x (2 * k)
 | 0=>rfl
 | k+1=>by rw [pw,Lu h hx k,<- Mh h hx,kN h];rfl
theorem Ef (h : oL P M) : ∀(f n : Nat) (x : Int),gq P M x->n<2 ^ f->fpw (dQ P M mod) f x n=pw P M mod x n
 | 0,n,x,hx,hn=>by
  have : n=0:=by simpa using hn
  subst this;rfl
 | f+1,n,x,hx,hn=>by
  have ih:=Ef h f (n / 2) (dQ P M mod x x) (ja h x x) (by rw [OO] at hn;omega);unfold fpw;split
  ·rename_i h0;subst h0;rfl
  ·rw [ih,Lu h hx];split
   ·rename_i h1;have e : n=2 * (n / 2)+1:=by omega
    have e2 : pw P M mod x n=pw P M mod x (2 * (n / 2)+1):=congrArg _ e;rw [e2];rfl
   ·rename_i h1;have e : n=2 * (n / 2):=by omega
    exact (congrArg _ e).symm
structure Ord (P : Int) (M : Nat) (mod : Lz) (q : Nat) (x : Int) : Prop where
 one : pw P M mod x (q - 1)=1
 ne : ∀k,0<k->k<q - 1->pw P M mod x k ≠ 1
theorem Fl (h : oL P M) {a : Nat} (h1 : pw P M mod x a=1) : ∀n,pw P M mod x (a * n)=1
 | 0=>rfl
 | n+1=>by rw [PZ,<- kN h,Fl h h1 n,h1,ku h (zI h)]
theorem KW (h : oL P M) {a b : Nat} (ha : pw P M mod x a=1) (hb : pw P M mod x b=1) : pw P M mod x (a % b)=1:=by have e : a=b * (a / b)+a % b:=(O7 a b).symm;rw [e,<- kN h,Fl h hb,ku h (uo h x _)] at ha;exact ha
theorem Md (h : oL P M) : ∀(b a : Nat),pw P M mod x a=1->pw P M mod x b=1->pw P M mod x (Nat.gcd b a)=1:=by
 intro b;induction b using Nat.strongRecOn with
 | ind b ih =>
  intro a ha hb
  by_cases h0 : b=0
  ·subst h0;rw [Nat.gcd_zero_left];exact ha
  ·rw [Nat.gcd_rec]
   exact ih (a % b) (O1 _ (by omega)) b hb (KW h ha hb)
theorem Ord.of (h : oL P M) (hx : gq P M x) (hq : q<=256) (ho : BQ (dQ P M mod) q x=true) : Ord P M mod q x:=by
 unfold BQ at ho;rw [NK] at ho;obtain ⟨h1,h2⟩:=ho;have h1':=eq_of_beq h1;rw [Ef h 8 _ x hx (by omega)] at h1';refine ⟨h1',λk hk0 hk1 hk=>?_⟩;have hg:=Md h k (q - 1) h1' hk;have hgd : Nat.gcd k (q - 1) ∣ q - 1:=Nat.gcd_dvd_right _ _;have hgl : Nat.gcd k (q - 1)<=k:=Nat.gcd_le_left _ hk0;have hg0 : 0<Nat.gcd k (q - 1):=Nat.gcd_pos_of_pos_left _ hk0;have h3:=List.all_eq_true.1 h2 (Nat.gcd k (q - 1)) (List.mem_range.2 (by omega));have h4 : (q - 1) % Nat.gcd k (q - 1)=0:=Nat.mod_eq_zero_of_dvd hgd;simp only [Qp,beq_iff_eq,bne_iff_ne,ne_eq] at h3;rcases h3 with (h3 | h3) | h3
 ·omega
 ·exact h3 h4
 ·rw [Ef h 8 _ x hx (by omega)] at h3;exact h3 hg
theorem Ord.nz (h : oL P M) (o : Ord P M mod q x) {k : Nat} (hk : k<q - 1) : pw P M mod x k ≠ 0:=by intro h0;have h1:=kN (mod:=mod) h x k (q - 1 - k);rw [h0,ld h,tK h,show k+(q - 1 - k)=q - 1 by omega,o.one] at h1;omega
theorem Ord.inj (h : oL P M) (o : Ord P M mod q x) {i j : Nat} (hij : i<j) (hj : j<q - 1) : pw P M mod x i ≠ pw P M mod x j:=by
 intro e;have h1:=kN (mod:=mod) h x i (q - 1 - i);have h2:=kN (mod:=mod) h x j (q - 1 - i);rw [show i+(q - 1 - i)=q - 1 by omega,o.one,e,h2] at h1;have h3 : pw P M mod x (j - i)=1:=by have h4:=kN (mod:=mod) h x (j - i) (q - 1);rw [o.one,ld h,ku h (uo h x _),show j - i+(q - 1)=j+(q - 1 - i) by omega,h1] at h4;exact h4
 exact o.ne (j - i) (by omega) (by omega) h3
theorem xd (h : oL P M) (hx : gq P M x) (o : Ord P M mod q x) : ∀(n k : Nat),k<=q - 1->q - 1 - k<n->0<k ->
  powTo (λz=>dQ P M mod z x) n ((List.range k).map λi=>pw P M mod x i) (pw P M mod x k)=(List.range (q - 1)).map λi=>pw P M mod x i
 | 0,k,_,hn,_=>by omega
 | n+1,k,hk,hn,h0=>by
  by_cases hke : k=q - 1
  ·subst hke;refine lA _ _ _ _ (.inr ?_);rw [o.one,Pp];exact ⟨0,List.mem_range.2 h0,rfl⟩
  ·rw [vq]
   ·have e : (List.range k).map (λi=>pw P M mod x i) ++ [pw P M mod x k]=(List.range (k+1)).map λi=>pw P M mod x i:=by rw [Ou,NM];rfl
    rw [e];exact xd h hx o n (k+1) (by omega) (by omega) (by omega)
   ·rintro (h1 | h1)
    ·exact o.nz h (by omega) h1
    ·obtain ⟨i,hi,e⟩:=List.mem_map.1 h1;exact o.inj h (List.mem_range.1 hi) (by omega) e
theorem Ord.je (h : oL P M) (hx : gq P M x) (hq : 2<=q) (o : Ord P M mod q x) : je P M mod q x=true:=by
 have hl : gV P M mod q x=(List.range (q - 1)).map λi=>pw P M mod x i:=by
  by_cases h2 : q=2
  ·subst h2;have : x=1:=by have:=o.one;rwa [show 2 - 1=1 from rfl,DT h hx] at this
   subst this;rw [gV,lA _ _ _ _ (.inr (by simp))];rfl
  ·have:=xd h hx o q 1 (by omega) (by omega) (by omega);rw [DT h hx] at this;exact this
 unfold Proofs.YthglbncgemdcbaaGreat.je;rw [hl,NK];refine ⟨by simp,?_⟩;have e : nth ((List.range (q - 1)).map λi=>pw P M mod x i) (q - 2)=pw P M mod x (q - 2):=by rw [aj (by simp;omega)];simp
 rw [e];have : dQ P M mod (pw P M mod x (q - 2)) x=pw P M mod x (q - 1):=by rw [show q - 1=(q - 2)+1 by omega];rfl
 rw [this,o.one];rfl
theorem vY : ∀(n x y : Nat),2<=q->x<=y->y<x+n->je P M mod q y=true->genTo P M mod q n x ≠ []
 | 0,x,y,_,h1,h2,_=>by omega
 | n+1,x,y,hq,h1,h2,hg=>by
  rw [genTo];by_cases hx : je P M mod q x=true
  ·rw [Nd hx];intro e;simp only [je,NK,beq_iff_eq] at hx;rw [e] at hx;simp at hx;omega
  ·rw [Nf hx];refine vY n (x+1) y hq ?_ (by omega) hg;rcases Rm h1 with h3 | h3
   ·subst h3;exact absurd hg hx
   ·exact h3
theorem BM {ex : Lz} {y a b : Int} (g : xN P M mod q y ex) (ha : gq P M a) (hb : gq P M b) (ha0 : a ≠ 0) (hb0 : b ≠ 0) : dQ P M mod a b ≠ 0:=by obtain ⟨i,_,rfl,_⟩:=g.log ha ha0;obtain ⟨j,_,rfl,_⟩:=g.log hb hb0;rw [kN g.res];exact g.Lr _
end
theorem G3 {P : Int} {M q : Nat} {l : List (Nat × Nat)} (h : il P M q l) {v : Nat} (hv : v<q) : ∃c,Dd P M q v c=true:=⟨_,h v hv⟩
theorem MA (p m : Nat) (hp : js p=true) (h2 : 2<=p) (hm : 2<=m) (hm8 : m<=8) (hpw : (p : Int) ^ m<=256) : ∃l,il p m (((p : Int) ^ m).toNat) l:=by
 have hp16 : p<=16:=by
  have h1:=dy (P:=(p : Int)) (by omega) hm;have h3 : (p : Int) ^ 2=p * p:=by rw [N4,N4,OT,Pq]
  rcases N3 16 p with h4 | h4
  ·have h5 : 17 * 17<=p * p:=PU h4 h4;have h6 : ((17 * 17 : Nat) : Int)<=((p * p : Nat) : Int):=Int.ofNat_le.2 h5;rw [QW] at h6;omega
  ·exact h4
 have hc : p=2\/p=3\/p=4\/p=5\/p=6\/p=7\/p=8\/p=9\/p=10\/p=11\/p=12\/p=13\/p=14\/p=15\/p=16:=by omega
 have hd : m=2\/m=3\/m=4\/m=5\/m=6\/m=7\/m=8:=by omega
 rcases hc with rfl | rfl | rfl | rfl | rfl | rfl | rfl | rfl | rfl | rfl | rfl | rfl | rfl | rfl | rfl
 ·rcases hd with rfl | rfl | rfl | rfl | rfl | rfl | rfl
  ·exact ⟨_,LK⟩
  ·exact ⟨_,LN⟩
  ·exact ⟨_,Ly⟩
  ·exact ⟨_,LP⟩
  ·exact ⟨_,LY⟩
  ·exact ⟨_,LG⟩
  ·exact ⟨_,L4⟩
 ·rcases hd with rfl | rfl | rfl | rfl | rfl | rfl | rfl
  ·exact ⟨_,LF⟩
  ·exact ⟨_,Mf⟩
  ·exact ⟨_,LA⟩
  ·exact ⟨_,LI⟩
  ·exact absurd hpw (by decide)
  ·exact absurd hpw (by decide)
  ·exact absurd hpw (by decide)
 ·exact absurd hp (by decide)
 ·rcases hd with rfl | rfl | rfl | rfl | rfl | rfl | rfl
  ·exact ⟨_,Mj⟩
  ·exact ⟨_,Lx⟩
  ·exact absurd hpw (by decide)
  ·exact absurd hpw (by decide)
  ·exact absurd hpw (by decide)
  ·exact absurd hpw (by decide)
  ·exact absurd hpw (by decide)
 ·exact absurd hp (by decide)
 ·rcases hd with rfl | rfl | rfl | rfl | rfl | rfl | rfl
  ·exact ⟨_,LR⟩
  ·exact absurd hpw (by decide)
  ·exact absurd hpw (by decide)
  ·exact absurd hpw (by decide)
  ·exact absurd hpw (by decide)
  ·exact absurd hpw (by decide)
  ·exact absurd hpw (by decide)
 ·exact absurd hp (by decide)
 ·exact absurd hp (by decide)
 ·exact absurd hp (by decide)
 ·rcases hd with rfl | rfl | rfl | rfl | rfl | rfl | rfl
  ·exact ⟨_,Kq⟩
  ·exact absurd hpw (by decide)
  ·exact absurd hpw (by decide)
  ·exact absurd hpw (by decide)
  ·exact absurd hpw (by decide)
  ·exact absurd hpw (by decide)
  ·exact absurd hpw (by decide)
 ·exact absurd hp (by decide)
 ·rcases hd with rfl | rfl | rfl | rfl | rfl | rfl | rfl
  ·exact ⟨_,KT⟩
  ·exact absurd hpw (by decide)
  ·exact absurd hpw (by decide)
  ·exact absurd hpw (by decide)
  ·exact absurd hpw (by decide)
  ·exact absurd hpw (by decide)
  ·exact absurd hpw (by decide)
 ·exact absurd hp (by decide)
 ·exact absurd hp (by decide)
 ·exact absurd hp (by decide)
theorem Kh {P : Int} {m : Nat} (hf : RF P m) {mod : Lz} (hd : eD P mod) (hl : mod.length=m) : 0<=valu P mod/\valu P mod<P ^ m:=by have:=si (P:=P) (by have:=hf.p2;omega) mod hd;rwa [hl] at this
theorem bP (P M : Int) (mod : Lz) : ch P M mod=bA P M mod:=by
 by_cases hs : dg P M mod=true
 ·unfold ch bA;rw [hs,OD,OD];have hs2:=hs;unfold dg at hs2;simp only [NK,bne_iff_ne,ne_eq] at hs2;obtain ⟨⟨h1,h2⟩,h3⟩:=hs2;obtain ⟨m,rfl,hrf⟩:=RF.of h1;obtain ⟨p,rfl⟩ : ∃p : Nat,P=p:=⟨P.toNat,by have:=hrf.p2;omega⟩
  rw [Nb] at h2 ⊢;have hp2 : 2<=p:=by have:=hrf.p2;omega
  have hp256 : p<=256:=by have:=hrf.p256;omega
  have hord:=hrf.order;have hres:=hrf.res;obtain ⟨q,hq⟩ : ∃q : Nat,(p : Int) ^ m=q:=⟨((p : Int) ^ m).toNat,by have:=one_lt_pow hres;omega⟩
  have hq2 : 2<=q:=by have:=one_lt_pow hres;omega
  have hq256 : q<=256:=by have:=hrf.pw;omega
  rw [hord,hq,Nb];have hgen : ∀x : Nat,0<x->x<q->BQ (dQ p m mod) q x=true->(ji p m mod q).isEmpty=false:=λx hx0 hx1 ho=>by
   have hel : gq (p : Int) m x:=⟨by omega,by rw [hq];omega⟩
   have hg:=(Ord.of hres hel hq256 ho).je hres hel hq2;have:=vY (P:=p) (M:=m) (mod:=mod) (q - 1) 1 x hq2 (by omega) (by omega) hg;unfold ji;cases h : genTo p m mod q (q - 1) 1 with
   | nil=>exact absurd h this
   | cons y l=>rfl
  by_cases hm : m=1
  ·subst hm;have hmod : mod=[]:=by rw [Nd (by simp)] at h3;exact NL (by simpa using h3)
   subst hmod;have hr:=List.all_eq_true.1 JP p (List.mem_range.2 (by omega));have hp2' : decide (p<2)=false:=by simp;omega
   rw [hp2',h2] at hr;simp only [Bool.not_true,Bool.false_or,P0] at hr;obtain ⟨c,hc,hcp⟩:=hr;have hck:=List.all_eq_true.1 MW c hc;have hcp2 : c.1=p:=by simpa using hcp
   unfold Mw at hck;rw [hcp2] at hck;simp only [NK,N8] at hck;have hqp : q=p:=by
    have : (p : Int) ^ 1=p:=by rw [N4,OT,Pq]
    omega
   rw [hgen c.2 hck.1.2 (by omega) (by rw [hqp];exact hck.1.1)];rfl
  ·have hM : ¬ (m : Int)=1:=by omega
   rw [Nf hM] at h3;simp only [NK,N8] at h3;have hlen : mod.length=m:=by omega
   have hdig : eD (p : Int) mod:=SI (by omega) λx hx=>by have:=List.all_eq_true.1 h3.2 x hx;simpa using this
   have hv:=Kh hrf hdig hlen;obtain ⟨v,hvv⟩ : ∃v : Nat,valu p mod=v:=⟨(valu p mod).toNat,by omega⟩
   have hdv : digs v p m=mod:=by rw [<- hvv,<- hlen];exact qw mod hdig
   obtain ⟨l,hl⟩:=MA p m h2 hp2 (by have:=hrf.m1;omega) hrf.m8 hrf.pw;rw [hq,Nb] at hl;obtain ⟨c,hc⟩:=G3 hl (v:=v) (by omega);have hM' : ((m : Int) == 1)=false:=by simpa using hM
   rw [hM',Bool.false_or];unfold Dd at hc;rw [hdv] at hc;split at hc
   ·simp only [NK,N8] at hc;rw [hc.1.1.1,hgen c.1 hc.1.2 hc.2 hc.1.1.2];rfl
   ·rename_i hc2;simp only [NK,N8,Bool.not_eq_true',beq_iff_eq] at hc;rw [hc.1.1.1.1];cases h : (ji p m mod q).isEmpty with
    | true=>rfl
    | false =>
     exfalso
     have hne : ji p m mod q ≠ []:=λe=>by rw [e] at h;cases h
     obtain ⟨y,hy1,hy2,hy3,hy4⟩:=tR hne
     have g:=xN.CL (mod:=mod) hres hq.symm ⟨by omega,by omega⟩ hy3
     exact BM g (a:=(c.1 : Int)) (b:=(c.2 : Int)) ⟨by omega,by omega⟩ ⟨by omega,by omega⟩ (by omega) (by omega) hc.1.1.1.2
 ·have hs' : dg P M mod=false:=by simpa using hs
  simp [ch,bA,hs']
def Aj (O : aL) (L : ZZ) (cols : Nat) : ZZ:=(aD O L cols).1.take (aD O L cols).2.length
def wq (O : aL) (L : ZZ) (cols : Nat) (w : World) (e : Ending) (w' : World) : Prop :=
 ∃a c ap cp,e = .returned (.tuple #[.slice a (aD O L cols).2.length c,.slice ap (aD O L cols).2.length cp])/\dq w.heap.size w' a (aD O L cols).2.length (Aj O L cols) /\
  cR w.heap.size w' ap (aD O L cols).2.length (aD O L cols).2/\SW w w'
theorem n7 (P : Int) (m : Nat) (am : OA) (mn cm : Nat) (mod : Lz) (a : OA) (n c cols : Nat) (L : ZZ) (w : World) (hf : uM w P m am mn mod) (hi : br w a n L)
  (hR : bp (gq P m) cols L) (hlen : cols<=1000000) (hn : n<=1000000) (hinv : ∀p,gq P m p->p ≠ 0->(jS P m mod p=1 ↔ p=1)) :
  Calls prog 124 #[.agg #[.int .i64 P,.int .i64 m,.slice am mn cm],.slice a n c,.int .i64 cols] w (wq (kM P m mod) L cols w):=by
 have Hlen:=Z5 hi.len;have Hc : Hid (∀V,SW w V->Calls prog 179 #[.agg #[.int .i64 P,.int .i64 m,.slice am mn cm],.slice a n c,.int .i64 cols] V (nc (kM P m mod) L cols V)) :=
  λV hV=>qt P m am mn cm mod a n c cols cols L V (hf.ah hV) (hi.ah hV) hR (Na _) hlen hn hinv
 obtain ⟨O,hO⟩ : ∃O,kM P m mod=O:=⟨_,rfl⟩
 rw [hO] at Hc ⊢;clear hO hinv hR;go_enter func124,ntmps124;go_wp2_with fail;obtain ⟨W,hW⟩ : ∃W : World,W=w.alloc (.cells #[.int .i64 P,.int .i64 m,.slice am mn cm] 24):=⟨_,rfl⟩
 rw [<- hW];have hbW : SW w W:=by rw [hW];exact an _ _
 clear hW;refine (Hc.out W hbW).mono ?_;rintro e w1 ⟨a1,c1,R1,ap,cp,rfl,hO1,hp1,hb1⟩;have hpl:=fh O L cols;have hcap:=ox hO1.own;have hpv:=(SP hp1).mono hbW.size;have hmt:=((SL hO1).take (k:=(aD O L cols).2.length) hpl.2).mono hbW.size;have hF : wq O L cols w (.returned (.tuple #[.slice a1 (aD O L cols).2.length c1,.slice ap (aD O L cols).2.length cp])) w1:=⟨a1,_,ap,cp,rfl,hmt,hpv,RZ hbW hb1⟩
 have HF:=Z5 hF;have hle : (aD O L cols).2.length<=c1:=Nr hpl.2 hcap;clear hF hpv hmt hp1 hcap hpl;generalize (aD O L cols).2.length=k at *;go_wp2_with fail;go_ret2;simpa using HF.out
def jl (P M : Int) (mod : Lz) (cols : Int) (L : ZZ) : Int :=
 if jd P M mod cols L=0 then (if Aj (kM P M.toNat mod) L cols.toNat=L then 0 else 5) else jd P M mod cols L
theorem dm {P M : Int} {mod : Lz} (h : ch P M mod=true) : ∃m : Nat,M=m/\RF P m/\(∀(w : World) am mn,Ints w am mn mod->B7 w P m am mn mod):=by
 unfold ch dg at h;simp only [NK,bne_iff_ne,ne_eq] at h;obtain ⟨⟨⟨h1,h2⟩,h3⟩,h4⟩:=h;obtain ⟨m,rfl,hrf⟩:=RF.of h1;refine ⟨m,rfl,hrf,λw am mn hi=>⟨hi,λhm=>?_,?_⟩⟩
 ·rw [Nf (by omega)] at h3;simp only [NK,N8] at h3;have:=hi.len;omega
 ·by_cases hm : (m : Int)=1
  ·rw [Nd hm] at h3;have : mod=[]:=NL (by simpa using h3);subst this;exact SI (by have:=hrf.p2;omega) (by simp)
  ·rw [Nf hm] at h3;simp only [NK] at h3;refine SI (by have:=hrf.p2;omega) λx hx=>?_;have:=List.all_eq_true.1 h3.2 x hx;simpa using this
theorem Dx {P M : Int} {mod : Lz} {cols : Int} {L : ZZ} (h : jd P M mod cols L=0) : ch P M mod=true/\iB (aJ P M) cols L=0:=by
 unfold jd at h;split at h
 ·rename_i h1;exact ⟨h1,h⟩
 ·omega
theorem uH (P M : Int) (am : OA) (mn cm : Nat) (mod : Lz) (cols : Int) (a : OA) (n c : Nat) (L : ZZ) (w : World) (hmod : Ints w am mn mod) (hi : br w a n L)
  (hinv : ch P M mod=true->∀p,gq P M.toNat p->p ≠ 0->(jS P M.toNat mod p=1 ↔ p=1)) :
  Calls prog 86 #[.agg #[.int .i64 P,.int .i64 M,.slice am mn cm],.agg #[.int .i64 cols,.slice a n c]] w λe w'=>e = .returned (.int .i64 (jl P M mod cols L))/\SW w w':=by
 have Hlen:=Z5 hi.len;have Hinv:=Z5 hinv;clear hinv;go_enter func86,ntmps86;go_wp2_with fail;obtain ⟨W,hW⟩ : ∃W : World,W=(w.alloc (.cells #[.int .i64 P,.int .i64 M,.slice am mn cm] 24)).alloc (.cells #[.int .i64 cols,.slice a n c] 94):=⟨_,rfl⟩
 rw [<- hW];have hbW : SW w W:=by rw [hW];exact bN _ _ _
 have x0 : aN W w.heap.size [.int .i64 P,.int .i64 M,.slice am mn cm]:=by rw [hW];exact (R9 _ _ _ rfl).alloc _
 have y0 : aN W (w.heap.size+1) [.int .i64 cols,.slice a n c]:=by rw [hW];exact R9 _ _ _ (by simp)
 have HX:=Z5 (Np x0 y0);have hiW:=hi.ah hbW;have hmW:=hmod.ah hbW;clear hW x0 y0;refine (mA P M am mn cm mod cols a n c L W hmW hiW).mono ?_;rintro e w1 ⟨rfl,hb1⟩;have hbw1:=RZ hbW hb1;by_cases hE : jd P M mod cols L=0
 ·obtain ⟨hB,hm⟩:=Dx hE;obtain ⟨m,rfl,hrf,hmods⟩:=dm hB;obtain ⟨k,rfl,hk,hl,hR⟩:=qC hm;have HE : Hid (jl P m mod k L=if Aj (kM P m mod) L k=L then 0 else 5):=by show _=_;rw [jl,Nd hE,Nb,Nb]
  rw [hE];have hinv:=Hinv.out hB;rw [Nb] at hinv;have hRw : bp (gq P m) k L:=λr hr=>⟨(hR r hr).1,λx hx=>by have:=(hR r hr).2 x hx;rw [hrf.order] at this;exact this⟩
  have x1:=HX.out.1.ah hb1;have y1:=HX.out.2.ah hb1;have d0:=x1.cell 0 rfl;have d1:=x1.cell 1 rfl;have d2:=x1.cell 2 rfl;have d3:=y1.cell 0 rfl;have d4:=y1.cell 1 rfl;have hm1:=hmW.ah hb1;have hi1:=hiW.ah hb1;have hn : n<=1000000:=by rw [<- Hlen.out];omega
  have HC:=Z5 (n7 P m am mn cm mod a n c k L w1 ⟨hrf,hmods w1 am mn hm1⟩ hi1 hRw (by omega) hn hinv);clear hE hB hm hmods hR hinv hRw x1 y1;obtain ⟨O,hO⟩ : ∃O,kM P m mod=O:=⟨_,rfl⟩
  rw [hO] at HC HE;clear hO;go_wp2_with fail;refine HC.out.mono ?_;rintro e w2 ⟨a2,c2,ap,cp,rfl,hM2,hp2,hb2⟩;have hbw2:=RZ hbw1 hb2;have y2:=(HX.out.2.ah hb1).ah hb2;have d3:=y2.cell 0 rfl;have d4:=y2.cell 1 rfl;have hi2:=hi1.ah hb2;have hM3:=hM2.jt;have HS:=Z5 (kb a2 (aD O L k).2.length c2 (Aj O L k) a n c L hM3 hi2);clear hM2 hp2 y2;generalize (aD O L k).2.length=kk at *;by_cases hc : Aj O L k=L
  ·have hc' : decide (Aj O L k=L)=true:=by simpa using hc
   have HF : Hid (jl P m mod k L=0):=by show _=_;rw [HE.out,Nd hc]
   rw [hc'] at HS;clear hc hc';go_wp2_with fail;refine HS.out.mono ?_;rintro e w3 ⟨rfl,hd3⟩;go_wp2_with fail;go_ret;exact ⟨aP HF.out.symm,RZ hbw2 hd3.below⟩
  ·have hc' : decide (Aj O L k=L)=false:=by simpa using hc
   have HF : Hid (jl P m mod k L=5):=by show _=_;rw [HE.out,Nf hc]
   rw [hc'] at HS;clear hc hc';go_wp2_with fail;refine HS.out.mono ?_;rintro e w3 ⟨rfl,hd3⟩;go_wp2_with fail;go_ret;exact ⟨aP HF.out.symm,RZ hbw2 hd3.below⟩
 ·have HE : Hid (jl P M mod cols L=jd P M mod cols L):=by show _=_;rw [jl,Nf hE]
  have hE' : (jd P M mod cols L != 0)=true:=by simpa using hE
  clear hE;go_wp2_with fail;go_ret;exact ⟨aP HE.out.symm,hbw1⟩
theorem K3 {N : Int} (h : N<1) : kY N=4:=by rw [kY,Nd (.inl h)]
theorem Kz {N : Int} (h : 64<N) : kY N=4:=by rw [kY,Nd (.inr h)]
theorem uY {N : Int} (h1 : ¬ N<1) (h2 : ¬ 64<N) : kY N=0:=by rw [kY,Nf (by omega)]
def mC (P M : Int) (mod : Lz) (N : Int) (L : ZZ) : Int :=
 if ch P M mod=true then (if kY N=0 then jl P M mod N L else 4) else 1
theorem iL (P M : Int) (am : OA) (mn cm : Nat) (mod : Lz) (N : Int) (a : OA) (n c : Nat) (L : ZZ) (w : World) (hmod : Ints w am mn mod) (hi : br w a n L)
  (hinv : ch P M mod=true->∀p,gq P M.toNat p->p ≠ 0->(jS P M.toNat mod p=1 ↔ p=1)) :
  Calls prog 35 #[.agg #[.int .i64 P,.int .i64 M,.slice am mn cm,.int .i64 N,.slice a n c]] w λe w'=>e = .returned (.int .i64 (mC P M mod N L))/\SW w w':=by
 have Hinv:=Z5 hinv;clear hinv;go_enter func35,ntmps35;go_wp2_with fail;obtain ⟨W,hW⟩ : ∃W : World,W=w.alloc (.cells #[.int .i64 P,.int .i64 M,.slice am mn cm,.int .i64 N,.slice a n c] 27):=⟨_,rfl⟩
 rw [<- hW];have hbW : SW w W:=by rw [hW];exact an _ _
 have x0 : aN W w.heap.size [.int .i64 P,.int .i64 M,.slice am mn cm,.int .i64 N,.slice a n c]:=by rw [hW];exact R9 _ _ _ rfl
 have HX:=Z5 x0;clear hW x0;refine (oM P M am mn cm mod W (hmod.ah hbW)).mono ?_;rintro e w1 ⟨rfl,hb1⟩;have hbw1:=RZ hbW hb1;by_cases hB : ch P M mod=true
 ·have hE : dF (ch P M mod)=0:=by rw [hB];rfl
  rw [hE];have HB : Hid (mC P M mod N L=if kY N=0 then jl P M mod N L else 4):=by show _=_;rw [mC,Nd hB]
  have x1:=HX.out.ah hb1;have c0:=x1.cell 0 rfl;have c1:=x1.cell 1 rfl;have c2:=x1.cell 2 rfl;have c3:=x1.cell 3 rfl;have c4:=x1.cell 4 rfl;have hm1:=(hmod.ah hbW).ah hb1;have hi1:=(hi.ah hbW).ah hb1;clear hE hB x1;by_cases h1 : N<1
  ·have Hf : Hid (mC P M mod N L=4):=by show _=_;rw [HB.out,K3 h1];rfl
   have t1 : decide (N<1)=true:=by simpa using h1
   go_wp2_with fail;go_ret;exact ⟨aP Hf.out.symm,hbw1⟩
  ·have t1 : decide (N<1)=false:=by simpa using h1
   by_cases h2 : 64<N
   ·have Hf : Hid (mC P M mod N L=4):=by show _=_;rw [HB.out,Kz h2];rfl
    have t2 : decide (64<N)=true:=by simpa using h2
    go_wp2_with fail;go_ret;exact ⟨aP Hf.out.symm,hbw1⟩
   ·have t2 : decide (64<N)=false:=by simpa using h2
    have Hf : Hid (mC P M mod N L=jl P M mod N L):=by show _=_;rw [HB.out,uY h1 h2,Nd rfl]
    clear h1 h2;go_wp2_with fail;refine (uH P M am mn cm mod N a n c L w1 hm1 hi1 Hinv.out).mono ?_;rintro e w2 ⟨rfl,hb2⟩;go_wp2_with fail;go_ret;exact ⟨aP Hf.out.symm,RZ hbw1 hb2⟩
 ·have hB' : ch P M mod=false:=by simpa using hB
  have Hf : Hid (mC P M mod N L=1):=by show _=_;rw [mC,Nf hB]
  have hE : dF (ch P M mod)=1:=by rw [hB'];rfl
  rw [hE];clear hB hB' hE;go_wp2_with fail;go_ret;exact ⟨aP Hf.out.symm,hbw1⟩
theorem xw (f : Int->Int) : ∀(n : Nat) (y z : Int),y<=z->z<y+n->f z=1->f (invTo f n y)=1/\y<=invTo f n y/\invTo f n y<y+n
 | 0,y,z,h1,h2,_=>by omega
 | n+1,y,z,h1,h2,hz=>by
  unfold invTo;split
  ·exact ⟨by assumption,by omega,by omega⟩
  ·rename_i hn;have hne : y ≠ z:=λe=>hn (e ▸ hz);have:=xw f n (y+1) z (by omega) (by omega) hz;exact ⟨this.1,by omega,by omega⟩
theorem dB {P M : Int} {mod : Lz} (h : bA P M mod=true) : ∃m : Nat,M=m/\gq P m=(af P m mod).El/\((af P m mod).q : Int)=aJ P M/\bF (af P m mod).ops (gq P m)/\J4 (af P m mod).ops (kM P m mod) (gq P m) /\
  ∀p,gq P m p->p ≠ 0->(jS P m mod p=1 ↔ p=1):=by
 have hF:=dM h;obtain ⟨m,y,rfl,hr,h256,hsh,hq,g⟩:=ob h;have hrf : RF P m:=by
  obtain ⟨m',e,h2,_⟩:=dm (by rw [bP];exact h);have : m=m':=by omega
  rw [this];exact h2
 rw [Nb] at hF;have e : gq P m=(af P m mod).El:=by funext x;simp only [dn.El,af,gq];rw [hq]
 rw [<- e] at hF;have hq2:=g.q2;have hmul : ∀x z,gq P m x->gq P m z->(af P m mod).ops.mul x z=mulR P m mod x z:=λx z hx hz=>by rw [K2 hrf];exact g.va hx hz
 have hqo : ((aJ P m).toNat : Int)=aJ P m:=by omega
 have hinv : ∀x,gq P m x->x ≠ 0->(af P m mod).ops.inv x=jS P m mod x:=by
  intro x hx h0;have hi:=hF.cl.inv x hx h0;have hm:=hF.mul_inv x hx h0;rw [hmul x _ hx hi] at hm;have hi0 : (af P m mod).ops.inv x ≠ 0:=by intro e0;have h2:=hF.mul_inv x hx h0;rw [e0,hF.cQ hx] at h2;exact absurd h2 (by decide)
  have hb1:=hi.1;have hb2:=hi.2;obtain ⟨h1,h2,h3⟩:=xw (mulR P m mod x) ((aJ P m).toNat - 1) 1 _ (by omega) (by omega) hm;have hel : gq P m (jS P m mod x):=⟨by unfold jS;omega,by unfold jS;omega⟩
  have h4 : (af P m mod).ops.mul x (jS P m mod x)=1:=by rw [hmul x _ hx hel];exact h1
  have h5:=hF.mul_inv x hx h0;have e1 : (af P m mod).ops.mul ((af P m mod).ops.inv x) ((af P m mod).ops.mul x (jS P m mod x))=jS P m mod x:=by rw [<- hF.mul_assoc _ x _ hi hx hel,hF.mul_comm _ x hi hx,h5,hF.one_mul _ hel]
  rw [h4,hF.ie hi] at e1;exact e1
 refine ⟨m,rfl,e,hqo,hF,⟨λx z _ _=>rfl,hmul,λx _=>rfl,hinv⟩,λp hp h0=>?_⟩;rw [<- hinv p hp h0];have hi:=hF.cl.inv p hp h0;have hm:=hF.mul_inv p hp h0;constructor
 ·intro e1;rw [e1,hF.ie hp] at hm;exact hm
 ·intro e1;rw [e1] at hm hi ⊢;rw [hF.one_mul _ hi] at hm;exact hm
theorem iQ {P M : Int} {mod : Lz} (h : ch P M mod=true) : ∀p,gq P M.toNat p->p ≠ 0->(jS P M.toNat mod p=1 ↔ p=1):=by obtain ⟨m,rfl,_,_,_,_,h6⟩:=dB (by rw [<- bP];exact h);exact h6
theorem vH (P M : Int) (mod : Lz) (cols : Int) (L : ZZ) : jd P M mod cols L=eJ P M mod cols L:=by
 unfold jd eJ;rw [bP];split
 ·rename_i h;obtain ⟨m,rfl,_,hq,_⟩:=dB h;rw [Nb,hq]
 ·rfl
theorem Fj {P M : Int} {mod : Lz} (h : bA P M mod=true) {L : ZZ} {m : Nat} (hL : bp (af P M.toNat mod).El m L) : Aj (kM P M.toNat mod) L m=dc (af P M.toNat mod) L m:=by obtain ⟨k,rfl,he,_,hF,hA,_⟩:=dB h;rw [Nb] at hL ⊢;rw [<- he] at hL;unfold Aj dc;rw [(iN hA hF.cl hL m (Na _)).1]
theorem DA (P M : Int) (mod : Lz) (cols : Int) (L : ZZ) : jl P M mod cols L=eB P M mod cols L:=by
 unfold jl eB;rw [vH];split
 ·rename_i h0;obtain ⟨h1,h2⟩:=nP h0;obtain ⟨m,rfl,_,_,hR⟩:=qC h2;rw [Nb,Fj h1 hR]
 ·rfl
theorem mZ (P M : Int) (mod : Lz) (N : Int) (L : ZZ) : mC P M mod N L=aF P M mod N L:=by unfold mC aF;rw [bP,DA]
theorem aM {P M : Int} {mod : Lz} {N : Int} {L : ZZ} (h : aF P M mod N L=0) : ∃n : Nat,N=n/\1<=n/\n<=64/\bF (af P M.toNat mod).ops (af P M.toNat mod).El/\bp (af P M.toNat mod).El n L:=by obtain ⟨m,rfl,h1,h2,_,hR⟩:=bJ h;exact ⟨m,rfl,h1,h2,dM (aG h).1,hR⟩
theorem ru (x : Nat) (i : Int) : ∀k,i ∈ dS x k ↔ ∃j : Nat,j<k/\i=j/\x.testBit j=true
 | 0=>by simp [dS]
 | k+1=>by
  have ih:=ru x i k;unfold dS;split
  ·rename_i ht;rw [Ol,ih,N6];constructor
   ·rintro (⟨j,h1,h2,h3⟩ | rfl)
    ·exact ⟨j,by omega,h2,h3⟩
    ·exact ⟨k,by omega,rfl,ht⟩
   ·rintro ⟨j,h1,h2,h3⟩;by_cases e : j=k
    ·subst e;exact .inr h2
    ·exact .inl ⟨j,by omega,h2,h3⟩
  ·rename_i ht;rw [ih];constructor
   ·rintro ⟨j,h1,h2,h3⟩;exact ⟨j,by omega,h2,h3⟩
   ·rintro ⟨j,h1,h2,h3⟩;by_cases e : j=k
    ·subst e;exact absurd h3 ht
    ·exact ⟨j,by omega,h2,h3⟩
theorem ow (x N : Nat) (i : Nat) : i ∈ kz (dS x N) (dS x N).length ↔ i<N/\x.testBit i=true:=by
 rw [ey];constructor
 ·rintro ⟨j,hj,e⟩;have hm : nth (dS x N) j ∈ dS x N:=aH hj;obtain ⟨t,h1,h2,h3⟩:=(ru x _ N).1 hm;have : t=i:=by omega
  subst this;exact ⟨h1,h3⟩
 ·rintro ⟨h1,h2⟩;have hm : (i : Int) ∈ dS x N:=(ru x _ N).2 ⟨i,h1,rfl,h2⟩;obtain ⟨j,hj,e⟩:=List.mem_iff_getElem.1 hm;exact ⟨j,hj,by rw [aj hj,e];rfl⟩
section
variable {P M : Int} {mod : Lz} {n : Nat} {L : ZZ}
end
theorem nE (f : Lz->Lz) (L : ZZ) {k : Nat} (hk : k<L.length) : ai (L.map f) k=f (ai L k):=by rw [aC (by simpa using hk),aC hk];simp
section
open Go.RowKit
end
theorem xy (x : Nat) : ∀k,k<=64->(dS x k).length+(dS (wS x) k).length=k
 | 0,_=>rfl
 | k+1,hk=>by have ih:=xy x k (by omega);have hc:=yA x k (by omega);rw [dS,dS,hc];cases hx : x.testBit k <;> simp <;> omega
theorem Ig (a : OA) (n c : Nat) (l : Lz) (v : Int) (w : World) (h : Ints w a n l) :
  Calls prog 238 #[.slice a n c,.int .i64 v] w λe w'=>∃z : Int,e = .returned (.int .i64 z)/\(0<=z ↔ v ∈ l)/\w'=w:=by
 have Hl:=Z5 h.len;have hpl:=h.pl;have hmax:=h.max;unfold maxLen at hmax;go_enter func238,ntmps238;go_wp2_with fail;go_loopw [8] (λiv wr=>∃k : Nat,k<=n/\iv = .int .i64 k/\Hid (∀j,j<k->nth l j ≠ v)/\wr=w) (λi _=>n - (intOf i).toNat);case atStart=>exact ⟨0,Ni _,rfl,λj hj=>by omega,rfl⟩
 case round =>
  obtain ⟨k,hk,rfl,hno,rfl⟩:=hrel
  by_cases hlt : k<n
  ·have c1:=h.cell k hlt
   by_cases he : nth l k=v
   ·have he' : (v == nth l k)=true:=by rw [he];simp
    have Hm : Hid (v ∈ l):=by show v ∈ l;rw [<- he];exact aH (by rw [Hl.out];exact hlt)
    clear he
    go_wp2_with fail
    go_ret
    exact ⟨k,rfl,⟨λ_=>Hm.out,λ_=>PD _⟩,rfl⟩
   ·have he' : (v == nth l k)=false:=by simpa using λe=>he e.symm
    have Hn2 : Hid (∀j,j<k+1->nth l j ≠ v):=λj hj=>by
     by_cases e : j=k
     ·subst e;exact he
     ·exact hno.out j (by omega)
    clear he
    go_wp2_with fail
    go_roundw
    case rel=>exact ⟨k+1,by omega,by go_num,Hn2.out,by simp⟩
    case measure=>simp [intOf] <;> omega
  ·obtain rfl : k=n:=by omega
   have Hm : Hid (¬ v ∈ l):=λhm=>by obtain ⟨j,hj,e⟩:=List.mem_iff_getElem.1 hm;rw [<- aj hj] at e;exact hno.out j (by have:=Hl.out;omega) e
   go_wp2_with fail
   go_ret
   exact ⟨-1,rfl,⟨λh=>absurd h (by omega),λh=>absurd h Hm.out⟩,rfl⟩
theorem dJ (a : OA) (n c : Nat) (l : Lz) (v : Int) (w : World) (h : Ints w a n l) :
  Calls prog 189 #[.slice a n c,.int .i64 v] w λe w'=>e = .returned (.bool (decide (v ∈ l)))/\w'=w:=by
 go_enter func189,ntmps189;go_wp2_with fail;refine (Ig a n c l v w h).mono ?_;rintro e w1 ⟨z,rfl,hz,rfl⟩;by_cases h0 : 0<=z
 ·have Hz : Hid (decide (v ∈ l)=true):=by show _=_;simpa using hz.1 h0
  have h0' : decide (0<=z)=true:=by simpa using h0
  clear hz h0;go_wp2_with fail;go_ret;exact ⟨aZ Hz.out.symm,rfl⟩
 ·have Hz : Hid (decide (v ∈ l)=false):=by show _=_;simpa using λh=>h0 (hz.2 h)
  have h0' : decide (0<=z)=false:=by simpa using h0
  clear hz h0;go_wp2_with fail;go_ret;exact ⟨aZ Hz.out.symm,rfl⟩
def aS (G : dn) (L : ZZ) (m : Nat) : ZZ:=dc G (cZ G.ops m (dc G L m) (bw G L m) m) m
def u7 (G : dn) (L : ZZ) (m : Nat) (w : World) (e : Ending) (w' : World) : Prop :=
 ∃a c,e = .returned (.tuple #[.agg #[.int .i64 m,.slice a (aS G L m).length c],.int .i64 0])/\dq w.heap.size w' a (aS G L m).length (aS G L m)/\SW w w'
theorem wY (P : Lz) : ∀k,(dK P k).length<=k
 | 0=>Na _
 | k+1=>by have:=wY P k;rw [dK];split <;> simp <;> omega
theorem DL (P M : Int) (am : OA) (mn cm : Nat) (mod : Lz) (m : Nat) (a : OA) (n c : Nat) (L : ZZ) (w : World) (hmod : Ints w am mn mod) (hi : br w a n L) (hE : aF P M mod m L=0) :
  Calls prog 133 #[.agg #[.int .i64 P,.int .i64 M,.slice am mn cm],.agg #[.int .i64 m,.slice a n c]] w (u7 (af P M.toNat mod) L m w):=by
 have Hlen:=Z5 hi.len;obtain ⟨N',e,hm1,hm64,F,hR⟩:=aM hE;obtain rfl : m=N':=by omega
 have hL256:=(bJ hE).choose_spec.2.2.2.1;have hn : n<=256:=by rw [<- hi.len];exact hL256
 obtain ⟨h5,h6⟩:=eS (aG hE).2.2.2;obtain ⟨hfB,h8⟩:=nP h5;have HR:=Z5 hR;have HF:=Z5 F;clear hE h5 h6 e hL256;go_enter func133,ntmps133;go_wp2_with fail;obtain ⟨W,hW⟩ : ∃W : World,W=((((w.alloc (.cells #[.int .i64 P,.int .i64 M,.slice am mn cm] 24)).alloc (.cells #[.int .i64 m,.slice a n c] 94)).alloc (.cells #[.int .i64 0,.slice none 0 0] 94)).alloc (.cells #[.int .i64 m,.slice a n c] 94)):=⟨_,rfl⟩
 rw [<- hW];have hbW : SW w W:=by rw [hW];exact ((((Nc _ _).alloc (Na _) _).alloc (by simp) _).alloc (by simp;omega) _).alloc (by simp;omega) _
 have hsW : W.heap.size=w.heap.size+4:=by rw [hW];simp
 have q1 : W.cell? ⟨w.heap.size+1,0,none⟩=some (.int .i64 m)/\W.cell? ⟨w.heap.size+1,1,none⟩=some (.slice a n c):=by rw [hW];exact ⟨bu (bu (aI _ _ _ (by simp) 0) _) _,bu (bu (aI _ _ _ (by simp) 1) _) _⟩
 have q2 : W.cell? ⟨w.heap.size+1+1,0,none⟩=some (.int .i64 0)/\W.cell? ⟨w.heap.size+1+1,1,none⟩=some (.slice none 0 0)/\W.frozen? ⟨w.heap.size+1+1,0,none⟩=false/\W.frozen? ⟨w.heap.size+1+1,1,none⟩=false:=by rw [hW];exact ⟨bu (aI _ _ _ (by simp) 0) _,bu (aI _ _ _ (by simp) 1) _,dX (by simp) (i7 _ _ _ (by simp) 0) _,dX (by simp) (i7 _ _ _ (by simp) 1) _⟩
 have q3 : W.cell? ⟨w.heap.size+1+1+1,0,none⟩=some (.int .i64 m)/\W.cell? ⟨w.heap.size+1+1+1,1,none⟩=some (.slice a n c):=by rw [hW];exact ⟨aI _ _ _ (by simp) 0,aI _ _ _ (by simp) 1⟩
 have hiW:=hi.ah hbW;have hMs : Ds W (some ⟨w.heap.size+1+1+1,0,none⟩) 1 [((m : Int),L)]:=⟨rfl,λ_=>rfl,by unfold maxLen;omega,λi hi=>by
  have : i=0:=by simp at hi;omega
  subst this;exact ⟨a,n,c,by simpa using q3.1,by simpa using q3.2,hiW⟩⟩
 have HsW:=Z5 hsW;clear hW hsW;refine (wV P M am mn cm mod _ 1 1 _ W (hmod.ah hbW) hMs).mono ?_;rintro e w1 ⟨hb1,hcase⟩;have hbw1:=RZ hbW hb1;have hq : ∀V,SW W V->V.cell? ⟨w.heap.size+1,0,none⟩=some (.int .i64 m)/\V.cell? ⟨w.heap.size+1,1,none⟩=some (.slice a n c)/\V.cell? ⟨w.heap.size+1+1,0,none⟩=some (.int .i64 0)/\V.cell? ⟨w.heap.size+1+1,1,none⟩=some (.slice none 0 0)/\V.frozen? ⟨w.heap.size+1+1,0,none⟩=false/\V.frozen? ⟨w.heap.size+1+1,1,none⟩=false:=by intro V hV;have hs:=HsW.out;exact ⟨aB hV q1.1,aB hV q1.2,aB hV q2.1,aB hV q2.2.1,(hV.frozen (p:=⟨w.heap.size+1+1,0,none⟩) (by simp [hs])).trans q2.2.2.1,(hV.frozen (p:=⟨w.heap.size+1+1,1,none⟩) (by simp [hs])).trans q2.2.2.2⟩
 have Hq:=Z5 hq;clear hq q1 q2 q3;rw [tu] at hcase;rcases hcase with ⟨hB,_⟩ | ⟨_,er,h0,h1,_⟩ | ⟨_,_,b,rfl,hG,hbl⟩
 ·rw [hfB] at hB;exact absurd hB (by decide)
 ·rw [h8] at h1;exact absurd h1.symm h0
 obtain ⟨r1,r2,r3,r4,r5,r6⟩:=Hq.out w1 hb1;have HPost : Hid (∀a c w',dq w.heap.size w' a (aS (af P M.toNat mod) L m).length (aS (af P M.toNat mod) L m)->SW w w'->u7 (af P M.toNat mod) L m w (.returned (.tuple #[.agg #[.int .i64 m,.slice a (aS (af P M.toNat mod) L m).length c],.int .i64 0])) w'):=λa c w' h1 h2=>⟨a,c,rfl,h1,h2⟩
 obtain ⟨G,hGG⟩ : ∃G,af P M.toNat mod=G:=⟨_,rfl⟩
 have HGG:=Z5 hGG;rw [hGG] at hG HR HF HPost hR F;clear h8 hGG hfB;have Hcan:=Z5 (yO a n c m L hG (hiW.ah hb1) hR (by omega) (by omega));have hRc : bp G.El m (dc G L m):=bL F hR;obtain ⟨hPv,hLd⟩:=bG F hR;have hcl : (dc G L m).length=(bw G L m).length:=eo G L m;have HPv : Hid (mg (dc G L m) (bw G L m) m):=hPv;have hrws : ∀k,k<=m->bp G.El m (cZ G.ops m (dc G L m) (bw G L m) k):=by
  intro k;induction k with
  | zero=>intro _ r hr;simp [cZ] at hr
  | succ k ih =>
   intro hk r hr
   rw [cZ] at hr
   split at hr
   ·exact ih (by omega) r hr
   ·rw [Ol,N6] at hr
    rcases hr with hr | rfl
    ·exact ih (by omega) r hr
    ·exact mX F hRc hPv hcl (by omega) _ (Na _)
 have Hrws:=Z5 hrws;have hdl : aS G L m=dc G (cZ G.ops m (dc G L m) (bw G L m) m) m:=rfl;have Hdl:=Z5 hdl;have Hcp : Hid (∀c,c<m->∀i,i<(bw G L m).length->G.El (nth (ai (dc G L m) i) c)):=λc hc i hi=>Sc (hRc.row (by rw [hcl];exact hi)) hc;have Hrl : Hid (∀i,i<(bw G L m).length->(ai (dc G L m) i).length=m):=λi hi=>(hRc.row (by rw [hcl];exact hi)).1;clear hR F hPv hLd hrws hdl;go_wp2_with fail;refine Hcan.out.mono ?_;rintro e w2 ⟨a2,c2,ap,cp,rfl,hM2,hp2,hb2⟩;have Hkp : Hid (∀c i,kerTo G.ops m (dc G L m) (bw G L m) c (i+1)=(kerTo G.ops m (dc G L m) (bw G L m) c i).set (nth (bw G L m) i).toNat (G.neg (nth (ai (dc G L m) i) c))):=λc i=>rfl;have Hk0 : Hid (∀c,kerTo G.ops m (dc G L m) (bw G L m) c 0=(List.replicate m 0).set c 1):=λc=>rfl;have Hplt : Hid (∀j,j<(bw G L m).length->0<=nth (bw G L m) j/\nth (bw G L m) j<m):=HPv.out.lt;obtain ⟨R,hRR⟩ : ∃R,dc G L m=R:=⟨_,rfl⟩
 obtain ⟨Pv,hPP⟩ : ∃Pv,bw G L m=Pv:=⟨_,rfl⟩
 rw [hRR,hPP] at Hrws Hdl Hcp Hkp Hk0 Hrl;rw [hPP] at Hplt hp2 hM2 hcl;rw [hRR] at hM2 hcl;rw [hPP];clear hRR hPP HPv Hcan;obtain ⟨t,ht⟩ : ∃t,Pv.length=t:=⟨_,rfl⟩
 have Ht:=Z5 ht;rw [ht] at hM2 hp2 Hcp Hplt hcl Hrl;rw [ht];have hMM:=hM2.jt;have hII:=hp2.ints;have hplP:=hII.pl;have hplR:=hMM.pl;have hbw2:=RZ hbw1 hb2;have hb12:=RZ hb1 hb2;have hG2:=hG.ah hb2;have hmaxP:=hII.max;unfold maxLen at hmaxP;obtain ⟨z1,z2,z3,z4,z5,z6⟩:=Hq.out w2 hb12;clear ht hM2 hp2 hG r1 r2 r3 r4 r5 r6;go_wp2_with fail;go_loopw [10,37] (λov iv wr=>∃(k : Nat) (a1 : OA) (c1 : Nat),k<=m/\iv = .int .i64 k/\ov = .slice a1 (dK Pv k).length c1/\(∃Rr,aT wr w2.heap.size a1 (dK Pv k).length c1 Rr (cZ G.ops m R Pv k))/\SW w2 wr) (λ_ iv _=>m - (intOf iv).toNat);case atStart=>exact ⟨0,none,0,Ni _,rfl,rfl,⟨[],aT.B4 w2 w2.heap.size⟩,Nc _ _⟩
 case round =>
  clear z1 z2 z3 z4 z5 z6
  obtain ⟨k,a1,c1,hk,rfl,rfl,⟨Rr,hO⟩,hbr⟩:=hrel
  have hnk:=wY Pv k
  by_cases hlt : k<m
  ·have hcont:=dJ ap t cp Pv k wr (hII.ah hbr)
   obtain ⟨z1,_,_,_,_,_⟩:=Hq.out wr (RZ hb12 hbr)
   by_cases hmem : (k : Int) ∈ Pv
   ·have hN : Hid (dK Pv (k+1)=dK Pv k):=by show _=_;rw [dK,Nd hmem]
    have hKk : Hid (cZ G.ops m R Pv (k+1)=cZ G.ops m R Pv k):=by show _=_;rw [cZ,Nd hmem]
    rw [show decide ((k : Int) ∈ Pv)=true by simpa using hmem] at hcont
    have Hcont:=Z5 hcont
    clear hmem hcont
    go_wp2_with fail
    refine Hcont.out.mono ?_
    rintro e w3 ⟨rfl,rfl⟩
    go_wp2_with fail
    go_roundw
    case rel=>exact ⟨k+1,a1,c1,by omega,by go_num,by rw [hN.out],⟨Rr,by rw [hN.out,hKk.out];exact hO⟩,hbr⟩
    case measure=>simp [intOf] <;> omega
   ·have hN : Hid (dK Pv (k+1)=dK Pv k ++ [k]):=by show _=_;rw [dK,Nf hmem]
    have hKk : Hid (cZ G.ops m R Pv (k+1)=cZ G.ops m R Pv k ++ [kerTo G.ops m R Pv k t]):=by show _=_;rw [cZ,Nf hmem,Ht.out]
    rw [show decide ((k : Int) ∈ Pv)=false by simpa using hmem] at hcont
    have Hcont:=Z5 hcont
    clear hmem hcont
    go_wp2_with fail
    refine Hcont.out.mono ?_
    rintro e w3 ⟨rfl,rfl⟩
    go_wp2_with (at_make;refine bS rfl _ _ 22 3 rfl (.int .i64 0) 8 underlying22 aU rfl m rfl rfl (by omega) (by unfold maxLen;omega) ?_;intro a5 w5 hown5 hbel5 hge5 hlt5;obtain ⟨hi5,hm5⟩:=R6 (l:=List.replicate m 0) (by simpa using hown5);have hc5:=hi5.cell k hlt;have hf5:=(hm5 (by omega)).2 k hlt;have hpl5:=hi5.pl)
    have hx0:=bK hown5 k hlt (.int .i64 1)
    have hx0' : (w5.setCell ⟨ablk a5,aK a5+k,none⟩ (.int .i64 1)).ownsRow w3.heap.size 3 1 (.slice a5 m m) m ((kerTo G.ops m R Pv k 0).map (Value.int .i64)):=by rw [Hk0.out,NF,OF];exact hx0
    have hbx0:=hbel5.setCell (p:=⟨ablk a5,aK a5+k,none⟩) (hm5 (by omega)).1 (.int .i64 1)
    clear hx0 hown5 hbel5 hge5 hlt5 hi5 hm5 hc5 hf5 z1
    go_loopw [51] (λiv wx=>∃i : Nat,i<=t/\iv = .int .i64 i/\wx.ownsRow w3.heap.size 3 1 (.slice a5 m m) m ((kerTo G.ops m R Pv k i).map (Value.int .i64))/\SW w3 wx) (λiv _=>t - (intOf iv).toNat)
    case atStart=>exact ⟨0,Ni _,rfl,hx0',hbx0⟩
    case round =>
     clear hx0' hbx0
     obtain ⟨i,hi',rfl,hown,hbx⟩:=hrel
     by_cases hli : i<t
     ·have hb2x:=RZ hbr hbx
      have cpi:=(hII.ah hb2x).cell i hli
      have hpb:=Hplt.out i hli
      obtain ⟨z,hz⟩ : ∃z : Nat,nth Pv i=z:=⟨(nth Pv i).toNat,by omega⟩
      have hzm : z<m:=by omega
      obtain ⟨ra,rn,rc,hcell,hrow⟩:=(hMM.ah hb2x).cell i hli
      have hrn : rn=m:=by rw [<- hrow.len];exact Hrl.out i hli
      subst hrn
      have ck:=hrow.cell k hlt
      have hpr:=hrow.pl
      have hel:=Hcp.out k hlt i hli
      have hst : kerTo G.ops rn R Pv k (i+1)=(kerTo G.ops rn R Pv k i).set z (G.neg (nth (ai R i) k)):=by rw [Hkp.out,hz,Nb]
      have Hst:=Z5 hst
      obtain ⟨x9,hx9⟩ : ∃x,nth (ai R i) k=x:=⟨_,rfl⟩
      rw [hx9] at ck hel Hst
      have Hng:=Z5 (Kv x9 (hG2.ah hb2x) hel)
      rw [hz] at cpi
      obtain ⟨hints,hmine⟩:=R6 hown
      have hpl5':=hints.pl
      have cz:=hints.cell z hzm
      have fz:=(hmine (by omega)).2 z hzm
      have hB:=(hmine (by omega)).1
      clear hz hpb hst hx9 hel
      go_wp2_with fail
      refine Hng.out.mono ?_
      rintro e w6 ⟨nd,rfl,rfl⟩
      go_wp2_with fail
      go_roundw
      case rel =>
       have h:=bK (w:=wr.drewN nd) hown z hzm (.int .i64 (G.neg x9))
       rw [<- NF,<- Hst.out] at h
       exact ⟨i+1,by omega,by go_num,h,(below_drewN hbx nd).setCell hB _⟩
      case measure=>simp [intOf] <;> omega
     ·obtain rfl : i=t:=by omega
      obtain ⟨X,hX⟩ : ∃X,kerTo G.ops m R Pv k i=X:=⟨_,rfl⟩
      have hXl : X.length=m:=by rw [<- hX];exact jy _ _ _ _ _ _
      rw [hX] at hown hKk
      have HXl:=Z5 hXl
      have hO3:=hO.ah (RZ hbx (an wr (.cells #[.slice a5 m m] 22)))
      have hsz:=hbr.size
      have hsx:=hbx.size
      have hs3 : w2.heap.size<=(wr.alloc (.cells #[.slice a5 m m] 22)).heap.size:=by simp;omega
      have hcn:=ba wr (.slice a5 m m) 22
      clear hX hXl
      go_wp2_with (at_builtin;refine aO rfl _ _ 25 22 rfl (.slice none 0 0) 24 underlying25 df rfl w2.heap.size a1 (dK Pv k).length c1 _ rfl hO3.own ⟨wr.heap.size,0,none⟩ 1 (.slice a5 m m) rfl hcn rfl (by omega) (by unfold maxLen;omega) hs3 ?_;intro a7 c7 w7 hown7 hgr7 hap7)
      go_roundw
      case rel =>
       have hb4 : SW w3 (wr.alloc (.cells #[.slice a5 m m] 22)):=RZ hbx (an _ _)
       have hown4 : (wr.alloc (.cells #[.slice a5 m m] 22)).ownsRow w2.heap.size 3 1 (.slice a5 X.length m) X.length (X.map (Value.int .i64)):=by rw [HXl.out];exact aX (bd hown (an _ _)) hsz
       have hra : a5 ≠ none->¬ cU a1 Rr (ablk a5):=λh0 hI=>by have h1:=(aY hown h0).1;have h2:=(hO.lt _ hI).2;omega
       have hP:=Sk hO3 hown4 hra (by rw [HXl.out];exact hown7) hgr7 hap7
       have hb5 : SW w2 w7:=Sa (RZ hbr hb4) hO3.own hgr7 (Na _) (Nr hsz hb4.size)
       exact ⟨k+1,a7,c7,by omega,by go_num,by rw [hN.out];simp,⟨_,by rw [hN.out,hKk.out,Nl];exact hP⟩,hb5⟩
      case measure=>simp [intOf] <;> omega
  ·obtain rfl : k=m:=by omega
   have hbw:=RZ hbw2 hbr
   have hcan:=yO a1 (dK Pv k).length c1 k (cZ G.ops k R Pv k) (hG2.ah hbr) hO.jt (Hrws.out k (Na _)) (by omega) (by omega)
   have Hcan:=Z5 hcan
   obtain ⟨z1,z2,z3,z4,z5,z6⟩:=Hq.out wr (RZ hb12 hbr)
   clear hcan hO
   go_wp2_with fail
   refine Hcan.out.mono ?_
   rintro e w8 ⟨a8,c8,ap8,cp8,rfl,hM8,hp8,hb8⟩
   have hlen8 : (bw G (cZ G.ops k R Pv k) k).length=(aS G L k).length:=by rw [Hdl.out,eo]
   have hM8' : dq wr.heap.size w8 a8 (aS G L k).length (aS G L k):=by rw [<- hlen8,Hdl.out];exact hM8
   rw [hlen8]
   have hbw8:=RZ hbw hb8
   have hF:=HPost.out a8 c8 ((w8.setCell ⟨w.heap.size+1+1,0,none⟩ (.int .i64 k)).setCell ⟨w.heap.size+1+1,1,none⟩ (.slice a8 (aS G L k).length c8)) (by have hs:=HsW.out;have hs1:=(RZ hb12 hbr).size;exact ((hM8'.setCell (p:=⟨w.heap.size+1+1,0,none⟩) (by simp;omega) _).setCell (p:=⟨w.heap.size+1+1,1,none⟩) (by simp;omega) _).mono (by omega)) ((hbw8.setCell (by simp;omega) _).setCell (by simp;omega) _)
   have HF2:=Z5 hF
   clear hF hM8 hp8 hM8' Hcan z1 z2 z3 z4 z5 z6 hlen8
   obtain ⟨z1,z2,z3,z4,z5,z6⟩:=Hq.out w8 (RZ (RZ hb12 hbr) hb8)
   generalize (aS G L k).length=q at *
   go_wp2_with fail
   exact bodyPost_ret (v:=.tuple #[.agg #[.int .i64 k,.slice a8 q c8],.int .i64 0]) (by simp [results,results133,go_sem,z3,z4]) rfl (by rw [HGG.out];exact HF2.out)
theorem ke {P M : Int} {mod : Lz} (h : bA P M mod=true) : mod.length<=8:=by
 unfold bA dg at h;simp only [NK,bne_iff_ne,ne_eq] at h;obtain ⟨⟨⟨h1,_⟩,h3⟩,_⟩:=h;have h2:=gX h1;by_cases hM : M=1
 ·rw [Nd hM] at h3;have : mod.length=0:=by simpa using h3
  omega
 ·rw [Nf hM] at h3;simp only [NK,N8] at h3;omega
theorem gY {P M : Int} {mod : Lz} {m : Nat} {L : ZZ} (hE : aF P M mod m L=0) :
  aF P M mod m (aS (af P M.toNat mod) L m)=0/\∀x,LH (af P M.toNat mod).ops (aS (af P M.toNat mod) L m) m x=LH (af P M.toNat mod).ops L m x:=by
 obtain ⟨N',e,hm1,hm64,F,hR⟩:=aM hE;obtain rfl : m=N':=by omega
 obtain ⟨hfB,h1,h64,h4⟩:=aG hE;obtain ⟨h5,h6⟩:=eS h4;rw [Nb] at h6;have hcan : bZ (af P M.toNat mod).ops m L=L:=h6;obtain ⟨hPv,hLd⟩:=bG F hR;have hcl:=bQ F hR;rw [hcan] at hPv hLd hcl;have hK:=dz F hR hPv hcl;have hdl : aS (af P M.toNat mod) L m=bZ (af P M.toNat mod).ops m (cZ (af P M.toNat mod).ops m L (aD (af P M.toNat mod).ops L m).2 m):=by unfold aS bw;rw [h6];rfl
 obtain ⟨k1,k2⟩:=GI F hR hPv hLd hcl;have hKR:=bL F hK;have hidem:=tV F hK;have hrk:=sG F hK;have hrg:=sG F hR;rw [hcan] at hrg;rw [<- hdl] at k1 k2 hKR hidem hrk;generalize aS (af P M.toNat mod) L m=D at *;constructor
 ·have hq : ((af P M.toNat mod).q : Int)=aJ P M\/True:=.inr trivial;have hm : iB (af P M.toNat mod).q m D=0:=by
   unfold iB;rw [Nf (by omega)];have hsh : lZ (m : Int) D=true:=by unfold lZ;rw [NW];intro r hr;have:=(hKR r hr).1;simp;omega
   rw [Nf (by rw [hsh];decide),Nd];rw [NW];intro r hr;unfold dY jR;rw [NW];intro x hx;have:=(hKR r hr).2 x hx;unfold dn.El at this;simp;exact this
  have hf : eJ P M mod m D=0:=by unfold eJ;rw [Nd hfB];exact hm
  have hsp : eB P M mod m D=0:=by unfold eB;rw [Nd hf,Nb,Nd];exact hidem
  have hle : kY (m : Int)=0:=uY (by omega) (by omega);unfold aF;rw [Nd hfB,Nd hle];exact hsp
 ·intro x;have hs:=oK F hKR (dS x m);have hc:=oK F hKR (dS (wS x) m);have gs:=oK F hR (dS x m);have gc:=oK F hR (dS (wS x) m);have hb:=xy x m hm64;have hgl : ∀Q : Lz,∀k,(kz Q k).length=k:=λQ k=>by
   induction k with
   | zero=>rfl
   | succ k ih=>rw [kz,NP,ih]
  have hS : ∀i ∈ kz (dS x m) (dS x m).length,i<m:=λi hi=>((ow x m i).1 hi).1;have hC : ∀i ∈ kz (dS (wS x) m) (dS (wS x) m).length,i<m:=λi hi=>((ow (wS x) m i).1 hi).1;have hSC : ∀p,p<m->p ∈ kz (dS x m) (dS x m).length\/p ∈ kz (dS (wS x) m) (dS (wS x) m).length:=λp hp=>by
   rw [ow,ow,yA _ _ (by omega)];cases hx : x.testBit p
   ·exact .inr ⟨hp,rfl⟩
   ·exact .inl ⟨hp,rfl⟩
  have r1:=EW F hR hKR k2 k1 hrg hrk hS hC hSC (by rw [hgl,hgl];exact hb) gc hs;have r2:=EW F hR hKR k2 k1 hrg hrk hC hS (λp hp=>(hSC p hp).symm) (by rw [hgl,hgl];omega) gs hc;rw [hgl] at r1 r2;unfold LH;omega
section
variable {O : aL} {El : Int->Prop} {m : Nat} {L : ZZ}
def gk (O : aL) (L : ZZ) (Q : Lz) : Nat:=(kC O L Q).length
end
def frTo (b : Bool) (U : Lz) : Nat->Lz
 | 0=>[]
 | k+1=>if decide ((k : Int) ∈ U)=b then frTo b U k ++ [(k : Int)] else frTo b U k
theorem dG {b : Bool} {U : Lz} {x : Int} : ∀k,x ∈ frTo b U k ↔ ∃j : Nat,j<k/\x=j/\decide ((j : Int) ∈ U)=b
 | 0=>by simp [frTo]
 | k+1=>by
  rw [frTo];by_cases h : decide ((k : Int) ∈ U)=b
  ·rw [Nd h,Ol,dG k,N6];constructor
   ·rintro (⟨j,hj,e,hb⟩ | e)
    ·exact ⟨j,by omega,e,hb⟩
    ·exact ⟨k,by omega,e,h⟩
   ·rintro ⟨j,hj,e,hb⟩;by_cases ejk : j=k
    ·subst ejk;exact .inr e
    ·exact .inl ⟨j,by omega,e,hb⟩
  ·rw [Nf h,dG k];constructor
   ·rintro ⟨j,hj,e,hb⟩;exact ⟨j,by omega,e,hb⟩
   ·rintro ⟨j,hj,e,hb⟩;by_cases ejk : j=k
    ·subst ejk;exact absurd hb h
    ·exact ⟨j,by omega,e,hb⟩
theorem jg (b : Bool) (U : Lz) : ∀k,(frTo b U k).length<=k
 | 0=>Na _
 | k+1=>by have:=jg b U k;rw [frTo];split <;> simp <;> omega
theorem wh (O : aL) (L : ZZ) (Q : Lz) : ∀k,k<=Q.length->∀x ∈ (grTo O L Q k).2,x ∈ Q
 | 0,_,x,hx=>by simp [grTo] at hx
 | k+1,hk,x,hx=>by
  rw [grTo] at hx;split at hx
  ·rcases List.mem_append.1 hx with hx | hx
   ·exact wh O L Q k (by omega) x hx
   ·rw [N6] at hx;rw [hx];exact aH (by omega)
  ·exact wh O L Q k (by omega) x hx
def xT (O : aL) (L : ZZ) (Q : Lz) (most : Nat) : Lz:=(kC O L Q).take most
def jY (m : Nat) (s z : Lz) : Lz:=dt z ++ frTo false (s ++ z) m
structure jG where
 M : Nat
 W : Nat
 cos : Bool
 y : Lz
def kR (m : Nat) (s t : Lz) : Bool:=dk m t && t.all λx=>decide (¬ x ∈ s)
structure LS where
 rows : ZZ
 sum : Lz
 top : Nat
def gG (O : aL) (v : Lz) (i : Nat) (r : Lz) : Lz :=
 if nth v i=0 then v else List.zipWith (λa y=>if y=0 then a else O.add a (O.neg (O.mul (nth v i) y))) v r
def eG (O : aL) (t i : Nat) (L : ZZ) : Nat->ZZ
 | 0=>L
 | l+1=>if t<l then (eG O t i L l).set l (gG O (ai (eG O t i L l) l) i (ai (eG O t i L l) t)) else eG O t i L l
def iP (O : aL) (L : ZZ) (t k i : Nat) : ZZ :=
 eG O t i ((bt L t k).set t ((ai (bt L t k) t).map (O.mul (O.inv (nth (ai (bt L t k) t) i))))) L.length
def jM (O : aL) (st : LS) (i : Nat) : LS :=
 if bh st.rows i st.top=st.rows.length then st
 else ⟨iP O st.rows st.top (bh st.rows i st.top) i,gG O st.sum i (ai (iP O st.rows st.top (bh st.rows i st.top) i) st.top),st.top+1⟩
def jh (O : aL) (L : ZZ) (y t : Lz) : Nat->LS
 | 0=>⟨L,y,0⟩
 | k+1=>jM O (jh O L y t k) (nth t k).toNat
def fK (s v : Lz) : Nat->Nat
 | 0=>0
 | k+1=>if nth v k ≠ 0/\¬ (k : Int) ∈ s then fK s v k+1 else fK s v k
def gh (O : aL) (L : ZZ) (y s t : Lz) : Nat:=fK s (jh O L y t t.length).sum (jh O L y t t.length).sum.length
def dI (O : aL) (L : ZZ) (m : Nat) (C : jG) (s t : Lz) : Bool :=
 kR m s t && (decide ((kC O L t).length=t.length) &&
  if C.cos=true then decide ((kC O L (frTo false s m)).length=t.length) && decide (C.W<s.length+gh O L C.y s t) else decide (t.length=C.M))
def iy (C : jG) (s z t : Lz) : Lz:=if s.length<C.W then t.filter λx=>decide (¬ x ∈ z) else []
def kfol (F : Lz->Lz->ZZ->Option ZZ) (s : Lz) : Lz->Lz->ZZ->Option ZZ
 | _,[],ts=>some ts
 | z,k :: ks,ts=>match F (s ++ [k]) z ts with
  | none=>none
  | some ts'=>kfol F s (z ++ [k]) ks ts'
def folS (O : aL) (L : ZZ) (m : Nat) (C : jG) : Nat->Lz->Lz->ZZ->Option ZZ
 | 0,s,_,ts=>match ts with
  | []=>none
  | t :: ts=>if dI O L m C s t=true then some ts else none
 | d+1,s,z,ts=>match ts with
  | []=>none
  | t :: ts=>if dI O L m C s t=true then kfol (folS O L m C d) s z (iy C s z t) ts else none
def provS (O : aL) (L : ZZ) (m : Nat) (C : jG) (T : ZZ) : Int :=
 match folS O L m C C.W [] [] T with
 | some []=>0
 | _=>13
def gj (O : aL) (L : ZZ) (m : Nat) (C : jG) (s z : Lz) : Lz:=dt (xT O L (jY m s z) (if C.cos=true then m else C.M))
def gW (F : Lz->Lz->ZZ->Int × ZZ) (s : Lz) : Lz->Lz->ZZ->Int × ZZ
 | _,[],T=>(0,T)
 | z,k :: ks,T=>if (F (s ++ [k]) z T).1=0 then gW F s (z ++ [k]) ks (F (s ++ [k]) z T).2 else ((F (s ++ [k]) z T).1,[])
def jQ (O : aL) (L : ZZ) (m : Nat) (C : jG) : Nat->Lz->Lz->ZZ->Int × ZZ
 | 0,s,z,T=>if dI O L m C s (gj O L m C s z)=true then if T.length=65536 then (8,[]) else (0,T ++ [gj O L m C s z]) else (11,[])
 | d+1,s,z,T=>if dI O L m C s (gj O L m C s z)=true then if T.length=65536 then (8,[]) else gW (jQ O L m C d) s z (iy C s z (gj O L m C s z)) (T ++ [gj O L m C s z]) else (11,[])
def vD (O : aL) (L : ZZ) (m : Nat) (C : jG) : Int × ZZ:=jQ O L m C C.W [] [] []
theorem Cp (O : aL) (L : ZZ) (Q : Lz) {k : Nat} : ∀j,k<=j->(grTo O L Q k).2 <+: (grTo O L Q j).2
 | 0,h=>by
   obtain rfl : k=0:=by omega
   exact OX
 | j+1,h=>by
  by_cases e : k=j+1
  ·subst e;exact OX
  ·refine (Cp O L Q j (by omega)).trans ?_;rw [grTo];split
   ·exact Qz _ _
   ·exact OX
theorem Jy {O : aL} {L : ZZ} {Q : Lz} {k most : Nat} (hk : k<=Q.length) (h : (grTo O L Q k).2.length=most) : xT O L Q most=(grTo O L Q k).2:=by obtain ⟨l,hl⟩:=Cp O L Q Q.length hk;rw [xT,kC,<- hl,<- h,List.take_left]
theorem KF {O : aL} {L : ZZ} {Q : Lz} {most : Nat} (h : (grTo O L Q Q.length).2.length<=most) : xT O L Q most=(grTo O L Q Q.length).2:=by rw [xT,kC,No h]
theorem FB (O : aL) (L : ZZ) (Q : Lz) : ∀k,(grTo O L Q k).2.length<=k
 | 0=>Na _
 | k+1=>by
  have ih:=FB O L Q k;rw [grTo];split
  ·simp;omega
  ·dsimp only;omega
theorem xc (O : aL) (L : ZZ) (Q : Lz) : (kC O L Q).length<=Q.length:=FB O L Q _
theorem CH {O : aL} {L : ZZ} {Q : Lz} {most : Nat} (h : Q.length<=most) : xT O L Q most=kC O L Q :=
 No (Nr (xc O L Q) h)
theorem Ab {O : aL} {L : ZZ} {Q : Lz} {most : Nat} : ∀x ∈ xT O L Q most,x ∈ Q:=λx hx =>
 wh O L Q Q.length (Na _) x (Og hx)
theorem Bh (m : Nat) (s z : Lz) : (jY m s z).length<=z.length+m:=by unfold jY;have:=jg false (s ++ z) m;rw [Nl,gv];omega
theorem sH {m : Nat} {s z : Lz} {x : Int} (h : x ∈ jY m s z) : x ∈ z\/(0<=x/\x<m/\¬ x ∈ s/\¬ x ∈ z):=by
 unfold jY at h;rcases List.mem_append.1 h with h | h
 ·exact .inl ((eC z).mem_iff.1 h)
 ·obtain ⟨j,hj,rfl,hd⟩:=(dG m).1 h;have : ¬ (j : Int) ∈ s ++ z:=by simpa using hd
  rw [Ol] at this;exact .inr ⟨by omega,by omega,λh=>this (.inl h),λh=>this (.inr h)⟩
theorem vs {m : Nat} {s t : Lz} (h : kR m s t=true) : dk m t=true/\∀x ∈ t,¬ x ∈ s:=by unfold kR at h;rw [NK,NW] at h;exact ⟨h.1,λx hx=>by simpa using h.2 x hx⟩
theorem sC {O : aL} {L : ZZ} {m : Nat} {C : jG} {s t : Lz} (h : dI O L m C s t=true) : dk m t=true/\∀x ∈ t,¬ x ∈ s:=by unfold dI at h;rw [NK] at h;exact vs h.1
section
theorem fO (O : aL) (v : Lz) (i : Nat) (r : Lz) (h : r.length=v.length) : (gG O v i r).length=v.length:=by unfold gG;split <;> simp [h]
theorem sT (O : aL) (v : Lz) (i : Nat) (r : Lz) (j : Nat) (h : r.length=v.length) (hj : j<v.length) (h0 : nth v i ≠ 0) :
  nth (gG O v i r) j=if nth r j=0 then nth v j else O.add (nth v j) (O.neg (O.mul (nth v i) (nth r j))):=by unfold gG;rw [Nf h0,aj (show j<_ by simp [h];omega),aj hj,aj (show j<r.length by omega)];simp
theorem sg {O : aL} {El : Int->Prop} (hO : uT O El) {v r : Lz} {i : Nat} (hv : ∀x ∈ v,El x) (hr : ∀x ∈ r,El x) (hl : r.length=v.length) (hi : i<v.length) : ∀x ∈ gG O v i r,El x:=by
 intro x hx;by_cases h0 : nth v i=0
 ·unfold gG at hx;rw [Nd h0] at hx;exact hv x hx
 ·obtain ⟨j,hj,rfl⟩:=List.mem_iff_getElem.1 hx;rw [fO O v i r hl] at hj;have h1:=sT O v i r j hl hj h0;rw [aj (show j<(gG O v i r).length by rw [fO O v i r hl];exact hj)] at h1;rw [h1];have e1 : El (nth v j):=hv _ (aH hj);have e2 : El (nth r j):=hr _ (aH (by omega));have e3 : El (nth v i):=hv _ (aH hi);split
  ·exact e1
  ·exact hO.add _ _ e1 (hO.neg _ (hO.mul _ _ e3 e2))
variable {w : World} {b : Nat} {G : dn}
theorem uh (w0 : World) (pb : Nat) (av : OA) (cv n : Nat) (v : Lz) (i : Nat) (au : OA) (cu : Nat) (u : Lz) (h : ew w0 b G) (hb : SW w0 w)
  (p0 : w0.cell? ⟨pb,0,none⟩=some (.pointer (some ⟨b,0,none⟩)))
  (hv : w.ownsRow w0.heap.size 3 1 (.slice av n cv) n (v.map (Value.int .i64))) (hu : Ints w au n u) (hap : av=none\/au=none\/ablk au ≠ ablk av)
  (hve : ∀x ∈ v,G.El x) (hue : ∀x ∈ u,G.El x) (hin : i<n) :
  Calls prog 270 #[.pointer (some ⟨pb,0,none⟩),.slice av n cv,.int .i64 i,.slice au n cu] w
   λe w'=>e = .returned (.tuple #[])/\w'.ownsRow w0.heap.size 3 1 (.slice av n cv) n ((gG G.ops v i u).map (Value.int .i64))/\dp av w w':=by
 have hul:=hu.len;have hvl : v.length=n:=by simpa using kS hv
 have hmax:=hu.max;unfold maxLen at hmax;have hpu:=hu.pl;obtain ⟨iv0,mv0⟩:=R6 hv;have hpv:=iv0.pl;have ci:=iv0.cell i hin;have hav : 0<n->av ≠ none:=λhn e=>by have:=hpv hn;rw [e] at this;cases this
 have hxe : G.El (nth v i):=hve _ (aH (by omega));have Hul:=Z5 hul;have Hvl:=Z5 hvl;have Hav:=Z5 hav;have Hve:=Z5 hve;have Hue:=Z5 hue;have HP:=Z5 (λ(V : World) (hV : SW w0 V)=>aB hV p0);clear hav hve hue;by_cases hx : nth v i=0
 ·have Hn : Hid (gG G.ops v i u=v):=by show _=_;rw [gG,Nd hx]
  have hx' : (nth v i != 0)=false:=by simpa using hx
  clear hx hul hvl;go_enter func270,ntmps270;go_wp2_with fail;go_end0;exact ⟨rfl,by rw [Hn.out];exact hv,Sq _ _⟩
 have hx' : (nth v i != 0)=true:=by simpa using hx
 have Hnl:=Z5 (fO G.ops v i u (by omega));have Hnth:=Z5 (λj hj=>sT G.ops v i u j (by omega) hj hx);clear hx hul hvl;generalize gG G.ops v i u=N at *;go_enter func270,ntmps270;go_wp2_with fail;generalize nth v i=x at *;go_loopw [19] (λiv wr=>∃k : Nat,k<=n/\iv = .int .i64 k/\wr.ownsRow w0.heap.size 3 1 (.slice av n cv) n ((jk N v k).map (Value.int .i64))/\dp av w wr) (λiv _=>n - (intOf iv).toNat);case atStart=>exact ⟨0,Ni _,rfl,by rw [gR];exact hv,Sq _ _⟩
 case round =>
  obtain ⟨k,hk,rfl,hown,honly⟩:=hrel
  by_cases hlt : k<n
  ·have hiu:=honly.ints hu hap
   have cu1:=hiu.cell k hlt
   have hkN : N.length=v.length:=Hnl.out
   have hkv : k<v.length:=by rw [Hvl.out];exact hlt
   have hval:=Hnth.out k hkv
   have hmix:=fI N v k k hkN (by omega)
   rw [Nf (by omega)] at hmix
   by_cases hz : nth u k=0
   ·rw [Nd hz] at hval
    have hsame:=rH N v k hkN hkv hval
    have Hsame:=Z5 hsame
    have hz' : (nth u k != 0)=false:=by simpa using hz
    clear hval hmix hsame hkN hkv hz
    go_wp2_with fail
    go_roundw
    case rel=>exact ⟨k+1,by omega,by go_num,by rw [Hsame.out];exact hown,honly⟩
    case measure=>simp [intOf] <;> omega
   ·rw [Nf hz] at hval
    have hset:=gD N v k hkN hkv
    obtain ⟨hiv,hmv⟩:=R6 hown
    have cv1:=hiv.cell k hlt
    have fv1:=(hmv (by omega)).2 k hlt
    rw [hmix] at cv1
    have elv : G.El (nth v k):=Hve.out _ (aH hkv)
    have elu : G.El (nth u k):=Hue.out _ (aH (by rw [Hul.out];exact hlt))
    have hbr : SW w0 wr:=N2 hb (honly.below (λha=>(aY hv ha).1) hb.size)
    have p0r:=HP.out wr hbr
    have hGr : ew wr b G:=h.ah hbr
    have elm : ∀x y,G.El (G.mul x y):=λx y=>SE h x y
    have HG : Hid (ew wr.drew b G/\∀n,ew (wr.drewN n) b G):=⟨hGr.ah (Nc _ _).drew,λn=>hGr.drewN n⟩
    rw [hval] at hset
    have Hset:=Z5 hset
    have hz' : (nth u k != 0)=true:=by simpa using hz
    clear hval hmix hset hkN hkv hz
    go_wp2_with fail
    go_region_law ((first
     | (go_simp;go_at_call 57;((with_reducible refine (qF x (nth u k) HG.out.1 hxe elu).mono ?_);rintro e w4 ⟨m4,rfl,rfl⟩))
     | (go_simp;go_at_call 57;((with_reducible refine (qF x (nth u k) (HG.out.2 _) hxe elu).mono ?_);rintro e w4 ⟨m4,rfl,rfl⟩))
     | (go_simp;go_at_call 199;((with_reducible refine (Lj (nth v k) (G.mul x (nth u k)) (HG.out.2 _) elv (elm _ _)).mono ?_);rintro e w4 ⟨m5,rfl,rfl⟩))))
    all_goals (
     go_wp2_with fail
     go_roundw
     case rel =>
      have hdr : bf wr (wr.drewN (1+m4+m5)):=⟨_,rfl⟩
      refine ⟨k+1,by omega,by go_num,?_,honly.trans ((Sm hdr).trans (St _ k _ (Hav.out (by omega))))⟩
      have h1:=bK (w:=wr.drewN (1+m4+m5)) hown k hlt (.int .i64 (G.sub (nth v k) (G.mul x (nth u k))))
      rw [<- NF,show G.sub (nth v k) (G.mul x (nth u k))=G.ops.add (nth v k) (G.ops.neg (G.ops.mul x (nth u k))) from rfl,Hset.out] at h1
      exact h1
     case measure=>simp [intOf] <;> omega)
  ·obtain rfl : k=n:=by omega
   rw [iW N v k (by rw [Hnl.out,Hvl.out]) Hvl.out] at hown
   go_wp2_with fail
   go_end0
   exact ⟨rfl,hown,honly⟩
end
section
theorem gT (O : aL) (t i : Nat) (L : ZZ) : ∀l,(eG O t i L l).length=L.length
 | 0=>rfl
 | l+1=>by
  rw [eG];split
  ·rw [N9];exact gT O t i L l
  ·exact gT O t i L l
theorem kg (O : aL) (L : ZZ) (t k i : Nat) : (iP O L t k i).length=L.length:=by unfold iP;rw [gT,N9,bM]
theorem bp.MV {O : aL} {El : Int->Prop} {m : Nat} (hO : uT O El) {L : ZZ} {t i : Nat} (hL : bp El m L) (ht : t<L.length) (hi : i<m) : ∀l,l<=L.length->bp El m (eG O t i L l)
 | 0,_=>hL
 | l+1,hl=>by
  have ih:=bp.MV hO hL ht hi l (by omega);rw [eG];split
  ·have h1:=ih.row (i:=l) (by rw [gT];omega);have h2:=ih.row (i:=t) (by rw [gT];omega);exact ih.set l ⟨by rw [fO _ _ _ _ (by rw [h1.1,h2.1])];exact h1.1,sg hO h1.2 h2.2 (by rw [h1.1,h2.1]) (by rw [h1.1];exact hi)⟩
  ·exact ih
theorem vM (s v : Lz) : ∀k,fK s v k<=k
 | 0=>Na _
 | k+1=>by have:=vM s v k;rw [fK];split <;> omega
variable {w : World} {b : Nat} {G : dn}
theorem DH (w0 : World) (pb : Nat) (a : OA) (n c : Nat) (R : Z4) (L : ZZ) (m i l t : Nat) (hO : aT w w0.heap.size a n c R L)
  (h : ew w0 b G) (hb : SW w0 w) (p0 : w0.cell? ⟨pb,0,none⟩=some (.pointer (some ⟨b,0,none⟩))) (hl : l<n) (ht : t<n) (hlt : l ≠ t) (hi : i<m) (hR : bp G.El m L) (V : World) (hd : bf w V) :
  Calls prog 270 #[.pointer (some ⟨pb,0,none⟩),.slice (aV R l).1 m (aV R l).2,.int .i64 i,.slice (aV R t).1 m (aV R t).2] V
   λe w'=>e = .returned (.tuple #[])/\(w'.cell? ⟨ablk a,aK a+l,none⟩=some (.slice (aV R l).1 m (aV R l).2)/\w'.cell? ⟨ablk a,aK a+t,none⟩=some (.slice (aV R t).1 m (aV R t).2)) /\
    aT w' w0.heap.size a n c R (L.set l (gG G.ops (ai L l) i (ai L t)))/\aE w w' (cU a R) (cU a R):=by
 have rl:=hR.row (i:=l) (by rw [hO.ll];exact hl);have rt:=hR.row (i:=t) (by rw [hO.ll];exact ht);have cl:=hO.cell hl;have ct:=hO.cell ht;have ol:=hO.row l hl;have it:=hO.ints ht;rw [rl.1] at cl ol;rw [rt.1] at ct it;have hap : (aV R l).1=none\/(aV R t).1=none\/ablk (aV R t).1 ≠ ablk (aV R l).1:=hO.sep l t hl ht hlt;refine (uh w0 pb _ _ m (ai L l) i _ _ (ai L t) h (hd.zU hb) p0 (bd ol hd.below) (it.ah hd.below) hap rl.2 rt.2 hi).mono ?_;rintro e w' ⟨rfl,hown,honly⟩;have hmv : aE w w' (cU a R) (cU a R):=(Se hd.below _).trans (honly.dD (λhn=>aT.mS (by rw [hO.rl];exact hl) hn));have hne2 : ¬ ((aV R l).1 ≠ none/\ablk a=ablk (aV R l).1):=by
  rintro ⟨h1,h2⟩;rcases hO.sL l hl with h3 | h3
  ·exact h1 h3
  ·exact h3 h2.symm
 refine ⟨rfl,⟨aE.cell (Sx (Se hd.below _) honly) cl hne2,aE.cell (Sx (Se hd.below _) honly) ct hne2⟩,?_,hmv⟩;have hOr:=hO.ah hd.below;have hll : (gG G.ops (ai L l) i (ai L t)).length=(ai L l).length:=fO _ _ _ _ (by rw [rl.1,rt.1]);refine hOr.Lt hl hll (by rw [rl.1];exact hown) λb hb hne=>honly.block b hb λ⟨h1,h2⟩=>?_;rcases hne with h3 | h3
 ·exact h1 h3
 ·exact h3 h2
theorem Et (w0 V : World) (a : OA) (n c : Nat) (R : Z4) (L : ZZ) (t m : Nat) (r : Lz) (hO : aT w w0.heap.size a n c R L) (hb : SW w0 w) (ht : t<n) (hr : r.length=m)
  (hV : SW w V) {a4 : OA} {c4 : Nat} (hown : V.ownsRow w.heap.size 3 1 (.slice a4 m c4) m (r.map (Value.int .i64))) :
  ∃R',aT (V.setCell ⟨ablk a,aK a+t,none⟩ (.slice a4 m c4)) w0.heap.size a n c R' (L.set t r)/\aE w (V.setCell ⟨ablk a,aK a+t,none⟩ (.slice a4 m c4)) (cU a R) (cU a R'):=by
 subst hr;have hO4:=hO.ah hV;have hnew : ∀b,b<w.heap.size->gE a4 b:=λb hb=>mq hown hb;have h1:=hO4.setRow ht (aX hown hb.size) (hnew _ (hO.lt _ (.inl ⟨hO.ne (by omega),rfl⟩)).2) (λj hj _=>by
  by_cases hn : (aV R j).1=none
  ·exact .inl hn
  ·exact .inr (hnew _ (hO.lt _ (aT.mS (by rw [hO.rl];exact hj) hn)).2))
 have h2:=hO.mH hV ht (r:=a4) (rc:=c4) (.slice a4 r.length c4) (λha=>.inr (aY hown ha).1);exact ⟨_,h1,h2⟩
end
theorem yN (U : Lz) (k : Nat) : frTo false U (k+1)=if decide ((k : Int) ∈ U)=false then frTo false U k ++ [(k : Int)] else frTo false U k:=rfl
theorem qT (pb m : Nat) (sa : OA) (ns cs : Nat) (s : Lz) (az : OA) (nz cz : Nat) (z : Lz) (w : World) (p4 : w.cell? ⟨pb,4,none⟩=some (.int .i64 m)) (hs : Ints w sa ns s) (hz : Ints w az nz z)
  (hnz : nz<=1000000) (hm : m<=1000) :
  Calls prog 232 #[.pointer (some ⟨pb,0,none⟩),.slice sa ns cs,.slice az nz cz] w (b8 w (jY m s z)):=by
 have Hzl:=Z5 hz.len;have HP:=Z5 (λ(V : World) (hV : SW w V)=>aB hV p4);go_enter func232,ntmps232;go_wp2_with fail;refine (Dz az nz cz w).mono ?_;rintro e w1 ⟨rfl,rfl⟩;have hb1 : SW w (w.alloc (.cells #[.slice az nz cz] 22)):=an _ _;have HSo:=Z5 (Ez w.heap.size az nz cz z hnz (w.alloc (.cells #[.slice az nz cz] 22)) (by simp) (aI _ _ _ rfl 0) (hz.ah hb1));have hsz1 : w.heap.size<=(w.alloc (.cells #[.slice az nz cz] 22)).heap.size:=hb1.size;generalize w.alloc (.cells #[.slice az nz cz] 22)=w1 at *;go_wp2_with fail;refine HSo.out.mono ?_;rintro e w2 ⟨a2,c2,rfl,hown2,hb2⟩;have hbw2:=RZ hb1 hb2;have p4':=HP.out w2 hbw2;have hO2 : w2.ownsRow w.heap.size 3 1 (.slice a2 nz c2) nz ((dt z).map (Value.int .i64)):=aX hown2 hsz1;clear hown2 p4;go_wp2_with fail;go_loopw [7,17] (λqv iv wr=>∃(k : Nat) (aq : OA) (cq : Nat) (out : Lz),k<=m/\iv = .int .i64 k/\qv = .slice aq out.length cq/\Hid (out=dt z ++ frTo false (s ++ z) k)/\Hid (out.length<=nz+k) /\
   wr.ownsRow w.heap.size 3 1 (.slice aq out.length cq) out.length (out.map (Value.int .i64))/\SW w wr)
  (λ_ iv _=>m - (intOf iv).toNat)
 case atStart =>
  refine ⟨0,a2,c2,dt z,Ni _,rfl,?_,?_,?_,?_,hbw2⟩
  ·rw [gv,Hzl.out]
  ·show _=_;simp [frTo]
  ·show _<=_;rw [gv,Hzl.out];omega
  ·rw [gv,Hzl.out];exact hO2
 case round =>
  obtain ⟨k,aq,cq,out,hk,rfl,rfl,hst,hln,hop,hbr⟩:=hrel
  generalize wr=U at *
  by_cases hlt : k<m
  ·have hsU:=hs.ah hbr
   have hzU:=hz.ah hbr
   have hlen:=hln.out
   have Hskip : Hid (((k : Int) ∈ s ++ z)->out=dt z ++ frTo false (s ++ z) (k+1)):=λhmem=>by rw [yN,Nf (by rw [NB hmem];decide)];exact hst.out
   have Htake : Hid (¬ ((k : Int) ∈ s ++ z)->out ++ [(k : Int)]=dt z ++ frTo false (s ++ z) (k+1)):=λhmem=>by rw [yN,Nd (by rw [NA hmem]),<- NX,<- hst.out]
   by_cases h1 : (k : Int) ∈ s
   ·have hmd : decide ((k : Int) ∈ s)=true:=by simpa using h1
    have HcA:=Z5 (dJ sa ns cs s k U hsU)
    rw [hmd] at HcA
    have Hst : Hid (out=dt z ++ frTo false (s ++ z) (k+1)):=Hskip.out (List.mem_append.2 (.inl h1))
    clear h1 hmd
    go_wp2_with fail
    refine HcA.out.mono ?_
    rintro e w6 ⟨rfl,rfl⟩
    go_wp2_with fail
    go_roundw
    case rel=>exact ⟨k+1,aq,cq,out,by omega,by go_num,rfl,Hst.out,(show _<=_ by omega),hop,hbr⟩
    case measure=>simp [intOf] <;> omega
   ·have hmd : decide ((k : Int) ∈ s)=false:=by simpa using h1
    have HcA:=Z5 (dJ sa ns cs s k U hsU)
    rw [hmd] at HcA
    by_cases h2 : (k : Int) ∈ z
    ·have hmd2 : decide ((k : Int) ∈ z)=true:=by simpa using h2
     have HcB:=Z5 (dJ az nz cz z k U hzU)
     rw [hmd2] at HcB
     have Hst : Hid (out=dt z ++ frTo false (s ++ z) (k+1)):=Hskip.out (List.mem_append.2 (.inr h2))
     clear h1 hmd h2 hmd2
     go_wp2_with fail
     refine HcA.out.mono ?_
     rintro e w6 ⟨rfl,rfl⟩
     go_wp2_with fail
     refine HcB.out.mono ?_
     rintro e w7 ⟨rfl,rfl⟩
     go_wp2_with fail
     go_roundw
     case rel=>exact ⟨k+1,aq,cq,out,by omega,by go_num,rfl,Hst.out,(show _<=_ by omega),hop,hbr⟩
     case measure=>simp [intOf] <;> omega
    ·have hmd2 : decide ((k : Int) ∈ z)=false:=by simpa using h2
     have HcB:=Z5 (dJ az nz cz z k U hzU)
     rw [hmd2] at HcB
     have Hst : Hid (out ++ [(k : Int)]=dt z ++ frTo false (s ++ z) (k+1)):=Htake.out λh=>by
      rcases List.mem_append.1 h with h | h
      ·exact h1 h
      ·exact h2 h
     have hcn:=ba U (.int .i64 k) 3
     have hbn:=an U (.cells #[.int .i64 k] 3)
     have hszU:=hbr.size
     clear h1 hmd h2 hmd2
     go_wp2_with fail
     refine HcA.out.mono ?_
     rintro e w6 ⟨rfl,rfl⟩
     go_wp2_with fail
     refine HcB.out.mono ?_
     rintro e w7 ⟨rfl,rfl⟩
     go_wp2_with (at_builtin;refine aO rfl _ _ 22 3 rfl (.int .i64 0) 8 underlying22 aU rfl w.heap.size aq out.length cq _ rfl (hop.alloc _) ⟨w7.heap.size,0,none⟩ 1 (.int .i64 k) rfl hcn rfl (by omega) (by unfold maxLen;omega) (by simp;omega) ?_;intro a5 c5 w5 hown5 hgr5 hap5)
     go_roundw
     case rel =>
      have hb5 : SW w w5:=Sa (N2 hbr (hbn.mono hszU)) (hop.alloc _) hgr5 (Na _) (Nr hszU hbn.size)
      refine ⟨k+1,a5,c5,out ++ [(k : Int)],by omega,by go_num,by simp,Hst.out,(show _<=_ by rw [Nl,ND];omega),?_,hb5⟩
      simpa using hown5
     case measure=>simp [intOf] <;> omega
  ·obtain rfl : k=m:=by omega
   have Ho : Hid (jY k s z=out):=by show _=_;rw [jY,hst.out]
   go_wp2_with fail
   go_ret
   exact ⟨aq,cq,by rw [Ho.out];rfl,by rw [Ho.out];exact hop,hbr⟩
section
open Go.RowKit
end
section
open Go.RowKit
end
theorem mR (b : Bool) (U : Lz) : ∀k,(frTo b U k).Pairwise (λx y=>x<y)
 | 0=>List.Pairwise.nil
 | k+1=>by
  have ih:=mR b U k;rw [frTo];split
  ·rw [Ql];refine ⟨ih,by simp,λx hx y hy=>?_⟩;rw [N6] at hy;obtain ⟨j,hj,rfl,_⟩:=(dG k).1 hx;omega
  ·exact ih
theorem Ge {m : Nat} {U : Lz} (hn : U.Nodup) (hU : ∀x ∈ U,0<=x/\x<(m : Int)) : dt U=frTo true U m:=by
 have h:=mR true U m;refine (nY (h.imp λh=>by omega) ((QA (h.imp λh=>by omega) hn).2 λx=>?_)).symm;rw [dG];constructor
 ·rintro ⟨j,_,rfl,h1⟩;simpa using h1
 ·intro hx;have h1:=hU x hx;exact ⟨x.toNat,by omega,by omega,by rw [show ((x.toNat : Nat) : Int)=x by omega];simpa using hx⟩
theorem mW {m : Nat} {U : Lz} (hn : U.Nodup) (hU : ∀x ∈ U,0<=x/\x<(m : Int)) : U.length<=m:=by rw [<- gv,Ge hn hU];exact jg _ _ _
theorem p9 {N : Int} {A : Lz} (h : dk N A=true) : A.Nodup:=by
 refine xR λi j hij hj=>?_;have key : ∀d i,i+d<A.length->0<d->nth A i<nth A (i+d):=λd=>by
  induction d with
  | zero=>intro i _ h0;omega
  | succ d ih =>
   intro i hi _
   have h1:=(iI h hi).2.2 (by omega)
   rw [show i+(d+1) - 1=i+d by omega] at h1
   by_cases h0 : d=0
   ·subst h0;exact h1
   ·have:=ih i (by omega) (by omega);omega
 have:=key (j - i) i (by omega) (by omega);rw [show i+(j - i)=j by omega] at this;omega
section
variable {O : aL} {El : Int->Prop} {m : Nat} {L : ZZ}
end
section
theorem j9 : ∀ {s T : Lz},s.Nodup->(∀x ∈ s,x ∈ T)->s.length<=T.length
 | [],_,_,_=>Ni _
 | x :: s,T,hn,h=>by have hx : x ∈ T:=h x (by simp);have hn':=List.nodup_cons.1 hn;have h1 : ∀y ∈ s,y ∈ T.erase x:=λy hy=>(List.mem_erase_of_ne (λ(e : y=x)=>hn'.1 (by rw [<- e];exact hy))).2 (h y (by simp [hy]));have h2:=j9 hn'.2 h1;rw [List.length_erase_of_mem hx] at h2;have : 0<T.length:=List.length_pos_of_mem hx;simp only [NP];omega
variable {O : aL} {L : ZZ} {m : Nat} {C : jG}
end
section
variable {f : Nat->Int} {N : Nat} (hf : ∀y,f y<=N)
include hf
end


section
open Go.RowKit
end
end Go.Proofs.YthglbncgemdcbaaGreat
