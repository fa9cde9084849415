import Derived.Test.YtcfmiocdlcapoaaGreatHBS13
import Derived.Test.YtcfmiocdlcapoaaGreatHBS14
import Derived.Sort.OwnSortedInts
import Derived.Test.YtcfmiocdlcapoaaGreatHBS2
import Derived.Test.YtcfmiocdlcapoaaGreatHBS8
import Derived.Laws.Bits64b
namespace Go.Proofs.YtcfmiocdlcapoaaGreat
set_option linter.all false
set_option maxRecDepth 100000
set_option maxHeartbeats 2000000
open Go.RowKit Tryz
theorem Gu : dg 5 2 25 vY 0 25=true:=by decide +kernel
theorem Ku : fw 5 2 25 vY:=aG (cB 5 2 25 vY) Gu
theorem Ik : dg 5 3 125 mj 0 32=true:=by decide +kernel
theorem DA : dg 5 3 125 mj 32 32=true:=by decide +kernel
theorem E0 : dg 5 3 125 mj 64 32=true:=by decide +kernel
theorem Du : dg 5 3 125 mj 96 29=true:=by decide +kernel
theorem Kw : fw 5 3 125 mj:=aG (aG (aG (aG (cB 5 3 125 mj) Ik) DA) E0) Du
theorem GO : dg 7 2 49 yh 0 49=true:=by decide +kernel
theorem Kh : fw 7 2 49 yh:=aG (cB 7 2 49 yh) GO
theorem Dw : dg 11 2 121 kK 0 32=true:=by decide +kernel
theorem A6 : dg 11 2 121 kK 32 32=true:=by decide +kernel
theorem B1 : dg 11 2 121 kK 64 32=true:=by decide +kernel
theorem AX : dg 11 2 121 kK 96 25=true:=by decide +kernel
theorem IJ : fw 11 2 121 kK:=aG (aG (aG (aG (cB 11 2 121 kK) Dw) A6) B1) AX
theorem EB : dg 13 2 169 iZ 0 32=true:=by decide +kernel
theorem Cj : dg 13 2 169 iZ 32 32=true:=by decide +kernel
theorem BC : dg 13 2 169 iZ 64 32=true:=by decide +kernel
theorem Ch : dg 13 2 169 iZ 96 32=true:=by decide +kernel
theorem yu : dg 13 2 169 iZ 128 32=true:=by decide +kernel
theorem yI : dg 13 2 169 iZ 160 9=true:=by decide +kernel
theorem Jc : fw 13 2 169 iZ:=aG (aG (aG (aG (aG (aG (cB 13 2 169 iZ) EB) Cj) BC) Ch) yu) yI
def K3 (c : Nat × Nat) : Bool:=zu (dk c.1 1 []) c.1 c.2 && decide (0<c.2) && decide (c.2<c.1)
theorem L0 : roots.all K3=true:=by decide +kernel
theorem Gt : ((List.range 257).all λp=>p<2 || !gE p || roots.any λc=>c.1 == p)=true:=by decide +kernel
section
variable {P : Int} {M : Nat} {mod : Lz} {q : Nat} {x : Int}
theorem B6 (h : lJ P M) (hx : fC P M x) : pw P M mod x 1=x:=by show dk P M mod (pw P M mod x 0) x=x;rw [pw,iY h hx]
theorem Kr (h : lJ P M) (hx : fC P M x) : pw P M mod x 2=dk P M mod x x:=by show dk P M mod (pw P M mod x 1) x=_;rw [B6 h hx]
theorem JT (h : lJ P M) (hx : fC P M x) : ∀k,pw P M mod (dk P M mod x x) k=pw P M mod x (2 * k)
 | 0=>rfl
 | k+1=>by rw [pw,JT h hx k,<- Kr h hx,i7 h];rfl
theorem Cd (h : lJ P M) : ∀(f n : Nat) (x : Int),fC P M x->n<2 ^ f->K1 (dk P M mod) f x n=pw P M mod x n
 | 0,n,x,hx,hn=>by
  have : n=0:=by simpa using hn
  subst this;rfl
 | f+1,n,x,hx,hn=>by
  have ih:=Cd h f (n / 2) (dk P M mod x x) (fW h x x) (by rw [NJ] at hn;omega);unfold K1;split
  ·rename_i h0;subst h0;rfl
  ·rw [ih,JT h hx];split
   ·rename_i h1;have e : n=2 * (n / 2)+1:=by omega
    have e2 : pw P M mod x n=pw P M mod x (2 * (n / 2)+1):=congrArg _ e;rw [e2];rfl
   ·rename_i h1;have e : n=2 * (n / 2):=by omega
    exact (congrArg _ e).symm
structure Ord (P : Int) (M : Nat) (mod : Lz) (q : Nat) (x : Int) : Prop where
 one : pw P M mod x (q - 1)=1
 ne : ∀k,0<k->k<q - 1->pw P M mod x k ≠ 1
theorem CR (h : lJ P M) {a : Nat} (h1 : pw P M mod x a=1) : ∀n,pw P M mod x (a * n)=1
 | 0=>rfl
 | n+1=>by rw [Nat.mul_succ,<- i7 h,CR h h1 n,h1,iY h (wq h)]
theorem JQ (h : lJ P M) {a b : Nat} (ha : pw P M mod x a=1) (hb : pw P M mod x b=1) : pw P M mod x (a % b)=1:=by have e : a=b * (a / b)+a % b:=(Nat.div_add_mod a b).symm;rw [e,<- i7 h,CR h hb,iY h (vi h x _)] at ha;exact ha
theorem Kp (h : lJ P M) : ∀(b a : Nat),pw P M mod x a=1->pw P M mod x b=1->pw P M mod x (Nat.gcd b a)=1:=by
 intro b;induction b using Nat.strongRecOn with
 | ind b ih =>
  intro a ha hb
  by_cases h0 : b=0
  ·subst h0;rw [Nat.gcd_zero_left];exact ha
  ·rw [Nat.gcd_rec]
   exact ih (a % b) (Po _ (by omega)) b hb (JQ h ha hb)
theorem Ord.of (h : lJ P M) (hx : fC P M x) (hq : q<=256) (ho : zu (dk P M mod) q x=true) : Ord P M mod q x:=by
 unfold zu at ho;rw [MC] at ho;obtain ⟨h1,h2⟩:=ho;have h1':=eq_of_beq h1;rw [Cd h 8 _ x hx (by omega)] at h1';refine ⟨h1',λk hk0 hk1 hk=>?_⟩;have hg:=Kp h k (q - 1) h1' hk;have hgd : Nat.gcd k (q - 1) ∣ q - 1:=Nat.gcd_dvd_right _ _;have hgl : Nat.gcd k (q - 1)<=k:=Nat.gcd_le_left _ hk0;have hg0 : 0<Nat.gcd k (q - 1):=Nat.gcd_pos_of_pos_left _ hk0;have h3:=List.all_eq_true.1 h2 (Nat.gcd k (q - 1)) (List.mem_range.2 (by omega));have h4 : (q - 1) % Nat.gcd k (q - 1)=0:=Nat.mod_eq_zero_of_dvd hgd;simp only [Pc,beq_iff_eq,bne_iff_ne,ne_eq] at h3;rcases h3 with (h3 | h3) | h3
 ·omega
 ·exact h3 h4
 ·rw [Cd h 8 _ x hx (by omega)] at h3;exact h3 hg
theorem Ord.nz (h : lJ P M) (o : Ord P M mod q x) {k : Nat} (hk : k<q - 1) : pw P M mod x k ≠ 0:=by intro h0;have h1:=i7 (mod:=mod) h x k (q - 1 - k);rw [h0,ju h,pE h,show k+(q - 1 - k)=q - 1 by omega,o.one] at h1;omega
theorem Ord.inj (h : lJ P M) (o : Ord P M mod q x) {i j : Nat} (hij : i<j) (hj : j<q - 1) : pw P M mod x i ≠ pw P M mod x j:=by
 intro e;have h1:=i7 (mod:=mod) h x i (q - 1 - i);have h2:=i7 (mod:=mod) h x j (q - 1 - i);rw [show i+(q - 1 - i)=q - 1 by omega,o.one,e,h2] at h1;have h3 : pw P M mod x (j - i)=1:=by have h4:=i7 (mod:=mod) h x (j - i) (q - 1);rw [o.one,ju h,iY h (vi h x _),show j - i+(q - 1)=j+(q - 1 - i) by omega,h1] at h4;exact h4
 exact o.ne (j - i) (by omega) (by omega) h3
theorem tz (h : lJ P M) (hx : fC P M x) (o : Ord P M mod q x) : ∀(n k : Nat),k<=q - 1->q - 1 - k<n->0<k ->
  jb (λz=>dk P M mod z x) n ((List.range k).map λi=>pw P M mod x i) (pw P M mod x k)=(List.range (q - 1)).map λi=>pw P M mod x i
 | 0,k,_,hn,_=>by omega
 | n+1,k,hk,hn,h0=>by
  by_cases hke : k=q - 1
  ·subst hke;refine jD _ _ _ _ (.inr ?_);rw [o.one,Oc];exact ⟨0,List.mem_range.2 h0,rfl⟩
  ·rw [rK]
   ·have e : (List.range k).map (λi=>pw P M mod x i) ++ [pw P M mod x k]=(List.range (k+1)).map λi=>pw P M mod x i:=by rw [Nx,M3];rfl
    rw [e];exact tz h hx o n (k+1) (by omega) (by omega) (by omega)
   ·rintro (h1 | h1)
    ·exact o.nz h (by omega) h1
    ·obtain ⟨i,hi,e⟩:=List.mem_map.1 h1;exact o.inj h (List.mem_range.1 hi) (by omega) e
theorem Ord.gn (h : lJ P M) (hx : fC P M x) (hq : 2<=q) (o : Ord P M mod q x) : gn P M mod q x=true:=by
 have hl : e9 P M mod q x=(List.range (q - 1)).map λi=>pw P M mod x i:=by
  by_cases h2 : q=2
  ·subst h2;have : x=1:=by have:=o.one;rwa [show 2 - 1=1 from rfl,B6 h hx] at this
   subst this;rw [e9,jD _ _ _ _ (.inr (by simp))];rfl
  ·have:=tz h hx o q 1 (by omega) (by omega) (by omega);rw [B6 h hx] at this;exact this
 unfold Proofs.YtcfmiocdlcapoaaGreat.gn;rw [hl,MC];refine ⟨by simp,?_⟩;have e : nth ((List.range (q - 1)).map λi=>pw P M mod x i) (q - 2)=pw P M mod x (q - 2):=by rw [aj (by simp;omega)];simp
 rw [e];have : dk P M mod (pw P M mod x (q - 2)) x=pw P M mod x (q - 1):=by rw [show q - 1=(q - 2)+1 by omega];rfl
 rw [this,o.one];rfl
theorem tk : ∀(n x y : Nat),2<=q->x<=y->y<x+n->gn P M mod q y=true->lG P M mod q n x ≠ []
 | 0,x,y,_,h1,h2,_=>by omega
 | n+1,x,y,hq,h1,h2,hg=>by
  rw [lG];by_cases hx : gn P M mod q x=true
  ·rw [Mg hx];intro e;simp only [gn,MC,beq_iff_eq] at hx;rw [e] at hx;simp at hx;omega
  ·rw [Mh hx];refine tk n (x+1) y hq ?_ (by omega) hg;rcases Qi h1 with h3 | h3
   ·subst h3;exact absurd hg hx
   ·exact h3
theorem zq {ex : Lz} {y a b : Int} (g : ui P M mod q y ex) (ha : fC P M a) (hb : fC P M b) (ha0 : a ≠ 0) (hb0 : b ≠ 0) : dk P M mod a b ≠ 0:=by obtain ⟨i,_,rfl,_⟩:=g.log ha ha0;obtain ⟨j,_,rfl,_⟩:=g.log hb hb0;rw [i7 g.res];exact g.Lo _
end
theorem D8 {P : Int} {M q : Nat} {l : List (Nat × Nat)} (h : fw P M q l) {v : Nat} (hv : v<q) : ∃c,BQ P M q v c=true:=⟨_,h v hv⟩
theorem K9 (p m : Nat) (hp : gE p=true) (h2 : 2<=p) (hm : 2<=m) (hm8 : m<=8) (hpw : (p : Int) ^ m<=256) : ∃l,fw p m (((p : Int) ^ m).toNat) l:=by
 have hp16 : p<=16:=by
  have h1:=dF (P:=(p : Int)) (by omega) hm;have h3 : (p : Int) ^ 2=p * p:=by rw [M6,M6,N0,OK]
  rcases MU 16 p with h4 | h4
  ·have h5 : 17 * 17<=p * p:=Pp h4 h4;have h6 : ((17 * 17 : Nat) : Int)<=((p * p : Nat) : Int):=Int.ofNat_le.2 h5;rw [Int.natCast_mul] at h6;omega
  ·exact h4
 have hc : p=2\/p=3\/p=4\/p=5\/p=6\/p=7\/p=8\/p=9\/p=10\/p=11\/p=12\/p=13\/p=14\/p=15\/p=16:=by omega
 have hd : m=2\/m=3\/m=4\/m=5\/m=6\/m=7\/m=8:=by omega
 rcases hc with rfl | rfl | rfl | rfl | rfl | rfl | rfl | rfl | rfl | rfl | rfl | rfl | rfl | rfl | rfl
 ·rcases hd with rfl | rfl | rfl | rfl | rfl | rfl | rfl
  ·exact ⟨_,KH⟩
  ·exact ⟨_,Kc⟩
  ·exact ⟨_,Kz⟩
  ·exact ⟨_,Ki⟩
  ·exact ⟨_,KC⟩
  ·exact ⟨_,KV⟩
  ·exact ⟨_,KQ⟩
 ·rcases hd with rfl | rfl | rfl | rfl | rfl | rfl | rfl
  ·exact ⟨_,J9⟩
  ·exact ⟨_,Km⟩
  ·exact ⟨_,KT⟩
  ·exact ⟨_,J8⟩
  ·exact absurd hpw (by decide)
  ·exact absurd hpw (by decide)
  ·exact absurd hpw (by decide)
 ·exact absurd hp (by decide)
 ·rcases hd with rfl | rfl | rfl | rfl | rfl | rfl | rfl
  ·exact ⟨_,Ku⟩
  ·exact ⟨_,Kw⟩
  ·exact absurd hpw (by decide)
  ·exact absurd hpw (by decide)
  ·exact absurd hpw (by decide)
  ·exact absurd hpw (by decide)
  ·exact absurd hpw (by decide)
 ·exact absurd hp (by decide)
 ·rcases hd with rfl | rfl | rfl | rfl | rfl | rfl | rfl
  ·exact ⟨_,Kh⟩
  ·exact absurd hpw (by decide)
  ·exact absurd hpw (by decide)
  ·exact absurd hpw (by decide)
  ·exact absurd hpw (by decide)
  ·exact absurd hpw (by decide)
  ·exact absurd hpw (by decide)
 ·exact absurd hp (by decide)
 ·exact absurd hp (by decide)
 ·exact absurd hp (by decide)
 ·rcases hd with rfl | rfl | rfl | rfl | rfl | rfl | rfl
  ·exact ⟨_,IJ⟩
  ·exact absurd hpw (by decide)
  ·exact absurd hpw (by decide)
  ·exact absurd hpw (by decide)
  ·exact absurd hpw (by decide)
  ·exact absurd hpw (by decide)
  ·exact absurd hpw (by decide)
 ·exact absurd hp (by decide)
 ·rcases hd with rfl | rfl | rfl | rfl | rfl | rfl | rfl
  ·exact ⟨_,Jc⟩
  ·exact absurd hpw (by decide)
  ·exact absurd hpw (by decide)
  ·exact absurd hpw (by decide)
  ·exact absurd hpw (by decide)
  ·exact absurd hpw (by decide)
  ·exact absurd hpw (by decide)
 ·exact absurd hp (by decide)
 ·exact absurd hp (by decide)
 ·exact absurd hp (by decide)
theorem Jo {P : Int} {m : Nat} (hf : RF P m) {mod : Lz} (hd : dI P mod) (hl : mod.length=m) : 0<=dy P mod/\dy P mod<P ^ m:=by have:=oS (P:=P) (by have:=hf.p2;omega) mod hd;rwa [hl] at this
theorem lz (P M : Int) (mod : Lz) : bF P M mod=bQ P M mod:=by
 by_cases hs : bZ P M mod=true
 ·unfold bF bQ;rw [hs,OC,OC];have hs2:=hs;unfold bZ at hs2;simp only [MC,bne_iff_ne,ne_eq] at hs2;obtain ⟨⟨h1,h2⟩,h3⟩:=hs2;obtain ⟨m,rfl,hrf⟩:=RF.of h1;obtain ⟨p,rfl⟩ : ∃p : Nat,P=p:=⟨P.toNat,by have:=hrf.p2;omega⟩
  rw [Mm] at h2 ⊢;have hp2 : 2<=p:=by have:=hrf.p2;omega
  have hp256 : p<=256:=by have:=hrf.p256;omega
  have hord:=hrf.order;have hres:=hrf.res;obtain ⟨q,hq⟩ : ∃q : Nat,(p : Int) ^ m=q:=⟨((p : Int) ^ m).toNat,by have:=one_lt_pow hres;omega⟩
  have hq2 : 2<=q:=by have:=one_lt_pow hres;omega
  have hq256 : q<=256:=by have:=hrf.pw;omega
  rw [hord,hq,Mm];have hgen : ∀x : Nat,0<x->x<q->zu (dk p m mod) q x=true->(gC p m mod q).isEmpty=false:=λx hx0 hx1 ho=>by
   have hel : fC (p : Int) m x:=⟨by omega,by rw [hq];omega⟩
   have hg:=(Ord.of hres hel hq256 ho).gn hres hel hq2;have:=tk (P:=p) (M:=m) (mod:=mod) (q - 1) 1 x hq2 (by omega) (by omega) hg;unfold gC;cases h : lG p m mod q (q - 1) 1 with
   | nil=>exact absurd h this
   | cons y l=>rfl
  by_cases hm : m=1
  ·subst hm;have hmod : mod=[]:=by rw [Mg (by simp)] at h3;exact MF (by simpa using h3)
   subst hmod;have hr:=List.all_eq_true.1 Gt p (List.mem_range.2 (by omega));have hp2' : decide (p<2)=false:=by simp;omega
   rw [hp2',h2] at hr;simp only [Bool.not_true,Bool.false_or,Qz] at hr;obtain ⟨c,hc,hcp⟩:=hr;have hck:=List.all_eq_true.1 L0 c hc;have hcp2 : c.1=p:=by simpa using hcp
   unfold K3 at hck;rw [hcp2] at hck;simp only [MC,MG] at hck;have hqp : q=p:=by
    have : (p : Int) ^ 1=p:=by rw [M6,N0,OK]
    omega
   rw [hgen c.2 hck.1.2 (by omega) (by rw [hqp];exact hck.1.1)];rfl
  ·have hM : ¬ (m : Int)=1:=by omega
   rw [Mh hM] at h3;simp only [MC,MG] at h3;have hlen : mod.length=m:=by omega
   have hdig : dI (p : Int) mod:=Rh (by omega) λx hx=>by have:=List.all_eq_true.1 h3.2 x hx;simpa using this
   have hv:=Jo hrf hdig hlen;obtain ⟨v,hvv⟩ : ∃v : Nat,dy p mod=v:=⟨(dy p mod).toNat,by omega⟩
   have hdv : bw v p m=mod:=by rw [<- hvv,<- hlen];exact mC mod hdig
   obtain ⟨l,hl⟩:=K9 p m h2 hp2 (by have:=hrf.m1;omega) hrf.m8 hrf.pw;rw [hq,Mm] at hl;obtain ⟨c,hc⟩:=D8 hl (v:=v) (by omega);have hM' : ((m : Int) == 1)=false:=by simpa using hM
   rw [hM',Bool.false_or];unfold BQ at hc;rw [hdv] at hc;split at hc
   ·simp only [MC,MG] at hc;rw [hc.1.1.1,hgen c.1 hc.1.2 hc.2 hc.1.1.2];rfl
   ·rename_i hc2;simp only [MC,MG,Bool.not_eq_true',beq_iff_eq] at hc;rw [hc.1.1.1.1];cases h : (gC p m mod q).isEmpty with
    | true=>rfl
    | false =>
     exfalso
     have hne : gC p m mod q ≠ []:=λe=>by rw [e] at h;cases h
     obtain ⟨y,hy1,hy2,hy3,hy4⟩:=p3 hne
     have g:=ui.zd (mod:=mod) hres hq.symm ⟨by omega,by omega⟩ hy3
     exact zq g (a:=(c.1 : Int)) (b:=(c.2 : Int)) ⟨by omega,by omega⟩ ⟨by omega,by omega⟩ (by omega) (by omega) hc.1.1.1.2
 ·have hs' : bZ P M mod=false:=by simpa using hs
  simp [bF,bQ,hs']
section
open Go.RowKit Go.Shelf Go.Sort
theorem yc (a : OA) (c : Nat) (w : World) : Calls prog 195 #[.slice a 0 c,.int .i64 0,.int .i64 0] w λe w'=>e = .returned (.tuple #[])/\w'=w:=by go_enter func195,ntmps195;go_wp2_with fail;refine wp_loop_rounds 1 ?_;rw [rounds_succ];go_wp2_with fail;go_end0;exact ⟨rfl,rfl⟩
theorem Fo (a : OA) (c : Nat) (w : World) : Calls prog 134 #[.slice a 0 c,.int .i64 0,.int .i64 0,.int .i64 0] w λe w'=>e = .returned (.tuple #[])/\w'=w:=by go_enter func134,ntmps134;go_wp2_with fail;refine wp_loop_rounds 1 ?_;rw [rounds_succ];go_wp2_with fail;refine (yc a c w).mono ?_;rintro e w' ⟨rfl,rfl⟩;go_wp2_with fail;(try simp only [Exit.inBlock,Exit.then]);refine bodyPost_ret (results_none rfl _ _ _) rfl ?_;exact ⟨rfl,rfl⟩
theorem xi (w : World) : Calls prog 135 #[.int .u64 0] w λe w'=>e = .returned (.int .i64 0)/\w'=w :=
 calls_of_every_depth λD=>AnyS.bits_LenIn { K2 with } D 0 w (by omega) (by omega)
theorem EI (a : OA) (c : Nat) (w : World) : Calls prog 70 #[.slice a 0 c] w λe w'=>e = .returned (.tuple #[])/\w'=w:=by go_enter func70,ntmps70;go_wp2_with fail;refine (xi w).mono ?_;rintro e w' ⟨rfl,rfl⟩;go_wp2_with fail;refine (Fo a c w').mono ?_;rintro e w' ⟨rfl,rfl⟩;go_wp2_with fail;go_end0;exact ⟨rfl,rfl⟩
theorem rU (B : Nat) (a : OA) (n c : Nat) (l : Lz) (w : World) (hown : w.ownsRow B 3 1 (.slice a n c) n (l.map (Value.int .i64))) (hB : B<=w.heap.size) (hn : n<=1000000) :
  Calls prog 70 #[.slice a n c] w λe w'=>e = .returned (.tuple #[])/\w'.ownsRow B 3 1 (.slice a n c) n ((b8 l).map (Value.int .i64))/\w.grownBy w' (Value.slice a n c).ownBlock/\Below B w w':=by
 have hl : l.length=n:=by simpa using jT hown
 have hown':=hown;rcases hown.2 with ⟨hv,hz⟩ | ⟨g,cap,cur,hv,hbase,hb,h1,h2,h3,h4⟩
 ·cases hv
  have hl0 : l=[]:=MF hl;subst hl0;refine (EI none 0 w).mono ?_;rintro e w' ⟨rfl,rfl⟩;exact ⟨rfl,by simpa [b8] using hown',⟨rfl,rfl,rfl,Mf _,λk _ _=>rfl⟩,Mi _ _⟩
 ·cases hv
  subst hl;have hH:=holds_of_blockI (ss:=l) hb (by simpa using h4);have hgl : g<w.heap.size:=(Array.getElem?_eq_some_iff.1 hb).1;refine (Any.slices_Sort_int K2 g 0 c l w hH hgl (by omega)).mono ?_;rintro e w' ⟨rfl,nn,os,rfl⟩;have hgr:=grownBy_sortedI (w:=w) (g:=g) (n:=nn) (os:=os) (l.mergeSort λx y=>decide (x<=y)).toArray;exact ⟨rfl,ownsRow_sortedI (by simp) hbase hb h1 h2 h3,hgr,(Mi B w).grown hgr hB (λj hj=>by cases hj;exact hbase)⟩
theorem Cs (Bs : Nat) (a : OA) (len cap : Nat) (zs : Lz) (hlen : len<=1000000) (w : World) (hBs : Bs<w.heap.size) (hc : w.cell? ⟨Bs,0,none⟩=some (.slice a len cap)) (hI : Ints w a len zs) :
  Calls prog 270 #[.func (.func 277) #[] #[.pointer (some ⟨Bs,0,none⟩)]] w λe W' =>
   ∃a2 c2,e = .returned (.slice a2 len c2)/\W'.ownsRow w.heap.size 3 1 (.slice a2 len c2) len ((b8 zs).map (Value.int .i64))/\Rs w W':=by go_enter func270,ntmps270;go_wp2_with fail;refine (AE Bs a len cap zs hlen w hBs hc hI).mono ?_;rintro e w1 ⟨v,rfl,hown,hb⟩;obtain ⟨a2,c2,rfl,_⟩:=Q0 hown;have HS:=Z5 (rU w.heap.size a2 len c2 zs w1 hown hb.size hlen);clear hown;go_wp2_with fail;refine HS.out.mono ?_;rintro e w2 ⟨rfl,hown2,_,hb2⟩;go_wp2_with fail;go_ret;exact ⟨a2,c2,rfl,hown2,hb.trans hb2⟩
end
theorem JV (a : Nat) (h : a<4294967296) : bits .and .u64 (a : Int) 4294967295=a:=by have h2:=bits_and_u64_nat a 4294967295 (by omega) (by omega);have e : a &&& 4294967295=a % 4294967296:=Nat.and_two_pow_sub_one_eq_mod a 32;rw [e,NY h] at h2;exact h2
theorem K0 {n : Int} (h : 0<=n) (h2 : n<=10000000) : wrap64 n=n:=by unfold wrap64;omega
theorem EJ (x y : Nat) (hx : x<=65536) (hy : y<=100) (w : World) :
  Calls prog 223 #[.int .u64 x,.int .u64 y] w λe w'=>e = .returned (.tuple #[.int .u64 0,.int .u64 ((x : Int) * y)])/\w=w':=by
 have hp : (x : Int) * y<=65536 * 100:=Nh (by omega) (by omega) (by omega) (by omega);have hp0 : 0<=(x : Int) * y:=NB (by omega) (by omega);obtain ⟨p,hpe⟩ : ∃p : Nat,(x : Int) * y=p:=⟨((x : Int) * y).toNat,by omega⟩
 have e1:=JV x (by omega);have e2:=JV y (by omega);have e3 : (x : Int) / 4294967296=0:=by omega
 have e4 : (y : Int) / 4294967296=0:=by omega
 have e5 : (p : Int) / 4294967296=0:=by omega
 have e6 : bits .and .u64 0 4294967295=0:=by decide
 have kw : IntKind.u64.wrap (p : Int)=p:=by rw [N7];omega
 have Hp:=Z5 hpe;rw [hpe];go_enter func223,ntmps223;go_wp2;go_ret2;first
  | exact ⟨rfl,rfl⟩
  | (refine ⟨?_,rfl⟩;simp)
theorem EO (x y : Nat) (hx : x<18446744073709551616) (hy : 1<=y) (hy2 : y<=100) (w : World) :
  Calls prog 224 #[.int .u64 0,.int .u64 x,.int .u64 y] w λe w'=>e = .returned (.tuple #[.int .u64 ((x / y : Nat) : Int),.int .u64 ((x % y : Nat) : Int)])/\Rs w w':=by
 have h0 : ((y : Int) == 0)=false:=by simp;omega
 have h1 : decide ((y : Int)<=0)=false:=by simp;omega
 have hy0 : ((y : Int)) ≠ 0:=by omega
 have hq : (x : Int).tdiv y=((x / y : Nat) : Int):=by rw [Om (by omega)];simp
 have hr : (x : Int).tmod y=((x % y : Nat) : Int):=by rw [Int.tmod_eq_emod_of_nonneg (by omega)];simp
 have hd : x / y<=x:=PT x y;have hm : x % y<y:=Po x (by omega);generalize x / y=q at *;generalize x % y=r at *;have kq : IntKind.u64.wrap (q : Int)=(q : Int):=by rw [N7];omega
 have kr : IntKind.u64.wrap (r : Int)=(r : Int):=by rw [N7];omega
 clear hd hm;have hw:=Mi w.heap.size w;have hw2:=(Mi w.heap.size w).drew;go_enter func224,ntmps224;go_upto_region 6 with fail;go_quiet (fail);go_wp2_with fail;go_ret2;exact ⟨rfl,(Q1 ⟨_,rfl⟩)⟩
theorem Bl (n k : Nat) (w : World) (hn : n<=64) (hk : k<=n) :
  Calls prog 169 #[.int .i64 n,.int .i64 k,.int .i64 65536] w λe w'=>e = .returned (.tuple #[.int .i64 (DS n k),.int .i64 (ED n k)])/\Rs w w':=by
 obtain ⟨t,ht⟩ : ∃t : Nat,min k (n - k)=t:=⟨_,rfl⟩
 have htk : dN n k=dN n t:=by
  rcases Nat.le_total k (n - k) with h | h
  ·rw [<- ht,PU h]
  ·rw [<- ht,Nat.min_eq_right h];exact sk n k hk
 have hmin : min (k : Int) ((n : Int) - k)=t:=by omega
 have htn : t<=n:=by omega
 have hkn : decide (n<k)=false:=by simp;omega
 have HcE : Hid (¬ dN n t<=65536->DS n k=0/\ED n k=8):=λh=>by unfold DS ED;rw [htk,Mh h,Mh h];exact ⟨rfl,rfl⟩
 have HcO : Hid (dN n t<=65536->DS n k=dN n t/\ED n k=0):=λh=>by unfold DS ED;rw [htk,Mg h,Mg h];exact ⟨rfl,rfl⟩
 clear htk ht;go_enter func169,ntmps169;go_upto_region 7 with fail;go_cut [1] (λv wx=>v = .int .i64 t/\wx=w);case first =>
  by_cases hm : (n : Int) - k<k
  ·have hmd : decide ((n : Int) - k<k)=true:=MO hm
   have he : (n : Int) - k=t:=by omega
   go_wp2_with fail
   go_meet
   exact ⟨by first | exact congrArg (Value.int .i64) (by omega) | rfl | (simp [he]),rfl⟩
  ·have hmd : decide ((n : Int) - k<k)=false:=M1 hm
   have he : (k : Int)=t:=by omega
   go_wp2_with fail
   go_meet
   exact ⟨by first | exact congrArg (Value.int .i64) (by omega) | rfl | (simp [he]),rfl⟩
 obtain ⟨rfl,hw9⟩:=hcut;obtain rfl:=hw9.symm;clear hw9;go_wp2_with fail;go_loopw [9,8] (λiv ov wr=>∃i : Nat,i<=t/\iv = .int .i64 ((i : Int)+1)/\ov = .int .i64 (dN (n - t+i) i : Nat)/\dN (n - t+i) i<=65536/\Rs w wr) (λiv _ _=>t+1 - (intOf iv).toNat);case atStart=>exact ⟨0,Mj _,rfl,by rw [jk];rfl,by rw [jk];omega,Mi _ _⟩
 case round =>
  obtain ⟨i,hi,rfl,rfl,hc,hb⟩:=hrel
  by_cases hlt : i<t
  ·have Hs : Hid (dN (n - t+i) i * (n - t+(i+1)) / (i+1)=dN (n - t+(i+1)) (i+1)):=FJ n t i
   have Hle : Hid (dN (n - t+(i+1)) (i+1)<=dN n t):=vp htn (t - (i+1)) (i+1) (by omega)
   obtain ⟨x,hx⟩ : ∃x,dN (n - t+i) i=x:=⟨_,rfl⟩
   rw [hx] at hc Hs ⊢
   obtain ⟨y,hy⟩ : ∃y,n - t+(i+1)=y:=⟨_,rfl⟩
   have hye : ((n : Int) - (t : Int)+((i : Int)+1))=y:=by omega
   rw [hy] at Hs Hle
   have Hy:=Z5 hy
   obtain ⟨u,hu⟩ : ∃u,dN (n - t+(i+1)) (i+1)=u:=⟨_,rfl⟩
   rw [hy] at hu
   rw [hu] at Hs Hle
   have hx1 : 1<=x:=by rw [<- hx];exact oc _ _ (by omega)
   obtain ⟨j,hj⟩ : ∃j,i+1=j:=⟨_,rfl⟩
   have hji : (i : Int)+1=j:=by omega
   obtain ⟨p,hp⟩ : ∃p,x * y=p:=⟨_,rfl⟩
   have hpe : (x : Int) * (y : Int)=p:=by rw [<- hp];simp
   have hpl : p<=65536 * 64:=by rw [<- hp];have h1:=Pp hc (show y<=64 by omega);omega
   rw [hp,hj] at Hs
   have hup : u<=p:=by rw [<- Hs.out];exact PT p j
   have Hu:=Z5 hu
   have Hj:=Z5 hj
   have d2 : decide ((j : Int)<=0)=false:=by simp;omega
   have k1 : IntKind.u64.wrap (x : Int)=x:=by rw [N7];omega
   have k2 : IntKind.u64.wrap (y : Int)=y:=by rw [N7];omega
   have k3 : IntKind.u64.wrap (j : Int)=j:=by rw [N7];omega
   have k4 : IntKind.i64.wrap (u : Int)=u:=Mq _ (by omega)
   have K5 : Hid (wrap64 (y : Int)=y):=K0 (by omega) (by omega)
   have Hm:=Z5 (EJ x y hc (by omega))
   rw [hpe] at Hm
   have Hd:=Z5 (EO p j (by omega) (by omega) (by omega))
   rw [Hs.out] at Hd
   have Hji:=Z5 hji
   rw [hji] at hye ⊢
   have d1 : decide (j<=t)=true:=by simp;omega
   have d2' : decide (j=0)=false:=by simp;omega
   clear hx hy hu hp hup hpl hji hj Hs hpe
   go_wp2_with fail
   rw [K5.out,k2]
   with_reducible refine (Hm.out wr).mono ?_
   rintro e w' ⟨rfl,rfl⟩
   go_wp2_with fail
   with_reducible refine (Hd.out wr).mono ?_
   rintro e w5 ⟨rfl,hb5⟩
   have hb6:=QQ hb hb5
   by_cases hbig : u<=65536
   ·have d3 : decide ((65536 : Int)<(u : Int))=false:=by simp;omega
    have d3' : decide (65536<u)=false:=by simp;omega
    go_wp2_with fail
    have h2 : wrap64 ((j : Int)+1)=(j : Int)+1:=K0 (by omega) (by have:=Hj.out;omega)
    have H2:=Z5 h2
    clear h2 k1 k2 k3 k4
    go_roundw
    case rel=>exact ⟨i+1,by omega,by rw [H2.out];have:=Hji.out;congr 1;omega,by rw [Hy.out,Hu.out],by rw [Hy.out,Hu.out];exact hbig,hb6⟩
    case measure=>have:=Hj.out;rw [H2.out];simp [intOf] <;> omega
   ·have d3 : decide ((65536 : Int)<(u : Int))=true:=by simp;omega
    have d3' : decide (65536<u)=true:=by simp;omega
    have Hb:=Z5 (HcE.out λh=>by have:=Hle.out;omega)
    clear hbig
    go_wp2_with fail
    go_ret2
    exact ⟨gY Hb.out.1.symm Hb.out.2.symm,hb6⟩
  ·obtain rfl : i=t:=by omega
   have d1 : decide ((i : Int)+1<=(i : Int))=false:=by simp;omega
   rw [show n - i+i=n by omega] at hc ⊢
   have Hb:=Z5 (HcO.out hc)
   generalize dN n i=z at *
   go_wp2_with fail
   go_ret2
   exact ⟨gY Hb.out.1.symm Hb.out.2.symm,hb⟩
end Go.Proofs.YtcfmiocdlcapoaaGreat
