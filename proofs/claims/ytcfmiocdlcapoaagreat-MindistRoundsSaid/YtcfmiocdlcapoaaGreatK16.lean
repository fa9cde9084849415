import Derived.Test.YtcfmiocdlcapoaaGreatK14
import Derived.Test.YtcfmiocdlcapoaaGreatK15
import Derived.Test.YtcfmiocdlcapoaaGreatK10
import Derived.Test.YtcfmiocdlcapoaaGreatK7
import Derived.Sort.OwnSortedInts
import Derived.Test.YtcfmiocdlcapoaaGreatK2
import Derived.Test.YtcfmiocdlcapoaaGreatK4
namespace Go.Proofs.YtcfmiocdlcapoaaGreat
set_option linter.unusedVariables false
set_option linter.unusedSimpArgs false
set_option linter.unusedSectionVars false
set_option maxRecDepth 100000
set_option maxHeartbeats 2000000
open Go.RowKit
theorem Gi : dy 5 2 25 wF 0 25=true:=by decide +kernel
theorem JG : fT 5 2 25 wF:=aO (da 5 2 25 wF) Gi
theorem EW : dy 5 3 125 nK 0 32=true:=by decide +kernel
theorem Eb : dy 5 3 125 nK 32 32=true:=by decide +kernel
theorem Db : dy 5 3 125 nK 64 32=true:=by decide +kernel
theorem Dw : dy 5 3 125 nK 96 29=true:=by decide +kernel
theorem Jk : fT 5 3 125 nK:=aO (aO (aO (aO (da 5 3 125 nK) EW) Eb) Db) Dw
theorem FG : dy 7 2 49 xX 0 49=true:=by decide +kernel
theorem JF : fT 7 2 49 xX:=aO (da 7 2 49 xX) FG
theorem Dy : dy 11 2 121 lJ 0 32=true:=by decide +kernel
theorem AF : dy 11 2 121 lJ 32 32=true:=by decide +kernel
theorem Bp : dy 11 2 121 lJ 64 32=true:=by decide +kernel
theorem B6 : dy 11 2 121 lJ 96 25=true:=by decide +kernel
theorem GP : fT 11 2 121 lJ:=aO (aO (aO (aO (da 11 2 121 lJ) Dy) AF) Bp) B6
theorem D9 : dy 13 2 169 iY 0 32=true:=by decide +kernel
theorem BK : dy 13 2 169 iY 32 32=true:=by decide +kernel
theorem BZ : dy 13 2 169 iY 64 32=true:=by decide +kernel
theorem AE : dy 13 2 169 iY 96 32=true:=by decide +kernel
theorem yP : dy 13 2 169 iY 128 32=true:=by decide +kernel
theorem zd : dy 13 2 169 iY 160 9=true:=by decide +kernel
theorem Ir : fT 13 2 169 iY:=aO (aO (aO (aO (aO (aO (da 13 2 169 iY) D9) BK) BZ) AE) yP) zd
def JY (c : Nat × Nat) : Bool:=za (dz c.1 1 []) c.1 c.2 && decide (0<c.2) && decide (c.2<c.1)
theorem J9 : roots.all JY=true:=by decide +kernel
theorem EO : ((List.range 257).all λp=>p<2 || !fI p || roots.any λc=>c.1 == p)=true:=by decide +kernel
section
variable {P : Int} {M : Nat} {mod : Lz} {q : Nat} {x : Int}
theorem Bl (h : mx P M) (hx : ee P M x) : pw P M mod x 1=x:=by show dz P M mod (pw P M mod x 0) x=x;rw [pw,iP h hx]
theorem IY (h : mx P M) (hx : ee P M x) : pw P M mod x 2=dz P M mod x x:=by show dz P M mod (pw P M mod x 1) x=_;rw [Bl h hx]
theorem II (h : mx P M) (hx : ee P M x) : ∀k,pw P M mod (dz P M mod x x) k=pw P M mod x (2 * k)
 | 0=>rfl
 | k+1=>by rw [pw,II h hx k,<- IY h hx,ji h];rfl
theorem AH (h : mx P M) : ∀(f n : Nat) (x : Int),ee P M x->n<2 ^ f->fpw (dz P M mod) f x n=pw P M mod x n
 | 0,n,x,hx,hn=>by
  have : n=0:=by simpa using hn
  subst this;rfl
 | f+1,n,x,hx,hn=>by
  have ih:=AH h f (n / 2) (dz P M mod x x) (gu h x x) (by rw [Nat.pow_succ] at hn;omega)
  unfold fpw
  split
  ·rename_i h0;subst h0;rfl
  ·rw [ih,II h hx]
   split
   ·rename_i h1
    have e : n=2 * (n / 2)+1:=by omega
    have e2 : pw P M mod x n=pw P M mod x (2 * (n / 2)+1):=congrArg _ e
    rw [e2];rfl
   ·rename_i h1
    have e : n=2 * (n / 2):=by omega
    exact (congrArg _ e).symm
structure Ord (P : Int) (M : Nat) (mod : Lz) (q : Nat) (x : Int) : Prop where
 one : pw P M mod x (q - 1)=1
 ne : ∀k,0<k->k<q - 1->pw P M mod x k ≠ 1
theorem CM (h : mx P M) {a : Nat} (h1 : pw P M mod x a=1) : ∀n,pw P M mod x (a * n)=1
 | 0=>rfl
 | n+1=>by rw [Nat.mul_succ,<- ji h,CM h h1 n,h1,iP h (xk h)]
theorem Iw (h : mx P M) {a b : Nat} (ha : pw P M mod x a=1) (hb : pw P M mod x b=1) : pw P M mod x (a % b)=1:=by
 have e : a=b * (a / b)+a % b:=(Nat.div_add_mod a b).symm
 rw [e,<- ji h,CM h hb,iP h (wk h x _)] at ha
 exact ha
theorem JH (h : mx P M) : ∀(b a : Nat),pw P M mod x a=1->pw P M mod x b=1->pw P M mod x (Nat.gcd b a)=1:=by
 intro b
 induction b using Nat.strongRecOn with
 | ind b ih =>
  intro a ha hb
  by_cases h0 : b=0
  ·subst h0;rw [Nat.gcd_zero_left];exact ha
  ·rw [Nat.gcd_rec]
   exact ih (a % b) (Nat.mod_lt _ (by omega)) b hb (Iw h ha hb)
theorem Ord.of (h : mx P M) (hx : ee P M x) (hq : q<=256) (ho : za (dz P M mod) q x=true) : Ord P M mod q x:=by
 unfold za at ho
 rw [Bool.and_eq_true] at ho
 obtain ⟨h1,h2⟩:=ho
 have h1':=eq_of_beq h1
 rw [AH h 8 _ x hx (by omega)] at h1'
 refine ⟨h1',λk hk0 hk1 hk=>?_⟩
 have hg:=JH h k (q - 1) h1' hk
 have hgd : Nat.gcd k (q - 1) ∣ q - 1:=Nat.gcd_dvd_right _ _
 have hgl : Nat.gcd k (q - 1)<=k:=Nat.gcd_le_left _ hk0
 have hg0 : 0<Nat.gcd k (q - 1):=Nat.gcd_pos_of_pos_left _ hk0
 have h3:=List.all_eq_true.1 h2 (Nat.gcd k (q - 1)) (List.mem_range.2 (by omega))
 have h4 : (q - 1) % Nat.gcd k (q - 1)=0:=Nat.mod_eq_zero_of_dvd hgd
 simp only [Bool.or_eq_true,beq_iff_eq,bne_iff_ne,ne_eq] at h3
 rcases h3 with (h3 | h3) | h3
 ·omega
 ·exact h3 h4
 ·rw [AH h 8 _ x hx (by omega)] at h3
  exact h3 hg
theorem Ord.nz (h : mx P M) (o : Ord P M mod q x) {k : Nat} (hk : k<q - 1) : pw P M mod x k ≠ 0:=by
 intro h0
 have h1:=ji (mod:=mod) h x k (q - 1 - k)
 rw [h0,jB h,qR h,show k+(q - 1 - k)=q - 1 by omega,o.one] at h1
 omega
theorem Ord.inj (h : mx P M) (o : Ord P M mod q x) {i j : Nat} (hij : i<j) (hj : j<q - 1) : pw P M mod x i ≠ pw P M mod x j:=by
 intro e
 have h1:=ji (mod:=mod) h x i (q - 1 - i)
 have h2:=ji (mod:=mod) h x j (q - 1 - i)
 rw [show i+(q - 1 - i)=q - 1 by omega,o.one,e,h2] at h1
 have h3 : pw P M mod x (j - i)=1:=by
  have h4:=ji (mod:=mod) h x (j - i) (q - 1)
  rw [o.one,jB h,iP h (wk h x _),show j - i+(q - 1)=j+(q - 1 - i) by omega,h1] at h4
  exact h4
 exact o.ne (j - i) (by omega) (by omega) h3
theorem uf (h : mx P M) (hx : ee P M x) (o : Ord P M mod q x) : ∀(n k : Nat),k<=q - 1->q - 1 - k<n->0<k ->
  powTo (λz=>dz P M mod z x) n ((List.range k).map λi=>pw P M mod x i) (pw P M mod x k)=(List.range (q - 1)).map λi=>pw P M mod x i
 | 0,k,_,hn,_=>by omega
 | n+1,k,hk,hn,h0=>by
  by_cases hke : k=q - 1
  ·subst hke
   refine j5 _ _ _ _ (.inr ?_)
   rw [o.one,List.mem_map]
   exact ⟨0,List.mem_range.2 h0,rfl⟩
  ·rw [sJ]
   ·have e : (List.range k).map (λi=>pw P M mod x i) ++ [pw P M mod x k]=(List.range (k+1)).map λi=>pw P M mod x i:=by rw [List.range_succ,List.map_append];rfl
    rw [e]
    exact uf h hx o n (k+1) (by omega) (by omega) (by omega)
   ·rintro (h1 | h1)
    ·exact o.nz h (by omega) h1
    ·obtain ⟨i,hi,e⟩:=List.mem_map.1 h1
     exact o.inj h (List.mem_range.1 hi) (by omega) e
theorem Ord.gw (h : mx P M) (hx : ee P M x) (hq : 2<=q) (o : Ord P M mod q x) : gw P M mod q x=true:=by
 have hl : fQ P M mod q x=(List.range (q - 1)).map λi=>pw P M mod x i:=by
  by_cases h2 : q=2
  ·subst h2
   have : x=1:=by have:=o.one;rwa [show 2 - 1=1 from rfl,Bl h hx] at this
   subst this
   rw [fQ,j5 _ _ _ _ (.inr (by simp))]
   rfl
  ·have:=uf h hx o q 1 (by omega) (by omega) (by omega)
   rw [Bl h hx] at this
   exact this
 unfold Proofs.YtcfmiocdlcapoaaGreat.gw
 rw [hl,Bool.and_eq_true]
 refine ⟨by simp,?_⟩
 have e : nth ((List.range (q - 1)).map λi=>pw P M mod x i) (q - 2)=pw P M mod x (q - 2):=by
  rw [ai (by simp;omega)];simp
 rw [e]
 have : dz P M mod (pw P M mod x (q - 2)) x=pw P M mod x (q - 1):=by rw [show q - 1=(q - 2)+1 by omega];rfl
 rw [this,o.one];rfl
theorem sN : ∀(n x y : Nat),2<=q->x<=y->y<x+n->gw P M mod q y=true->genTo P M mod q n x ≠ []
 | 0,x,y,_,h1,h2,_=>by omega
 | n+1,x,y,hq,h1,h2,hg=>by
  rw [genTo]
  by_cases hx : gw P M mod q x=true
  ·rw [if_pos hx]
   intro e
   simp only [gw,Bool.and_eq_true,beq_iff_eq] at hx
   rw [e] at hx
   simp at hx
   omega
  ·rw [if_neg hx]
   refine sN n (x+1) y hq ?_ (by omega) hg
   rcases Nat.eq_or_lt_of_le h1 with h3 | h3
   ·subst h3;exact absurd hg hx
   ·exact h3
theorem zu {ex : Lz} {y a b : Int} (g : uO P M mod q y ex) (ha : ee P M a) (hb : ee P M b) (ha0 : a ≠ 0) (hb0 : b ≠ 0) : dz P M mod a b ≠ 0:=by
 obtain ⟨i,_,rfl,_⟩:=g.log ha ha0
 obtain ⟨j,_,rfl,_⟩:=g.log hb hb0
 rw [ji g.res]
 exact g.JJ _
end
theorem Ea {P : Int} {M q : Nat} {l : List (Nat × Nat)} (h : fT P M q l) {v : Nat} (hv : v<q) : ∃c,BE P M q v c=true:=⟨_,h v hv⟩
theorem J3 (p m : Nat) (hp : fI p=true) (h2 : 2<=p) (hm : 2<=m) (hm8 : m<=8) (hpw : (p : Int) ^ m<=256) : ∃l,fT p m (((p : Int) ^ m).toNat) l:=by
 have hp16 : p<=16:=by
  have h1:=cW (P:=(p : Int)) (by omega) hm
  have h3 : (p : Int) ^ 2=p * p:=by rw [Int.pow_succ,Int.pow_succ,Int.pow_zero,Int.one_mul]
  rcases Nat.lt_or_ge 16 p with h4 | h4
  ·have h5 : 17 * 17<=p * p:=Nat.mul_le_mul h4 h4
   have h6 : ((17 * 17 : Nat) : Int)<=((p * p : Nat) : Int):=Int.ofNat_le.2 h5
   rw [Int.natCast_mul] at h6
   omega
  ·exact h4
 have hc : p=2\/p=3\/p=4\/p=5\/p=6\/p=7\/p=8\/p=9\/p=10\/p=11\/p=12\/p=13\/p=14\/p=15\/p=16:=by omega
 have hd : m=2\/m=3\/m=4\/m=5\/m=6\/m=7\/m=8:=by omega
 rcases hc with rfl | rfl | rfl | rfl | rfl | rfl | rfl | rfl | rfl | rfl | rfl | rfl | rfl | rfl | rfl
 ·rcases hd with rfl | rfl | rfl | rfl | rfl | rfl | rfl
  ·exact ⟨_,Jq⟩
  ·exact ⟨_,Jj⟩
  ·exact ⟨_,JB⟩
  ·exact ⟨_,I8⟩
  ·exact ⟨_,Jr⟩
  ·exact ⟨_,Js⟩
  ·exact ⟨_,Jo⟩
 ·rcases hd with rfl | rfl | rfl | rfl | rfl | rfl | rfl
  ·exact ⟨_,Jd⟩
  ·exact ⟨_,Jh⟩
  ·exact ⟨_,Jp⟩
  ·exact ⟨_,I4⟩
  ·exact absurd hpw (by decide)
  ·exact absurd hpw (by decide)
  ·exact absurd hpw (by decide)
 ·exact absurd hp (by decide)
 ·rcases hd with rfl | rfl | rfl | rfl | rfl | rfl | rfl
  ·exact ⟨_,JG⟩
  ·exact ⟨_,Jk⟩
  ·exact absurd hpw (by decide)
  ·exact absurd hpw (by decide)
  ·exact absurd hpw (by decide)
  ·exact absurd hpw (by decide)
  ·exact absurd hpw (by decide)
 ·exact absurd hp (by decide)
 ·rcases hd with rfl | rfl | rfl | rfl | rfl | rfl | rfl
  ·exact ⟨_,JF⟩
  ·exact absurd hpw (by decide)
  ·exact absurd hpw (by decide)
  ·exact absurd hpw (by decide)
  ·exact absurd hpw (by decide)
  ·exact absurd hpw (by decide)
  ·exact absurd hpw (by decide)
 ·exact absurd hp (by decide)
 ·exact absurd hp (by decide)
 ·exact absurd hp (by decide)
 ·rcases hd with rfl | rfl | rfl | rfl | rfl | rfl | rfl
  ·exact ⟨_,GP⟩
  ·exact absurd hpw (by decide)
  ·exact absurd hpw (by decide)
  ·exact absurd hpw (by decide)
  ·exact absurd hpw (by decide)
  ·exact absurd hpw (by decide)
  ·exact absurd hpw (by decide)
 ·exact absurd hp (by decide)
 ·rcases hd with rfl | rfl | rfl | rfl | rfl | rfl | rfl
  ·exact ⟨_,Ir⟩
  ·exact absurd hpw (by decide)
  ·exact absurd hpw (by decide)
  ·exact absurd hpw (by decide)
  ·exact absurd hpw (by decide)
  ·exact absurd hpw (by decide)
  ·exact absurd hpw (by decide)
 ·exact absurd hp (by decide)
 ·exact absurd hp (by decide)
 ·exact absurd hp (by decide)
theorem Ie {P : Int} {m : Nat} (hf : RF P m) {mod : Lz} (hd : cR P mod) (hl : mod.length=m) : 0<=valu P mod/\valu P mod<P ^ m:=by
 have:=pZ (P:=P) (by have:=hf.p2;omega) mod hd
 rwa [hl] at this
theorem cP (P M : Int) (mod : Lz) : aZ P M mod=bA P M mod:=by
 by_cases hs : b8 P M mod=true
 ·unfold aZ bA
  rw [hs,Bool.true_and,Bool.true_and]
  have hs2:=hs
  unfold b8 at hs2
  simp only [Bool.and_eq_true,bne_iff_ne,ne_eq] at hs2
  obtain ⟨⟨h1,h2⟩,h3⟩:=hs2
  obtain ⟨m,rfl,hrf⟩:=RF.of h1
  obtain ⟨p,rfl⟩ : ∃p : Nat,P=p:=⟨P.toNat,by have:=hrf.p2;omega⟩
  rw [Int.toNat_natCast] at h2 ⊢
  have hp2 : 2<=p:=by have:=hrf.p2;omega
  have hp256 : p<=256:=by have:=hrf.p256;omega
  have hord:=hrf.order
  have hres:=hrf.res
  obtain ⟨q,hq⟩ : ∃q : Nat,(p : Int) ^ m=q:=⟨((p : Int) ^ m).toNat,by have:=one_lt_pow hres;omega⟩
  have hq2 : 2<=q:=by have:=one_lt_pow hres;omega
  have hq256 : q<=256:=by have:=hrf.pw;omega
  rw [hord,hq,Int.toNat_natCast]
  have hgen : ∀x : Nat,0<x->x<q->za (dz p m mod) q x=true->(gK p m mod q).isEmpty=false:=λx hx0 hx1 ho=>by
   have hel : ee (p : Int) m x:=⟨by omega,by rw [hq];omega⟩
   have hg:=(Ord.of hres hel hq256 ho).gw hres hel hq2
   have:=sN (P:=p) (M:=m) (mod:=mod) (q - 1) 1 x hq2 (by omega) (by omega) hg
   unfold gK
   cases h : genTo p m mod q (q - 1) 1 with
   | nil=>exact absurd h this
   | cons y l=>rfl
  by_cases hm : m=1
  ·subst hm
   have hmod : mod=[]:=by
    rw [if_pos (by simp)] at h3
    exact List.eq_nil_of_length_eq_zero (by simpa using h3)
   subst hmod
   have hr:=List.all_eq_true.1 EO p (List.mem_range.2 (by omega))
   have hp2' : decide (p<2)=false:=by simp;omega
   rw [hp2',h2] at hr
   simp only [Bool.not_true,Bool.false_or,List.any_eq_true] at hr
   obtain ⟨c,hc,hcp⟩:=hr
   have hck:=List.all_eq_true.1 J9 c hc
   have hcp2 : c.1=p:=by simpa using hcp
   unfold JY at hck
   rw [hcp2] at hck
   simp only [Bool.and_eq_true,decide_eq_true_eq] at hck
   have hqp : q = p := by
     have : (p : Int) ^ 1 = p := by rw [Int.pow_succ, Int.pow_zero, Int.one_mul]
     omega
   rw [hgen c.2 hck.1.2 (by omega) (by rw [hqp];exact hck.1.1)]
   rfl
  ·have hM : ¬ (m : Int)=1:=by omega
   rw [if_neg hM] at h3
   simp only [Bool.and_eq_true,decide_eq_true_eq] at h3
   have hlen : mod.length=m:=by omega
   have hdig : cR (p : Int) mod:=cR.jZ (by omega) λx hx=>by
    have:=List.all_eq_true.1 h3.2 x hx
    simpa using this
   have hv:=Ie hrf hdig hlen
   obtain ⟨v,hvv⟩ : ∃v : Nat,valu p mod=v:=⟨(valu p mod).toNat,by omega⟩
   have hdv : digs v p m=mod:=by rw [<- hvv,<- hlen];exact nD mod hdig
   obtain ⟨l,hl⟩:=J3 p m h2 hp2 (by have:=hrf.m1;omega) hrf.m8 hrf.pw
   rw [hq,Int.toNat_natCast] at hl
   obtain ⟨c,hc⟩:=Ea hl (v:=v) (by omega)
   have hM' : ((m : Int) == 1)=false:=by simpa using hM
   rw [hM',Bool.false_or]
   unfold BE at hc
   rw [hdv] at hc
   split at hc
   ·simp only [Bool.and_eq_true,decide_eq_true_eq] at hc
    rw [hc.1.1.1,hgen c.1 hc.1.2 hc.2 hc.1.1.2];rfl
   ·rename_i hc2
    simp only [Bool.and_eq_true,decide_eq_true_eq,Bool.not_eq_true',beq_iff_eq] at hc
    rw [hc.1.1.1.1]
    cases h : (gK p m mod q).isEmpty with
    | true=>rfl
    | false =>
     exfalso
     have hne : gK p m mod q ≠ []:=λe=>by rw [e] at h;cases h
     obtain ⟨y,hy1,hy2,hy3,hy4⟩:=qI hne
     have g:=uO.yN (mod:=mod) hres hq.symm ⟨by omega,by omega⟩ hy3
     exact zu g (a:=(c.1 : Int)) (b:=(c.2 : Int)) ⟨by omega,by omega⟩ ⟨by omega,by omega⟩ (by omega) (by omega) hc.1.1.1.2
 ·have hs' : b8 P M mod=false:=by simpa using hs
  simp [aZ,bA,hs']
section
open Go.RowKit Go.Shelf Go.Sort
theorem xc (a : OA) (c : Nat) (w : World) : Calls Tryz.prog 195 #[.slice a 0 c,.int .i64 0,.int .i64 0] w λe w'=>e = .returned (.tuple #[])/\w'=w:=by
 go_enter Tryz.func195,Tryz.ntmps195
 go_wp2_with fail
 refine wp_loop_rounds 1 ?_
 rw [rounds_succ]
 go_wp2_with fail
 go_end0
 exact ⟨rfl,rfl⟩
theorem E3 (a : OA) (c : Nat) (w : World) : Calls Tryz.prog 134 #[.slice a 0 c,.int .i64 0,.int .i64 0,.int .i64 0] w λe w'=>e = .returned (.tuple #[])/\w'=w:=by
 go_enter Tryz.func134,Tryz.ntmps134
 go_wp2_with fail
 refine wp_loop_rounds 1 ?_
 rw [rounds_succ]
 go_wp2_with fail
 refine (xc a c w).mono ?_
 rintro e w' ⟨rfl,rfl⟩
 go_wp2_with fail
 (try simp only [Exit.inBlock,Exit.then]);refine bodyPost_ret (results_none rfl _ _ _) rfl ?_
 exact ⟨rfl,rfl⟩
theorem xm (w : World) : Calls Tryz.prog 135 #[.int .u64 0] w λe w'=>e = .returned (.int .i64 0)/\w'=w :=
 calls_of_every_depth λD=>AnyS.bits_LenIn { JN with } D 0 w (by omega) (by omega)
theorem DK (a : OA) (c : Nat) (w : World) : Calls Tryz.prog 70 #[.slice a 0 c] w λe w'=>e = .returned (.tuple #[])/\w'=w:=by
 go_enter Tryz.func70,Tryz.ntmps70
 go_wp2_with fail
 refine (xm w).mono ?_
 rintro e w' ⟨rfl,rfl⟩
 go_wp2_with fail
 refine (E3 a c w').mono ?_
 rintro e w' ⟨rfl,rfl⟩
 go_wp2_with fail
 go_end0
 exact ⟨rfl,rfl⟩
theorem tI (B : Nat) (a : OA) (n c : Nat) (l : Lz) (w : World) (hown : w.ownsRow B 3 1 (.slice a n c) n (l.map (Value.int .i64))) (hB : B<=w.heap.size) (hn : n<=1000000) :
  Calls Tryz.prog 70 #[.slice a n c] w λe w'=>e = .returned (.tuple #[])/\w'.ownsRow B 3 1 (.slice a n c) n ((bP l).map (Value.int .i64))/\w.grownBy w' (Value.slice a n c).ownBlock/\Below B w w':=by
 have hl : l.length=n:=by simpa using jr hown
 have hown':=hown
 rcases hown.2 with ⟨hv,hz⟩ | ⟨g,cap,cur,hv,hbase,hb,h1,h2,h3,h4⟩
 ·cases hv
  have hl0 : l=[]:=List.eq_nil_of_length_eq_zero hl
  subst hl0
  refine (DK none 0 w).mono ?_
  rintro e w' ⟨rfl,rfl⟩
  exact ⟨rfl,by simpa [bP] using hown',⟨rfl,rfl,rfl,Nat.le_refl _,λk _ _=>rfl⟩,Below.refl _ _⟩
 ·cases hv
  subst hl
  have hH:=holds_of_blockI (ss:=l) hb (by simpa using h4)
  have hgl : g<w.heap.size:=(Array.getElem?_eq_some_iff.1 hb).1
  refine (Any.slices_Sort_int JN g 0 c l w hH hgl (by omega)).mono ?_
  rintro e w' ⟨rfl,nn,os,rfl⟩
  have hgr:=grownBy_sortedI (w:=w) (g:=g) (n:=nn) (os:=os) (l.mergeSort λx y=>decide (x<=y)).toArray
  exact ⟨rfl,ownsRow_sortedI (by simp) hbase hb h1 h2 h3,hgr,(Below.refl B w).grown hgr hB (λj hj=>by cases hj;exact hbase)⟩
theorem Bm (Bs : Nat) (a : OA) (len cap : Nat) (zs : Lz) (hlen : len<=1000000) (w : World) (hBs : Bs<w.heap.size) (hc : w.cell? ⟨Bs,0,none⟩=some (.slice a len cap)) (hI : Ints w a len zs) :
  Calls Tryz.prog 270 #[.func (.func 277) #[] #[.pointer (some ⟨Bs,0,none⟩)]] w λe W' =>
   ∃a2 c2,e = .returned (.slice a2 len c2)/\W'.ownsRow w.heap.size 3 1 (.slice a2 len c2) len ((bP zs).map (Value.int .i64))/\Below w.heap.size w W':=by
 go_enter Tryz.func270,Tryz.ntmps270
 go_wp2_with fail
 refine (y8 Bs a len cap zs hlen w hBs hc hI).mono ?_
 rintro e w1 ⟨v,rfl,hown,hb⟩
 obtain ⟨a2,c2,rfl,_⟩:=Pl.own hown
 have HS:=Z5 (tI w.heap.size a2 len c2 zs w1 hown hb.size hlen)
 clear hown
 go_wp2_with fail
 refine HS.out.mono ?_
 rintro e w2 ⟨rfl,hown2,_,hb2⟩
 go_wp2_with fail
 go_ret
 exact ⟨a2,c2,rfl,hown2,hb.trans hb2⟩
end
end Go.Proofs.YtcfmiocdlcapoaaGreat
