/-  -/
import Derived.Test.YtcfmiocdlcapoaaGreatK14
import Derived.Test.YtcfmiocdlcapoaaGreatK15
import Derived.Test.YtcfmiocdlcapoaaGreatK10
import Derived.Test.YtcfmiocdlcapoaaGreatK7
import Derived.Sort.OwnSortedInts
import Derived.Test.YtcfmiocdlcapoaaGreatK2
import Derived.Test.YtcfmiocdlcapoaaGreatK4
namespace Go.Proofs.YtcfmiocdlcapoaaGreat
set_option linter.unusedVariables false
set_option linter.unusedSimpArgs false
set_option linter.unusedSectionVars false

section
theorem tab5_2_0 : chkC 5 2 25 cert5_2 0 25=true:=by decide +kernel
theorem tab5_2 : chkAll 5 2 25 cert5_2:=chkAll_add (chkAll_nil 5 2 25 cert5_2) tab5_2_0
theorem tab5_3_0 : chkC 5 3 125 cert5_3 0 32=true:=by decide +kernel
theorem tab5_3_32 : chkC 5 3 125 cert5_3 32 32=true:=by decide +kernel
theorem tab5_3_64 : chkC 5 3 125 cert5_3 64 32=true:=by decide +kernel
theorem tab5_3_96 : chkC 5 3 125 cert5_3 96 29=true:=by decide +kernel
theorem tab5_3 : chkAll 5 3 125 cert5_3:=chkAll_add (chkAll_add (chkAll_add (chkAll_add (chkAll_nil 5 3 125 cert5_3) tab5_3_0) tab5_3_32) tab5_3_64) tab5_3_96
theorem tab7_2_0 : chkC 7 2 49 cert7_2 0 49=true:=by decide +kernel
theorem tab7_2 : chkAll 7 2 49 cert7_2:=chkAll_add (chkAll_nil 7 2 49 cert7_2) tab7_2_0
theorem tab11_2_0 : chkC 11 2 121 cert11_2 0 32=true:=by decide +kernel
theorem tab11_2_32 : chkC 11 2 121 cert11_2 32 32=true:=by decide +kernel
theorem tab11_2_64 : chkC 11 2 121 cert11_2 64 32=true:=by decide +kernel
theorem tab11_2_96 : chkC 11 2 121 cert11_2 96 25=true:=by decide +kernel
theorem tab11_2 : chkAll 11 2 121 cert11_2:=chkAll_add (chkAll_add (chkAll_add (chkAll_add (chkAll_nil 11 2 121 cert11_2) tab11_2_0) tab11_2_32) tab11_2_64) tab11_2_96
theorem tab13_2_0 : chkC 13 2 169 cert13_2 0 32=true:=by decide +kernel
theorem tab13_2_32 : chkC 13 2 169 cert13_2 32 32=true:=by decide +kernel
theorem tab13_2_64 : chkC 13 2 169 cert13_2 64 32=true:=by decide +kernel
theorem tab13_2_96 : chkC 13 2 169 cert13_2 96 32=true:=by decide +kernel
theorem tab13_2_128 : chkC 13 2 169 cert13_2 128 32=true:=by decide +kernel
theorem tab13_2_160 : chkC 13 2 169 cert13_2 160 9=true:=by decide +kernel
theorem tab13_2 : chkAll 13 2 169 cert13_2:=chkAll_add (chkAll_add (chkAll_add (chkAll_add (chkAll_add (chkAll_add (chkAll_nil 13 2 169 cert13_2) tab13_2_0) tab13_2_32) tab13_2_64) tab13_2_96) tab13_2_128) tab13_2_160
def chkP (c : Nat × Nat) : Bool:=ordOk (mulS c.1 1 []) c.1 c.2 && decide (0<c.2) && decide (c.2<c.1)
theorem tabP : roots.all chkP=true:=by decide +kernel
theorem rootsAll : ((List.range 257).all λp=>p<2 || !primeB p || roots.any λc=>c.1 == p)=true:=by decide +kernel
end

section
section
variable {P : Int} {M : Nat} {mod : List Int} {q : Nat} {x : Int}
theorem pw_one (h : Res P M) (hx : ElP P M x) : pw P M mod x 1=x:=by show mulS P M mod (pw P M mod x 0) x=x;rw [pw,mulS_one h hx]
theorem pw_two (h : Res P M) (hx : ElP P M x) : pw P M mod x 2=mulS P M mod x x:=by show mulS P M mod (pw P M mod x 1) x=_;rw [pw_one h hx]
theorem pw_sq (h : Res P M) (hx : ElP P M x) : ∀k,pw P M mod (mulS P M mod x x) k=pw P M mod x (2 * k)
 | 0=>rfl
 | k+1=>by rw [pw,pw_sq h hx k,<- pw_two h hx,pw_add h];rfl
theorem fpw_eq (h : Res P M) : ∀(f n : Nat) (x : Int),ElP P M x->n<2 ^ f->fpw (mulS P M mod) f x n=pw P M mod x n
 | 0,n,x,hx,hn=>by
  have : n=0:=by simpa using hn
  subst this;rfl
 | f+1,n,x,hx,hn=>by
  have ih:=fpw_eq h f (n / 2) (mulS P M mod x x) (mulS_el h x x) (by rw [Nat.pow_succ] at hn;omega)
  unfold fpw
  split
  ·rename_i h0;subst h0;rfl
  ·rw [ih,pw_sq h hx]
   split
   ·rename_i h1
    have e : n=2 * (n / 2)+1:=by omega
    have e2 : pw P M mod x n=pw P M mod x (2 * (n / 2)+1):=congrArg _ e
    rw [e2];rfl
   ·rename_i h1
    have e : n=2 * (n / 2):=by omega
    exact (congrArg _ e).symm
structure Ord (P : Int) (M : Nat) (mod : List Int) (q : Nat) (x : Int) : Prop where
 one : pw P M mod x (q - 1)=1
 ne : ∀k,0<k->k<q - 1->pw P M mod x k ≠ 1
theorem pw_mul1 (h : Res P M) {a : Nat} (h1 : pw P M mod x a=1) : ∀n,pw P M mod x (a * n)=1
 | 0=>rfl
 | n+1=>by rw [Nat.mul_succ,<- pw_add h,pw_mul1 h h1 n,h1,mulS_one h (one_el h)]
theorem pw_mod1 (h : Res P M) {a b : Nat} (ha : pw P M mod x a=1) (hb : pw P M mod x b=1) : pw P M mod x (a % b)=1:=by
 have e : a=b * (a / b)+a % b:=(Nat.div_add_mod a b).symm
 rw [e,<- pw_add h,pw_mul1 h hb,mulS_one h (pw_el h x _)] at ha
 exact ha
theorem pw_gcd (h : Res P M) : ∀(b a : Nat),pw P M mod x a=1->pw P M mod x b=1->pw P M mod x (Nat.gcd b a)=1:=by
 intro b
 induction b using Nat.strongRecOn with
 | ind b ih =>
  intro a ha hb
  by_cases h0 : b=0
  ·subst h0;rw [Nat.gcd_zero_left];exact ha
  ·rw [Nat.gcd_rec]
   exact ih (a % b) (Nat.mod_lt _ (by omega)) b hb (pw_mod1 h ha hb)
theorem Ord.of (h : Res P M) (hx : ElP P M x) (hq : q<=256) (ho : ordOk (mulS P M mod) q x=true) : Ord P M mod q x:=by
 unfold ordOk at ho
 rw [Bool.and_eq_true] at ho
 obtain ⟨h1,h2⟩:=ho
 have h1':=eq_of_beq h1
 rw [fpw_eq h 8 _ x hx (by omega)] at h1'
 refine ⟨h1',λk hk0 hk1 hk=>?_⟩
 have hg:=pw_gcd h k (q - 1) h1' hk
 have hgd : Nat.gcd k (q - 1) ∣ q - 1:=Nat.gcd_dvd_right _ _
 have hgl : Nat.gcd k (q - 1)<=k:=Nat.gcd_le_left _ hk0
 have hg0 : 0<Nat.gcd k (q - 1):=Nat.gcd_pos_of_pos_left _ hk0
 have h3:=List.all_eq_true.1 h2 (Nat.gcd k (q - 1)) (List.mem_range.2 (by omega))
 have h4 : (q - 1) % Nat.gcd k (q - 1)=0:=Nat.mod_eq_zero_of_dvd hgd
 simp only [Bool.or_eq_true,beq_iff_eq,bne_iff_ne,ne_eq] at h3
 rcases h3 with (h3 | h3) | h3
 ·omega
 ·exact h3 h4
 ·rw [fpw_eq h 8 _ x hx (by omega)] at h3
  exact h3 hg
theorem Ord.nz (h : Res P M) (o : Ord P M mod q x) {k : Nat} (hk : k<q - 1) : pw P M mod x k ≠ 0:=by
 intro h0
 have h1:=pw_add (mod:=mod) h x k (q - 1 - k)
 rw [h0,mulS_comm h,mulS_zero h,show k+(q - 1 - k)=q - 1 by omega,o.one] at h1
 omega
theorem Ord.inj (h : Res P M) (o : Ord P M mod q x) {i j : Nat} (hij : i<j) (hj : j<q - 1) : pw P M mod x i ≠ pw P M mod x j:=by
 intro e
 have h1:=pw_add (mod:=mod) h x i (q - 1 - i)
 have h2:=pw_add (mod:=mod) h x j (q - 1 - i)
 rw [show i+(q - 1 - i)=q - 1 by omega,o.one,e,h2] at h1
 have h3 : pw P M mod x (j - i)=1:=by
  have h4:=pw_add (mod:=mod) h x (j - i) (q - 1)
  rw [o.one,mulS_comm h,mulS_one h (pw_el h x _),show j - i+(q - 1)=j+(q - 1 - i) by omega,h1] at h4
  exact h4
 exact o.ne (j - i) (by omega) (by omega) h3
theorem powTo_full (h : Res P M) (hx : ElP P M x) (o : Ord P M mod q x) : ∀(n k : Nat),k<=q - 1->q - 1 - k<n->0<k ->
  powTo (λz=>mulS P M mod z x) n ((List.range k).map λi=>pw P M mod x i) (pw P M mod x k)=(List.range (q - 1)).map λi=>pw P M mod x i
 | 0,k,_,hn,_=>by omega
 | n+1,k,hk,hn,h0=>by
  by_cases hke : k=q - 1
  ·subst hke
   refine powTo_stop _ _ _ _ (.inr ?_)
   rw [o.one,List.mem_map]
   exact ⟨0,List.mem_range.2 h0,rfl⟩
  ·rw [powTo_go]
   ·have e : (List.range k).map (λi=>pw P M mod x i) ++ [pw P M mod x k]=(List.range (k+1)).map λi=>pw P M mod x i:=by rw [List.range_succ,List.map_append];rfl
    rw [e]
    exact powTo_full h hx o n (k+1) (by omega) (by omega) (by omega)
   ·rintro (h1 | h1)
    ·exact o.nz h (by omega) h1
    ·obtain ⟨i,hi,e⟩:=List.mem_map.1 h1
     exact o.inj h (List.mem_range.1 hi) (by omega) e
theorem Ord.isGen (h : Res P M) (hx : ElP P M x) (hq : 2<=q) (o : Ord P M mod q x) : isGen P M mod q x=true:=by
 have hl : powS P M mod q x=(List.range (q - 1)).map λi=>pw P M mod x i:=by
  by_cases h2 : q=2
  ·subst h2
   have : x=1:=by have:=o.one;rwa [show 2 - 1=1 from rfl,pw_one h hx] at this
   subst this
   rw [powS,powTo_stop _ _ _ _ (.inr (by simp))]
   rfl
  ·have:=powTo_full h hx o q 1 (by omega) (by omega) (by omega)
   rw [pw_one h hx] at this
   exact this
 unfold Proofs.YtcfmiocdlcapoaaGreat.isGen
 rw [hl,Bool.and_eq_true]
 refine ⟨by simp,?_⟩
 have e : nth ((List.range (q - 1)).map λi=>pw P M mod x i) (q - 2)=pw P M mod x (q - 2):=by
  rw [nth_getElem (by simp;omega)];simp
 rw [e]
 have : mulS P M mod (pw P M mod x (q - 2)) x=pw P M mod x (q - 1):=by rw [show q - 1=(q - 2)+1 by omega];rfl
 rw [this,o.one];rfl
theorem genTo_some : ∀(n x y : Nat),2<=q->x<=y->y<x+n->isGen P M mod q y=true->genTo P M mod q n x ≠ []
 | 0,x,y,_,h1,h2,_=>by omega
 | n+1,x,y,hq,h1,h2,hg=>by
  rw [genTo]
  by_cases hx : isGen P M mod q x=true
  ·rw [if_pos hx]
   intro e
   simp only [isGen,Bool.and_eq_true,beq_iff_eq] at hx
   rw [e] at hx
   simp at hx
   omega
  ·rw [if_neg hx]
   refine genTo_some n (x+1) y hq ?_ (by omega) hg
   rcases Nat.eq_or_lt_of_le h1 with h3 | h3
   ·subst h3;exact absurd hg hx
   ·exact h3
theorem no_zero_div {ex : List Int} {y a b : Int} (g : Gen P M mod q y ex) (ha : ElP P M a) (hb : ElP P M b) (ha0 : a ≠ 0) (hb0 : b ≠ 0) : mulS P M mod a b ≠ 0:=by
 obtain ⟨i,_,rfl,_⟩:=g.log ha ha0
 obtain ⟨j,_,rfl,_⟩:=g.log hb hb0
 rw [pw_add g.res]
 exact g.pw_ne _
end
theorem chkAll_at {P : Int} {M q : Nat} {l : List (Nat × Nat)} (h : chkAll P M q l) {v : Nat} (hv : v<q) : ∃c,chkV P M q v c=true:=⟨_,h v hv⟩
theorem tabOf (p m : Nat) (hp : primeB p=true) (h2 : 2<=p) (hm : 2<=m) (hm8 : m<=8) (hpw : (p : Int) ^ m<=256) : ∃l,chkAll p m (((p : Int) ^ m).toNat) l:=by
 have hp16 : p<=16:=by
  have h1:=pow_mono (P:=(p : Int)) (by omega) hm
  have h3 : (p : Int) ^ 2=p * p:=by rw [Int.pow_succ,Int.pow_succ,Int.pow_zero,Int.one_mul]
  rcases Nat.lt_or_ge 16 p with h4 | h4
  ·have h5 : 17 * 17<=p * p:=Nat.mul_le_mul h4 h4
   have h6 : ((17 * 17 : Nat) : Int)<=((p * p : Nat) : Int):=Int.ofNat_le.2 h5
   rw [Int.natCast_mul] at h6
   omega
  ·exact h4
 have hc : p=2\/p=3\/p=4\/p=5\/p=6\/p=7\/p=8\/p=9\/p=10\/p=11\/p=12\/p=13\/p=14\/p=15\/p=16:=by omega
 have hd : m=2\/m=3\/m=4\/m=5\/m=6\/m=7\/m=8:=by omega
 rcases hc with rfl | rfl | rfl | rfl | rfl | rfl | rfl | rfl | rfl | rfl | rfl | rfl | rfl | rfl | rfl
 ·rcases hd with rfl | rfl | rfl | rfl | rfl | rfl | rfl
  ·exact ⟨_,tab2_2⟩
  ·exact ⟨_,tab2_3⟩
  ·exact ⟨_,tab2_4⟩
  ·exact ⟨_,tab2_5⟩
  ·exact ⟨_,tab2_6⟩
  ·exact ⟨_,tab2_7⟩
  ·exact ⟨_,tab2_8⟩
 ·rcases hd with rfl | rfl | rfl | rfl | rfl | rfl | rfl
  ·exact ⟨_,tab3_2⟩
  ·exact ⟨_,tab3_3⟩
  ·exact ⟨_,tab3_4⟩
  ·exact ⟨_,tab3_5⟩
  ·exact absurd hpw (by decide)
  ·exact absurd hpw (by decide)
  ·exact absurd hpw (by decide)
 ·exact absurd hp (by decide)
 ·rcases hd with rfl | rfl | rfl | rfl | rfl | rfl | rfl
  ·exact ⟨_,tab5_2⟩
  ·exact ⟨_,tab5_3⟩
  ·exact absurd hpw (by decide)
  ·exact absurd hpw (by decide)
  ·exact absurd hpw (by decide)
  ·exact absurd hpw (by decide)
  ·exact absurd hpw (by decide)
 ·exact absurd hp (by decide)
 ·rcases hd with rfl | rfl | rfl | rfl | rfl | rfl | rfl
  ·exact ⟨_,tab7_2⟩
  ·exact absurd hpw (by decide)
  ·exact absurd hpw (by decide)
  ·exact absurd hpw (by decide)
  ·exact absurd hpw (by decide)
  ·exact absurd hpw (by decide)
  ·exact absurd hpw (by decide)
 ·exact absurd hp (by decide)
 ·exact absurd hp (by decide)
 ·exact absurd hp (by decide)
 ·rcases hd with rfl | rfl | rfl | rfl | rfl | rfl | rfl
  ·exact ⟨_,tab11_2⟩
  ·exact absurd hpw (by decide)
  ·exact absurd hpw (by decide)
  ·exact absurd hpw (by decide)
  ·exact absurd hpw (by decide)
  ·exact absurd hpw (by decide)
  ·exact absurd hpw (by decide)
 ·exact absurd hp (by decide)
 ·rcases hd with rfl | rfl | rfl | rfl | rfl | rfl | rfl
  ·exact ⟨_,tab13_2⟩
  ·exact absurd hpw (by decide)
  ·exact absurd hpw (by decide)
  ·exact absurd hpw (by decide)
  ·exact absurd hpw (by decide)
  ·exact absurd hpw (by decide)
  ·exact absurd hpw (by decide)
 ·exact absurd hp (by decide)
 ·exact absurd hp (by decide)
 ·exact absurd hp (by decide)
theorem valu_el {P : Int} {m : Nat} (hf : RF P m) {mod : List Int} (hd : Dig P mod) (hl : mod.length=m) : 0<=valu P mod/\valu P mod<P ^ m:=by
 have:=valu_bd (P:=P) (by have:=hf.p2;omega) mod hd
 rwa [hl] at this
theorem fieldRB_eq (P M : Int) (mod : List Int) : fieldRB P M mod=fieldB P M mod:=by
 by_cases hs : shapeB P M mod=true
 ·unfold fieldRB fieldB
  rw [hs,Bool.true_and,Bool.true_and]
  have hs2:=hs
  unfold shapeB at hs2
  simp only [Bool.and_eq_true,bne_iff_ne,ne_eq] at hs2
  obtain ⟨⟨h1,h2⟩,h3⟩:=hs2
  obtain ⟨m,rfl,hrf⟩:=RF.of h1
  obtain ⟨p,rfl⟩ : ∃p : Nat,P=p:=⟨P.toNat,by have:=hrf.p2;omega⟩
  rw [Int.toNat_natCast] at h2 ⊢
  have hp2 : 2<=p:=by have:=hrf.p2;omega
  have hp256 : p<=256:=by have:=hrf.p256;omega
  have hord:=hrf.order
  have hres:=hrf.res
  obtain ⟨q,hq⟩ : ∃q : Nat,(p : Int) ^ m=q:=⟨((p : Int) ^ m).toNat,by have:=one_lt_pow hres;omega⟩
  have hq2 : 2<=q:=by have:=one_lt_pow hres;omega
  have hq256 : q<=256:=by have:=hrf.pw;omega
  rw [hord,hq,Int.toNat_natCast]
  have hgen : ∀x : Nat,0<x->x<q->ordOk (mulS p m mod) q x=true->(genS p m mod q).isEmpty=false:=λx hx0 hx1 ho=>by
   have hel : ElP (p : Int) m x:=⟨by omega,by rw [hq];omega⟩
   have hg:=(Ord.of hres hel hq256 ho).isGen hres hel hq2
   have:=genTo_some (P:=p) (M:=m) (mod:=mod) (q - 1) 1 x hq2 (by omega) (by omega) hg
   unfold genS
   cases h : genTo p m mod q (q - 1) 1 with
   | nil=>exact absurd h this
   | cons y l=>rfl
  by_cases hm : m=1
  ·subst hm
   have hmod : mod=[]:=by
    rw [if_pos (by simp)] at h3
    exact List.eq_nil_of_length_eq_zero (by simpa using h3)
   subst hmod
   have hr:=List.all_eq_true.1 rootsAll p (List.mem_range.2 (by omega))
   have hp2' : decide (p<2)=false:=by simp;omega
   rw [hp2',h2] at hr
   simp only [Bool.not_true,Bool.false_or,List.any_eq_true] at hr
   obtain ⟨c,hc,hcp⟩:=hr
   have hck:=List.all_eq_true.1 tabP c hc
   have hcp2 : c.1=p:=by simpa using hcp
   unfold chkP at hck
   rw [hcp2] at hck
   simp only [Bool.and_eq_true,decide_eq_true_eq] at hck
   have hqp : q = p := by have : (p : Int) ^ 1 = p := by rw [Int.pow_succ, Int.pow_zero, Int.one_mul]
                          omega
   rw [hgen c.2 hck.1.2 (by omega) (by rw [hqp];exact hck.1.1)]
   rfl
  ·have hM : ¬ (m : Int)=1:=by omega
   rw [if_neg hM] at h3
   simp only [Bool.and_eq_true,decide_eq_true_eq] at h3
   have hlen : mod.length=m:=by omega
   have hdig : Dig (p : Int) mod:=Dig.of_mem (by omega) λx hx=>by
    have:=List.all_eq_true.1 h3.2 x hx
    simpa using this
   have hv:=valu_el hrf hdig hlen
   obtain ⟨v,hvv⟩ : ∃v : Nat,valu p mod=v:=⟨(valu p mod).toNat,by omega⟩
   have hdv : digs v p m=mod:=by rw [<- hvv,<- hlen];exact digs_valu mod hdig
   obtain ⟨l,hl⟩:=tabOf p m h2 hp2 (by have:=hrf.m1;omega) hrf.m8 hrf.pw
   rw [hq,Int.toNat_natCast] at hl
   obtain ⟨c,hc⟩:=chkAll_at hl (v:=v) (by omega)
   have hM' : ((m : Int) == 1)=false:=by simpa using hM
   rw [hM',Bool.false_or]
   unfold chkV at hc
   rw [hdv] at hc
   split at hc
   ·simp only [Bool.and_eq_true,decide_eq_true_eq] at hc
    rw [hc.1.1.1,hgen c.1 hc.1.2 hc.2 hc.1.1.2];rfl
   ·rename_i hc2
    simp only [Bool.and_eq_true,decide_eq_true_eq,Bool.not_eq_true',beq_iff_eq] at hc
    rw [hc.1.1.1.1]
    cases h : (genS p m mod q).isEmpty with
    | true=>rfl
    | false =>
     exfalso
     have hne : genS p m mod q ≠ []:=λe=>by rw [e] at h;cases h
     obtain ⟨y,hy1,hy2,hy3,hy4⟩:=genS_spec hne
     have g:=Gen.of_isGen (mod:=mod) hres hq.symm ⟨by omega,by omega⟩ hy3
     exact no_zero_div g (a:=(c.1 : Int)) (b:=(c.2 : Int)) ⟨by omega,by omega⟩ ⟨by omega,by omega⟩ (by omega) (by omega) hc.1.1.1.2
 ·have hs' : shapeB P M mod=false:=by simpa using hs
  simp [fieldRB,fieldB,hs']
end

section
set_option maxRecDepth 100000
set_option maxHeartbeats 2000000

open Go.RowKit Go.Shelf Go.Sort
theorem insSort0_any (a : Option Addr) (c : Nat) (w : World) : Calls Tryz.prog 195 #[.slice a 0 c,.int .i64 0,.int .i64 0] w λe w'=>e = .returned (.tuple #[])/\w'=w:=by
 go_enter Tryz.func195,Tryz.ntmps195
 go_wp2_with fail
 refine wp_loop_rounds 1 ?_
 rw [rounds_succ]
 go_wp2_with fail
 go_end0
 exact ⟨rfl,rfl⟩
theorem pdq0_any (a : Option Addr) (c : Nat) (w : World) : Calls Tryz.prog 134 #[.slice a 0 c,.int .i64 0,.int .i64 0,.int .i64 0] w λe w'=>e = .returned (.tuple #[])/\w'=w:=by
 go_enter Tryz.func134,Tryz.ntmps134
 go_wp2_with fail
 refine wp_loop_rounds 1 ?_
 rw [rounds_succ]
 go_wp2_with fail
 refine (insSort0_any a c w).mono ?_
 rintro e w' ⟨rfl,rfl⟩
 go_wp2_with fail
 (try simp only [Exit.inBlock,Exit.then]);refine bodyPost_ret (results_none rfl _ _ _) rfl ?_
 exact ⟨rfl,rfl⟩
theorem bitsLen0_any (w : World) : Calls Tryz.prog 135 #[.int .u64 0] w λe w'=>e = .returned (.int .i64 0)/\w'=w :=
 calls_of_every_depth λD=>AnyS.bits_LenIn { layS with } D 0 w (by omega) (by omega)
theorem sort0_any (a : Option Addr) (c : Nat) (w : World) : Calls Tryz.prog 70 #[.slice a 0 c] w λe w'=>e = .returned (.tuple #[])/\w'=w:=by
 go_enter Tryz.func70,Tryz.ntmps70
 go_wp2_with fail
 refine (bitsLen0_any w).mono ?_
 rintro e w' ⟨rfl,rfl⟩
 go_wp2_with fail
 refine (pdq0_any a c w').mono ?_
 rintro e w' ⟨rfl,rfl⟩
 go_wp2_with fail
 go_end0
 exact ⟨rfl,rfl⟩
theorem sort_any (B : Nat) (a : Option Addr) (n c : Nat) (l : List Int) (w : World) (hown : w.ownsRow B 3 1 (.slice a n c) n (l.map (Value.int .i64))) (hB : B<=w.heap.size) (hn : n<=1000000) :
  Calls Tryz.prog 70 #[.slice a n c] w λe w'=>e = .returned (.tuple #[])/\w'.ownsRow B 3 1 (.slice a n c) n ((sortL l).map (Value.int .i64))/\w.grownBy w' (Value.slice a n c).ownBlock/\Below B w w':=by
 have hl : l.length=n:=by simpa using own_len hown
 have hown':=hown
 rcases hown.2 with ⟨hv,hz⟩ | ⟨g,cap,cur,hv,hbase,hb,h1,h2,h3,h4⟩
 ·cases hv
  have hl0 : l=[]:=List.eq_nil_of_length_eq_zero hl
  subst hl0
  refine (sort0_any none 0 w).mono ?_
  rintro e w' ⟨rfl,rfl⟩
  exact ⟨rfl,by simpa [sortL] using hown',⟨rfl,rfl,rfl,Nat.le_refl _,λk _ _=>rfl⟩,Below.refl _ _⟩
 ·cases hv
  subst hl
  have hH:=holds_of_blockI (ss:=l) hb (by simpa using h4)
  have hgl : g<w.heap.size:=(Array.getElem?_eq_some_iff.1 hb).1
  refine (Any.slices_Sort_int layS g 0 c l w hH hgl (by omega)).mono ?_
  rintro e w' ⟨rfl,nn,os,rfl⟩
  have hgr:=grownBy_sortedI (w:=w) (g:=g) (n:=nn) (os:=os) (l.mergeSort λx y=>decide (x<=y)).toArray
  exact ⟨rfl,ownsRow_sortedI (by simp) hbase hb h1 h2 h3,hgr,(Below.refl B w).grown hgr hB (λj hj=>by cases hj;exact hbase)⟩
theorem sorted_any (Bs : Nat) (a : Option Addr) (len cap : Nat) (zs : List Int) (hlen : len<=1000000) (w : World) (hBs : Bs<w.heap.size) (hc : w.cell? ⟨Bs,0,none⟩=some (.slice a len cap)) (hI : Ints w a len zs) :
  Calls Tryz.prog 270 #[.func (.func 277) #[] #[.pointer (some ⟨Bs,0,none⟩)]] w λe W' =>
   ∃a2 c2,e = .returned (.slice a2 len c2)/\W'.ownsRow w.heap.size 3 1 (.slice a2 len c2) len ((sortL zs).map (Value.int .i64))/\Below w.heap.size w W':=by
 go_enter Tryz.func270,Tryz.ntmps270
 go_wp2_with fail
 refine (collect_any Bs a len cap zs hlen w hBs hc hI).mono ?_
 rintro e w1 ⟨v,rfl,hown,hb⟩
 obtain ⟨a2,c2,rfl,_⟩:=Pl.own hown
 have HS:=Lib.hid (sort_any w.heap.size a2 len c2 zs w1 hown hb.size hlen)
 clear hown
 go_wp2_with fail
 refine HS.out.mono ?_
 rintro e w2 ⟨rfl,hown2,_,hb2⟩
 go_wp2_with fail
 go_ret
 exact ⟨a2,c2,rfl,hown2,hb.trans hb2⟩
end

end Go.Proofs.YtcfmiocdlcapoaaGreat
