import Derived.Test.YtcfmiocdlcapoaaGreatK32
import Derived.Test.YtcfmiocdlcapoaaGreatMRO8
import Derived.Test.YtcfmiocdlcapoaaGreatMRO6
import Derived.Test.YtcfmiocdlcapoaaGreatMRO5
import Derived.Test.YtcfmiocdlcapoaaGreatMRO2
import Derived.Test.YtcfmiocdlcapoaaGreatMRO3
import Derived.Test.YtcfmiocdlcapoaaGreatMRO10
import Derived.Test.YtcfmiocdlcapoaaGreatK9
import Derived.Test.YtcfmiocdlcapoaaGreatK7
import Derived.Test.YtcfmiocdlcapoaaGreatK31
import Derived.BigQuiet
namespace Go.Proofs.YtcfmiocdlcapoaaGreat
set_option linter.unusedVariables false
set_option linter.unusedSimpArgs false
set_option linter.unusedSectionVars false
set_option maxRecDepth 100000
set_option maxHeartbeats 8000000
open Go.RowKit
theorem Gl (a b : Nat) (w : World) (ha : a<=10000000) (hb : b<=10000000) :
  Calls Tryz.prog 173 #[.int .i64 a,.int .i64 b] w λe w'=>e = .returned (.int .i64 ((Nat.gcd a b : Nat) : Int))/\Below w.heap.size w w':=by
 obtain ⟨G,hG⟩ : ∃G,Nat.gcd a b=G:=⟨_,rfl⟩
 rw [hG]
 have HG:=Z5 hG
 clear hG
 go_enter Tryz.func173,Tryz.ntmps173
 go_wp2_with fail
 go_loopw [0,1] (λav bv wr=>∃x y : Nat,av = .int .i64 x/\bv = .int .i64 y/\x<=10000000/\y<=10000000/\Hid (Nat.gcd x y=G)/\Below w.heap.size w wr) (λ_ bv _=>(intOf bv).toNat)
 case atStart=>exact ⟨a,b,rfl,rfl,ha,hb,HG.out,Below.refl _ _⟩
 case round =>
  obtain ⟨x,y,rfl,rfl,hx,hy,hg,hbr⟩:=hrel
  generalize wr=V at *
  by_cases h0 : y=0
  ·subst h0
   have Hx : Hid (((x : Nat) : Int)=(G : Nat)):=by show _=_;rw [<- hg.out,Nat.gcd_zero_right]
   clear hg
   go_wp2_with fail
   go_ret
   exact ⟨aF Hx.out,hbr⟩
  ·have hy1 : ((y : Int) != 0)=true:=by simp;omega
   have hy0 : (y : Int) ≠ 0:=by omega
   have hyb : ((y : Int) == 0)=false:=by simp;omega
   have hr : (x : Int).tmod y=((x % y : Nat) : Int):=by rw [Int.tmod_eq_emod_of_nonneg (by omega)];simp
   have hm : x % y<y:=Nat.mod_lt x (by omega)
   have Hn : Hid (Nat.gcd y (x % y)=G):=by show _=_;rw [<- hg.out,Nat.gcd_comm x y,Nat.gcd_rec y x,Nat.gcd_comm (x % y) y]
   obtain ⟨r,hre⟩ : ∃r,x % y=r:=⟨_,rfl⟩
   rw [hre] at hr hm Hn
   have kr : wrap64 (r : Int)=r:=yp (by omega) (by omega)
   clear hg hre
   go_wp2_with fail
   go_quiet (fail)
   go_wp2_with fail
   go_roundw
   case rel=>exact ⟨y,r,rfl,rfl,hy,by omega,Hn.out,Below.next hbr (bd.below ⟨_,rfl⟩)⟩
   case measure=>simp [intOf] <;> omega
theorem wL (n k : Nat) (w : World) (hn : n<=64) (hk : k<=n) :
  Calls Tryz.prog 107 #[.int .i64 n,.int .i64 k,.int .i64 65536] w λe w'=>e = .returned (.tuple #[.int .i64 (sf n k),.int .i64 (rT n k)])/\Below w.heap.size w w':=by
 obtain ⟨t,ht⟩ : ∃t : Nat,min k (n - k)=t:=⟨_,rfl⟩
 have htk : chN n k=chN n t:=by
  rcases Nat.le_total k (n - k) with h | h
  ·rw [<- ht,Nat.min_eq_left h]
  ·rw [<- ht,Nat.min_eq_right h];exact o0 n k hk
 have hmin : min (k : Int) ((n : Int) - k)=t:=by omega
 have htn : t<=n:=by omega
 have hkn : decide (n<k)=false:=by simp;omega
 have hkn2 : decide ((n : Int)<(k : Int))=false:=by simp;omega
 have HcE : Hid (¬ chN n t<=65536->sf n k=0/\rT n k=8):=λh=>by
  unfold sf rT
  rw [htk,if_neg h,if_neg h];exact ⟨rfl,rfl⟩
 have HcO : Hid (chN n t<=65536->sf n k=chN n t/\rT n k=0):=λh=>by
  unfold sf rT
  rw [htk,if_pos h,if_pos h];exact ⟨rfl,rfl⟩
 clear htk ht
 go_enter Tryz.func107,Tryz.ntmps107
 go_upto_region 5 with fail
 go_cut [1] (λv wx=>v = .int .i64 t/\wx=w)
 case first =>
  by_cases hm : (n : Int) - k<k
  ·have hmd : decide ((n : Int) - k<k)=true:=decide_eq_true hm
   have he : (n : Int) - k=t:=by omega
   go_wp2_with fail
   go_meet
   exact ⟨by first | exact congrArg (Value.int .i64) (by omega) | rfl | (simp [he]),rfl⟩
  ·have hmd : decide ((n : Int) - k<k)=false:=decide_eq_false hm
   have he : (k : Int)=t:=by omega
   go_wp2_with fail
   go_meet
   exact ⟨by first | exact congrArg (Value.int .i64) (by omega) | rfl | (simp [he]),rfl⟩
 obtain ⟨rfl,hw9⟩:=hcut
 obtain rfl:=hw9.symm
 clear hw9
 go_wp2_with fail
 go_loopw [8,9] (λov iv wr=>∃i : Nat,i<=t/\iv = .int .i64 ((i : Int)+1)/\ov = .int .i64 (chN (n - t+i) i : Nat)/\chN (n - t+i) i<=65536/\Below w.heap.size w wr) (λ_ iv _=>t+1 - (intOf iv).toNat)
 case atStart=>exact ⟨0,Nat.zero_le _,rfl,by rw [ie];rfl,by rw [ie];omega,Below.refl _ _⟩
 case round =>
  obtain ⟨i,hi,rfl,rfl,hc,hb⟩:=hrel
  generalize wr=V at *
  by_cases hlt : i<t
  ·have habs : chN (n - t+i) i * (n - t+(i+1))=(i+1) * chN (n - t+(i+1)) (i+1):=by
    have h:=oX (n - t+i) i
    rw [<- Nat.add_assoc,h,Nat.mul_comm]
   have Hle : Hid (chN (n - t+(i+1)) (i+1)<=chN n t):=qE htn (t - (i+1)) (i+1) (by omega)
   obtain ⟨x,hx⟩ : ∃x,chN (n - t+i) i=x:=⟨_,rfl⟩
   rw [hx] at hc habs ⊢
   obtain ⟨y,hy⟩ : ∃y,n - t+(i+1)=y:=⟨_,rfl⟩
   have hye : ((n : Int) - (t : Int)+((i : Int)+1))=y:=by omega
   have hy64 : y<=65:=by omega
   rw [hy] at habs Hle
   have Hy:=Z5 hy
   obtain ⟨u,hu⟩ : ∃u,chN y (i+1)=u:=⟨_,rfl⟩
   have hu1 : 1<=u:=by rw [<- hu];exact kp _ _ (by omega)
   rw [hu] at Hle habs
   have hx1 : 1<=x:=by rw [<- hx];exact kp _ _ (by omega)
   obtain ⟨j,hj⟩ : ∃j,i+1=j:=⟨_,rfl⟩
   have hji : (i : Int)+1=j:=by omega
   rw [hj] at habs
   have hj1 : 1<=j:=by omega
   have hj64 : j<=64:=by omega
   obtain ⟨hb1,hau⟩:=GV hj1 habs hx1
   have Hg:=Z5 (Gl x j V (by omega) (by omega))
   have hgp : 0<Nat.gcd x j:=Nat.gcd_pos_of_pos_right _ (by omega)
   have hgj : Nat.gcd x j<=j:=Nat.gcd_le_right _ (by omega)
   obtain ⟨g,hg⟩ : ∃g,Nat.gcd x j=g:=⟨_,rfl⟩
   rw [hg] at Hg hb1 hau hgp hgj
   have ha1:=Nat.div_le_self x g
   have ha2:=Nat.div_le_self j g
   have q1 : (j : Int).tdiv (g : Int)=((j / g : Nat) : Int):=by rw [Int.tdiv_eq_ediv_of_nonneg (by omega)];simp
   have q2 : (x : Int).tdiv (g : Int)=((x / g : Nat) : Int):=by rw [Int.tdiv_eq_ediv_of_nonneg (by omega)];simp
   obtain ⟨a,ha⟩ : ∃a,x / g=a:=⟨_,rfl⟩
   obtain ⟨b,hbb⟩ : ∃b,j / g=b:=⟨_,rfl⟩
   rw [ha] at hau q2 ha1
   rw [hbb] at hb1 hau q1 ha2
   have hv1:=Nat.div_le_self y b
   have q3 : (y : Int).tdiv (b : Int)=((y / b : Nat) : Int):=by rw [Int.tdiv_eq_ediv_of_nonneg (by omega)];simp
   obtain ⟨v,hv⟩ : ∃v,y / b=v:=⟨_,rfl⟩
   rw [hv] at hau q3 hv1
   have hvp : 1<=v:=by
    rcases Nat.eq_zero_or_pos v with h | h
    ·rw [h,Nat.mul_zero] at hau;omega
    ·exact h
   have hdv:=div_lt_iff (most:=65536) (x:=(v : Int)) (o:=(a : Int)) (by omega) (by omega) (by omega)
   have q4 : (65536 : Int).tdiv (v : Int)=65536 / (v : Int):=Int.tdiv_eq_ediv_of_nonneg (by omega)
   have hprod : (a : Int) * (v : Int)=(u : Int):=by rw [<- hau];simp
   obtain ⟨Q,hQ⟩ : ∃Q,(65536 : Int) / (v : Int)=Q:=⟨_,rfl⟩
   have hQ2 : 0<=Q/\Q<=65536:=by
    rw [<- hQ]
    have h1:=Int.ediv_le_self (a:=(65536 : Int)) (v : Int) (by omega)
    have h2:=Int.ediv_nonneg (show (0 : Int)<=65536 by omega) (show (0 : Int)<=(v : Int) by omega)
    omega
   rw [hQ] at q4
   rw [q4,hprod] at hdv
   have g0 : (g : Int) ≠ 0:=by omega
   have g0b : ((g : Int) == 0)=false:=by simp;omega
   have b0 : (b : Int) ≠ 0:=by omega
   have b0b : ((b : Int) == 0)=false:=by simp;omega
   have v0 : (v : Int) ≠ 0:=by omega
   have v0b : ((v : Int) == 0)=false:=by simp;omega
   have k1 : wrap64 (b : Int)=b:=yp (by omega) (by omega)
   have k2 : wrap64 (v : Int)=v:=yp (by omega) (by omega)
   have k3 : wrap64 (a : Int)=a:=yp (by omega) (by omega)
   have k4 : wrap64 Q=Q:=yp hQ2.1 (by omega)
   have k5 : wrap64 (y : Int)=y:=yp (by omega) (by omega)
   have Hu:=Z5 hu
   have Hj:=Z5 hj
   have Hji:=Z5 hji
   rw [hji] at hye ⊢
   have d1 : decide (j<=t)=true:=by simp;omega
   have d1' : decide ((j : Int)<=(t : Int))=true:=by simp;omega
   have d2 : decide (x<=65536)=true:=by simp;omega
   have d2' : decide ((x : Int)<=65536)=true:=by simp;omega
   have kj : wrap64 ((j : Int)+1)=(j : Int)+1:=yp (by omega) (by omega)
   by_cases hbig : Q<(a : Int)
   ·have d3 : decide (Q<(a : Int))=true:=decide_eq_true hbig
    have h8:=hdv.1 hbig
    have HB:=Z5 (HcE.out λh=>by have:=Hle.out;omega)
    clear hx hy hu hj hg ha hbb hv habs hau hdv hQ hprod hbig h8 hb1 hgp hvp hu1 hx1 hj1 ha1 ha2 hv1 hji kj
    generalize (y : Int)=yI at *
    generalize (b : Int)=bI at *
    generalize (v : Int)=vI at *
    generalize (a : Int)=aI at *
    generalize (g : Int)=gI at *
    go_wp2_with fail
    refine Hg.out.mono ?_
    rintro e w5 ⟨rfl,hb5⟩
    have hb6:=Below.next hb hb5
    go_wp2_with fail
    go_ret2
    exact ⟨cO HB.out.1.symm HB.out.2.symm,hb6⟩
   ·have d3 : decide (Q<(a : Int))=false:=decide_eq_false hbig
    have h8 : (u : Int)<=65536:=Int.not_lt.1 λh=>hbig (hdv.2 h)
    have hu65 : u<=65536:=by omega
    have k6 : wrap64 (u : Int)=u:=yp (by omega) (by omega)
    have Kj:=Z5 kj
    obtain ⟨uI,huI⟩ : ∃z : Int,(u : Int)=z:=⟨_,rfl⟩
    have HuI:=Z5 huI
    rw [huI] at hprod k6
    clear hx hy hu hj hg ha hbb hv habs hau hdv hQ hbig h8 hb1 hgp hvp hu1 hx1 hj1 ha1 ha2 hv1 hji kj huI
    generalize (y : Int)=yI at *
    generalize (b : Int)=bI at *
    generalize (v : Int)=vI at *
    generalize (a : Int)=aI at *
    generalize (g : Int)=gI at *
    go_wp2_with fail
    refine Hg.out.mono ?_
    rintro e w5 ⟨rfl,hb5⟩
    have hb6:=Below.next hb hb5
    go_wp2_with fail
    go_roundw
    case rel=>exact ⟨i+1,by omega,by (try rw [Kj.out]);have:=Hji.out;congr 1;omega,by rw [Hy.out,Hu.out];have hq9:=HuI.out;rw [hq9];(try rw [k6]);(try rfl),by rw [Hy.out,Hu.out];exact hu65,hb6⟩
    case measure=>have:=Hj.out;(try rw [Kj.out]);simp [intOf] <;> omega
  ·obtain rfl : i=t:=by omega
   have d1 : decide ((i : Int)+1<=(i : Int))=false:=by simp;omega
   rw [show n - i+i=n by omega] at hc ⊢
   have Hb:=Z5 (HcO.out hc)
   have d2 : decide (65536<chN n i)=false:=by simp;omega
   have d2' : decide ((65536 : Int)<((chN n i : Nat) : Int))=false:=by simp;omega
   generalize chN n i=z at *
   go_wp2_with fail
   go_ret2
   exact ⟨cO Hb.out.1.symm Hb.out.2.symm,hb⟩
theorem BQ (most : Int) (a : OA) (n c : Nat) (l : Lz) (w : World) (hm : 0<=most/\most<=65536) (hi : Ints w a n l) (hl : ∀x ∈ l,1<=x/\x<=65536) :
  Calls Tryz.prog 109 #[.int .i64 most,.slice a n c] w λe w'=>e = .returned (.tuple #[.int .i64 (rW most l),.int .i64 (qV most l)])/\w=w':=by
 have hlen:=hi.len
 have hpl:=hi.pl
 have hmax:=hi.max
 unfold maxLen at hmax
 have hx1 : ∀k,k<n->1<=nth l k/\nth l k<=65536:=λk hk=>hl _ (aN (by omega))
 have Hx1:=Z5 hx1
 have H1:=Z5 (λx hx=>(hl x hx).1)
 have Hlen:=Z5 hlen
 have Hb : Hid (∀k,k<=n->most<prodTo l k->rW most l=0/\qV most l=8):=λk hk hb=>by
  have h1:=mG H1.out k (n - k) (by omega)
  rw [show k+(n - k)=l.length by omega] at h1
  unfold rW qV
  rw [if_neg (by omega),if_neg (by omega)]
  exact ⟨rfl,rfl⟩
 have Hg : Hid (prodTo l n<=most->rW most l=prodTo l n/\qV most l=0):=λh=>by
  unfold rW qV
  rw [hlen,if_pos h,if_pos h]
  exact ⟨rfl,rfl⟩
 have dm : decide (most<0)=false:=decide_eq_false (by omega)
 clear hx1 hl hlen
 go_enter Tryz.func109,Tryz.ntmps109
 go_wp2_with fail
 go_loop [6,7] (λzv iv=>∃k : Nat,k<=n/\iv = .int .i64 k/\zv = .bool false) (λ_ iv=>n - (intOf iv).toNat)
 case atStart=>exact ⟨0,Nat.zero_le _,rfl,rfl⟩
 case round =>
  obtain ⟨k,hk,rfl,rfl⟩:=hrel
  by_cases hlt : k<n
  ·have ck:=hi.cell k hlt
   have hx:=Hx1.out k hlt
   have e1 : decide (nth l k<0)=false:=decide_eq_false (by omega)
   have e2 : (nth l k == 0)=false:=by simp;omega
   generalize nth l k=x at *
   go_wp2_with fail
   go_round
   case rel=>exact ⟨k+1,by omega,by go_num,rfl⟩
   case measure=>simp [intOf] <;> omega
  ·obtain rfl : n=k:=by omega
   go_wp2_with fail
   go_loop [8,9] (λov iv=>∃k : Nat,k<=n/\iv = .int .i64 k/\ov = .int .i64 (prodTo l k)/\1<=prodTo l k/\prodTo l k<=65536) (λ_ iv=>n - (intOf iv).toNat)
   case atStart=>exact ⟨0,Nat.zero_le _,rfl,rfl,by simp [prodTo],by simp [prodTo]⟩
   case round =>
    obtain ⟨k,hk,rfl,rfl,hp1,hp2⟩:=hrel
    by_cases hlt : k<n
    ·have ck:=hi.cell k hlt
     have hx:=Hx1.out k hlt
     have Hst : Hid (prodTo l (k+1)=prodTo l k * nth l k):=rfl
     obtain ⟨o,ho⟩ : ∃o,prodTo l k=o:=⟨_,rfl⟩
     obtain ⟨x,hxe⟩ : ∃x,nth l k=x:=⟨_,rfl⟩
     rw [ho] at hp1 hp2 Hst ⊢
     rw [hxe] at hx Hst ck
     have hdv:=div_lt_iff (most:=most) (x:=x) (o:=o) hx.1 (by omega) hm.1
     have htd : most.tdiv x=most / x:=Int.tdiv_eq_ediv_of_nonneg hm.1
     obtain ⟨Q,hQ⟩ : ∃Q,most / x=Q:=⟨_,rfl⟩
     obtain ⟨P2,hP2⟩ : ∃P2,o * x=P2:=⟨_,rfl⟩
     have hQ2 : 0<=Q/\Q<=65536:=by
      rw [<- hQ]
      have h1:=Int.ediv_le_self (a:=most) x hm.1
      have h2:=Int.ediv_nonneg hm.1 (show 0<=x by omega)
      omega
     have hx0 : x ≠ 0:=by omega
     have hxb : (x == 0)=false:=by simpa using hx0
     rw [hQ] at htd
     rw [htd,hP2] at hdv
     rw [hP2] at Hst
     have kQ : wrap64 Q=Q:=yp hQ2.1 (by omega)
     clear ho hxe
     by_cases hbig : Q<o
     ·have d1 : decide (Q<o)=true:=decide_eq_true hbig
      have HB:=Z5 (Hb.out (k+1) (by omega) (by rw [Hst.out];exact hdv.1 hbig))
      clear hdv hP2 hbig
      go_wp2_with fail
      go_ret2
      exact ⟨cO HB.out.1.symm HB.out.2.symm,rfl⟩
     ·have d1 : decide (Q<o)=false:=decide_eq_false hbig
      have hP3 : P2<=most:=Int.not_lt.1 λh=>hbig (hdv.2 h)
      have hP4 : 1<=P2:=by
       have:=Int.mul_le_mul hp1 hx.1 (by omega) (by omega)
       omega
      have kP : wrap64 P2=P2:=yp (by omega) (by omega)
      clear hdv hbig
      go_wp2_with fail
      go_round
      case rel=>exact ⟨k+1,by omega,by go_num,by rw [Hst.out],by rw [Hst.out];exact hP4,by rw [Hst.out];omega⟩
      case measure=>simp [intOf] <;> omega
    ·obtain rfl : k=n:=by omega
     by_cases hbig : most<prodTo l k
     ·have HB:=Z5 (Hb.out k (Nat.le_refl _) hbig)
      obtain ⟨o,ho⟩ : ∃o,prodTo l k=o:=⟨_,rfl⟩
      rw [ho] at hbig ⊢
      have d1 : decide (most<o)=true:=decide_eq_true hbig
      clear ho hbig
      go_wp2_with fail
      go_ret2
      exact ⟨cO HB.out.1.symm HB.out.2.symm,rfl⟩
     ·have HB:=Z5 (Hg.out (by omega))
      obtain ⟨o,ho⟩ : ∃o,prodTo l k=o:=⟨_,rfl⟩
      rw [ho] at hbig HB ⊢
      have d1 : decide (most<o)=false:=decide_eq_false hbig
      clear ho hbig
      go_wp2_with fail
      go_ret2
      exact ⟨cO HB.out.1.symm HB.out.2.symm,rfl⟩
theorem DQ (n : Nat) (w : World) (hn : n<=1000000) :
  Calls Tryz.prog 108 #[.int .i64 1,.int .i64 n,.int .i64 65536] w λe w'=>e = .returned (.tuple #[.int .i64 1,.int .i64 0])/\w=w':=by
 go_enter Tryz.func108,Tryz.ntmps108
 go_wp2_with fail
 go_loop [8,9] (λqv nv=>qv = .int .i64 1/\nv = .int .i64 0) (λ_ _=>0)
 case atStart=>exact ⟨rfl,rfl⟩
 case round =>
  obtain ⟨rfl,rfl⟩:=hrel
  rcases Nat.eq_zero_or_pos n with h0 | h0
  ·subst h0
   go_wp2_with fail
   go_ret2
   exact ⟨rfl,rfl⟩
  ·have d1 : decide ((0 : Int)<(n : Int))=true:=by simp;omega
   have d1' : decide (0<n)=true:=by simp;omega
   go_wp2_with fail
   go_ret2
   exact ⟨rfl,rfl⟩
theorem Du (q : Nat) (n : Nat) (w : World) (h1 : 1<=q) (h256 : q<=256) (hn : n<=1000000) :
  Calls Tryz.prog 108 #[.int .i64 q,.int .i64 n,.int .i64 65536] w λe w'=>e = .returned (.tuple #[.int .i64 (lZ q n),.int .i64 (lA q n)])/\w=w':=by
 by_cases h : q=1
 ·subst h
  have e1 : lZ ((1 : Nat) : Int) n=1:=by simp [lZ,Int.one_pow]
  have e2 : lA ((1 : Nat) : Int) n=0:=by simp [lA,Int.one_pow]
  rw [e1,e2]
  exact DQ n w hn
 ·exact qf q n w (by omega) (by omega) hn
theorem wR (q n s k W : Nat) (w : World) (hq : 2<=q) (hq2 : q<=256) (hn : n<=64) (hW : 1<=W) (hWn : W<=n) (hs1 : 1<=s) (hs64 : s<=64) (hk : k<=65536) :
  Calls Tryz.prog 49 #[.int .i64 q,.int .i64 n,.int .i64 s,.int .i64 W,.int .i64 (65536 - (k : Int))] w λe w'=>e = .returned (.tuple #[.int .i64 (if il q n s k W=true then (kZ q n s W : Int) else 0),.int .i64 (if il q n s k W=true then 0 else 8)])/\Below w.heap.size w w':=by
 obtain ⟨V,rfl⟩ : ∃V,W=V+1:=⟨W - 1,by omega⟩
 obtain ⟨q1,rfl⟩ : ∃q1,q=q1+1:=⟨q - 1,by omega⟩
 have hmB : il (q1+1) n s k (V+1)=(decide (chN n (V+1)<=65536) && decide (q1 ^ V<=65536) && decide (s * (chN n (V+1) * q1 ^ V)<=65536 - k)):=by
  unfold il kZ
  rw [Nat.add_sub_cancel,Nat.add_sub_cancel]
 have hrN : kZ (q1+1) n s (V+1)=s * (chN n (V+1) * q1 ^ V):=by
  unfold kZ
  rw [Nat.add_sub_cancel,Nat.add_sub_cancel]
 rw [hmB,hrN]
 have hC1 : 1<=chN n (V+1):=kp _ _ hWn
 have hP1 : 1<=q1 ^ V:=Nat.pow_pos (by omega)
 have Hcho:=Z5 (λV2 : World=>wL n (V+1) V2 hn hWn)
 have Hexp:=Z5 (λV2 : World=>Du q1 V V2 (by omega) (by omega) (by omega))
 have hcp : ((q1 : Int) ^ V)=((q1 ^ V : Nat) : Int):=by simp
 obtain ⟨C,hC⟩ : ∃C,chN n (V+1)=C:=⟨_,rfl⟩
 obtain ⟨Pw,hPw⟩ : ∃Pw,q1 ^ V=Pw:=⟨_,rfl⟩
 unfold sf rT at Hcho
 unfold lZ lA at Hexp
 rw [hcp,hPw] at Hexp
 rw [hC] at Hcho hC1 ⊢
 rw [hPw] at hP1 ⊢
 have hVW : ((V+1 : Nat) : Int)=(V : Int)+1:=by omega
 rw [hVW] at Hcho
 rw [hVW,show ((q1+1 : Nat) : Int)=(q1 : Int)+1 by omega]
 have kq : wrap64 (q1 : Int)=q1:=yp (by omega) (by omega)
 have kV : wrap64 (V : Int)=V:=yp (by omega) (by omega)
 obtain ⟨rv,hrv⟩ : ∃rv : Int,(if (decide (C<=65536) && decide (Pw<=65536) && decide (s * (C * Pw)<=65536 - k))=true then ((s * (C * Pw) : Nat) : Int) else 0)=rv:=⟨_,rfl⟩
 obtain ⟨re,hre⟩ : ∃re : Int,(if (decide (C<=65536) && decide (Pw<=65536) && decide (s * (C * Pw)<=65536 - k))=true then (0 : Int) else 8)=re:=⟨_,rfl⟩
 rw [hrv,hre]
 have HV:=Z5 (And.intro hrv hre)
 clear hmB hrN hcp hC hPw hrv hre
 go_enter Tryz.func49,Tryz.ntmps49
 by_cases hCb : C<=65536
 rotate_left
 ·have hd : (decide (C<=65536) && decide (Pw<=65536) && decide (s * (C * Pw)<=65536 - k))=false:=by rw [decide_eq_false hCb];rfl
  have HV2 : Hid (0=rv/\8=re):=by
   show _/\_
   rw [<- HV.out.1,<- HV.out.2,hd];exact ⟨rfl,rfl⟩
  rw [if_neg (by omega),if_neg (by omega)] at Hcho
  have Hc2:=Z5 (Hcho.out w)
  clear Hcho hCb hd
  go_wp2_with fail
  refine Hc2.out.mono ?_
  rintro e w1 ⟨rfl,hb1⟩
  go_wp2_with fail
  go_ret2
  exact ⟨cO HV2.out.1 HV2.out.2,hb1⟩
 rw [if_pos (by omega),if_pos (by omega)] at Hcho
 have Hc2:=Z5 (Hcho.out w)
 clear Hcho
 go_wp2_with fail
 refine Hc2.out.mono ?_
 rintro e w1 ⟨rfl,hb1⟩
 have He1:=Z5 (Hexp.out w1)
 clear Hc2 Hexp
 by_cases hPb : Pw<=65536
 rotate_left
 ·have hd : (decide (C<=65536) && decide (Pw<=65536) && decide (s * (C * Pw)<=65536 - k))=false:=by rw [decide_eq_false hPb,Bool.and_false,Bool.false_and]
  have HV2 : Hid (0=rv/\8=re):=by
   show _/\_
   rw [<- HV.out.1,<- HV.out.2,hd];exact ⟨rfl,rfl⟩
  rw [if_neg (by omega),if_neg (by omega)] at He1
  clear hPb hd
  go_wp2_with fail
  refine He1.out.mono ?_
  rintro e w' ⟨rfl,rfl⟩
  go_wp2_with fail
  go_ret2
  exact ⟨cO HV2.out.1 HV2.out.2,hb1⟩
 rw [if_pos (by omega),if_pos (by omega)] at He1
 have hpr : prodTo [(s : Int),(C : Int),(Pw : Int)] 3=((s * (C * Pw) : Nat) : Int):=by
  simp only [prodTo,nth]
  simp [Int.mul_assoc]
 have HPr : Hid (∀V2 a3 c3,Ints V2 a3 3 [(s : Int),(C : Int),(Pw : Int)]->Calls Tryz.prog 109 #[.int .i64 (65536 - (k : Int)),.slice a3 3 c3] V2 λe w'=>e = .returned (.tuple #[.int .i64 (if (decide (C<=65536) && decide (Pw<=65536) && decide (s * (C * Pw)<=65536 - k))=true then ((s * (C * Pw) : Nat) : Int) else 0),.int .i64 (if (decide (C<=65536) && decide (Pw<=65536) && decide (s * (C * Pw)<=65536 - k))=true then 0 else 8)])/\V2=w'):=λV2 a3 c3 h3=>by
  refine (BQ (65536 - (k : Int)) a3 3 c3 [(s : Int),(C : Int),(Pw : Int)] V2 (by omega) h3 λx hx=>?_).mono ?_
  ·simp at hx
   rcases hx with rfl | rfl | rfl <;> omega
  ·rintro e w' ⟨rfl,rfl⟩
   refine ⟨?_,rfl⟩
   unfold rW qV
   show Ending.returned (.tuple #[.int .i64 (if prodTo [(s : Int),(C : Int),(Pw : Int)] 3<=65536 - (k : Int) then prodTo [(s : Int),(C : Int),(Pw : Int)] 3 else 0),.int .i64 (if prodTo [(s : Int),(C : Int),(Pw : Int)] 3<=65536 - (k : Int) then (0 : Int) else 8)])=_
   rw [hpr,decide_eq_true hCb,decide_eq_true hPb,Bool.and_self,Bool.true_and]
   by_cases hz : s * (C * Pw)<=65536 - k
   ·rw [if_pos (by omega),if_pos (by omega),if_pos (decide_eq_true hz),if_pos (decide_eq_true hz)]
   ·rw [if_neg (by omega),if_neg (by omega),if_neg (by simpa using hz),if_neg (by simpa using hz)]
 clear hpr
 rw [HV.out.1,HV.out.2] at HPr
 clear hCb hPb hC1 hP1
 go_wp2_with fail
 refine He1.out.mono ?_
 rintro e w' ⟨rfl,rfl⟩
 have hb2:=an w1 (.cells #[.int .i64 (s : Int),.int .i64 (C : Int),.int .i64 (Pw : Int)] 3)
 have Hp2:=Z5 (HPr.out _ (some ⟨w1.heap.size,0,none⟩) 3 (oN w1 (s : Int) (C : Int) (Pw : Int) 3 rfl))
 have hF:=Below.next hb1 hb2
 clear HPr
 go_wp2_with fail
 refine Hp2.out.mono ?_
 rintro e w' ⟨rfl,rfl⟩
 go_wp2_with fail
 go_ret2
 exact ⟨rfl,hF⟩
theorem z8 (O : aQ) (u : Lz) {a : Int} (r : Lz) (h : a ≠ 0) : gC O u a r=bJ O u a r:=if_neg h
theorem Ex {R : La} {L : Ll} (j : Nat) (u : Value) (h : (List.zipWith e9 R L)[j]? = some u) : u.oneCell'=true:=by
 obtain ⟨x,y,_,_,rfl⟩:=List.getElem?_zipWith_eq_some.1 h
 rfl
theorem aU.J4 {w : World} {B : Nat} {a : OA} {n c : Nat} {R : La} {L : Ll} (h : aU w B a n c R L) : Pl a n/\(List.zipWith e9 R L).length=n/\(∀j,j<n->w.cell? ⟨ablk a,aJ a+j,none⟩=(List.zipWith e9 R L)[j]?)/\∀u ∈ List.zipWith e9 R L,u.oneCell'=true:=by
 obtain ⟨a',c',hv,hp⟩:=Pl.own h.own
 cases hv
 refine ⟨hp,by simp [h.rl,h.ll],λj hj=>(b9 h.own j hj).1,λu hu=>?_⟩
 obtain ⟨j,hj,rfl⟩:=List.mem_iff_getElem.1 hu
 exact Ex j _ (List.getElem?_eq_getElem hj)
def vN (B : Nat) (T : Ll) (w : World) (e : Ending) (w' : World) : Prop :=
 ∃a c R,e = .returned (.slice a T.length c)/\aU w' B a T.length c R T/\Below w.heap.size w w'
section
variable {P M : Int} {mod : Lz} {m : Nat} {R : Ll}
theorem AP (am : OA) (mn cm : Nat) (ar : OA) (nr cr : Nat) (B : Nat) (av : OA) (cv : Nat) (v : Lz) (fs : Nat) (fi : Bool) (w : World) (hB : B<=w.heap.size)
  (hv : w.ownsRow B 3 1 (.slice av m cv) m (v.map (Value.int .i64))) (hvl : v.length=m) :
  Calls Tryz.prog 51 #[.agg #[.int .i64 P,.int .i64 M,.slice am mn cm],.slice ar nr cr,.int .i64 fs,.int .i64 0,.slice av m cv,.bool fi] w (vN B [v] w):=by
 have hb2:=dH w (.cells #[.int .i64 P,.int .i64 M,.slice am mn cm] 24) (.cells #[.slice av m cv] 22)
 have hO : aU ((w.alloc (.cells #[.int .i64 P,.int .i64 M,.slice am mn cm] 24)).alloc (.cells #[.slice av m cv] 22)) B (some ⟨w.heap.size+1,0,none⟩) 1 1 [(av,cv)] [v]:=by
  obtain ⟨U,hU⟩ : ∃U : World,U=w.alloc (.cells #[.int .i64 P,.int .i64 M,.slice am mn cm] 24):=⟨_,rfl⟩
  have hs : U.heap.size=w.heap.size+1:=by rw [hU];simp
  have h0:=uk U 22 (.slice av m cv) 1 (B:=B) (by omega) (by unfold maxLen;omega)
  rw [<- hU] at hb2 ⊢
  have hap : db av (w.heap.size+1):=by
   by_cases h1 : av=none
   ·exact .inl h1
   ·have:=(aR hv h1).2;exact .inr (by omega)
  refine ⟨rfl,rfl,?_,λi hi=>?_,λi hi=>?_,λi j hi hj hij=>by omega⟩
  ·have h1 : (U.alloc (.cells #[.slice av m cv] 22)).ownsRow B 22 1 (.slice (some ⟨U.heap.size,0,none⟩) 1 1) 1 [.slice av m cv]:=h0
   rw [hs] at h1
   show World.ownsRow _ _ _ _ _ _ [.slice av v.length cv]
   rw [hvl];exact h1
  ·obtain rfl : i=0:=by omega
   show World.ownsRow _ _ _ _ (.slice av v.length cv) v.length _
   rw [hvl];exact aW hv hb2
  ·obtain rfl : i=0:=by omega
   exact hap
 go_enter Tryz.func51,Tryz.ntmps51
 go_wp2_with fail
 go_ret
 exact ⟨_,_,_,rfl,hO,hb2⟩
def wm (P M : Int) (mod : Lz) (m : Nat) (R : Ll) (am : OA) (mn cm : Nat) (ar : OA) (nr cr : Nat) (l : Nat) : Prop :=
 ∀(w : World) (B : Nat) (av : OA) (cv : Nat) (v : Lz) (fs : Nat) (fi : Bool),Ints w am mn mod->bZ w ar nr R->B<=w.heap.size->w.ownsRow B 3 1 (.slice av m cv) m (v.map (Value.int .i64))->Vc (aa P M.toNat mod).El m v->fs<=nr ->
  (ik (aa P M.toNat mod).ops (dn (aa P M.toNat mod).q) (if fi=true then [1] else dn (aa P M.toNat mod).q) l (R.drop fs) v).length<=1000000 ->
  Calls Tryz.prog 51 #[.agg #[.int .i64 P,.int .i64 M,.slice am mn cm],.slice ar nr cr,.int .i64 fs,.int .i64 l,.slice av m cv,.bool fi] w
   (vN B (ik (aa P M.toNat mod).ops (dn (aa P M.toNat mod).q) (if fi=true then [1] else dn (aa P M.toNat mod).q) l (R.drop fs) v) w)
theorem Ej {O : aQ} {El : Int->Prop} (F : cK O El) {m : Nat} {v u : Lz} {s : Int} (hv : Vc El m v) (hu : Vc El m u) (hs : El s) : Vc El m (bJ O v s u):=by
 have hl : u.length=v.length:=by rw [hu.1,hv.1]
 exact ⟨by rw [cH _ _ _ _ hl];exact hv.1,qH F.cl hv.2 hu.2 hs⟩
theorem A7 (am : OA) (mn cm : Nat) (ar : OA) (nr cr : Nat) (hB : bA P M mod=true) (hm : m<=64) (hnr : nr<=64) (hRw : bH (aa P M.toNat mod).El m R) (l : Nat) (hl64 : l<=64) (IH : wm P M mod m R am mn cm ar nr cr l) : wm P M mod m R am mn cm ar nr cr (l+1):=by
 intro w B av cv v fs fi hmod hi hBw hv hve hfs hlen
 have F:=eX hB
 have hord : aK P M=((aa P M.toNat mod).q : Int):=by
  obtain ⟨m1,e1,_,h1,_⟩:=fU hB
  rw [show M.toNat=m1 by omega];exact h1.symm
 have hq2 : 1<(aa P M.toNat mod).q:=by have h5 : (1 : Int)<(aa P M.toNat mod).q:=F.one.2;omega
 have HOr : Hid (∀V,Calls Tryz.prog 45 #[.agg #[.int .i64 P,.int .i64 M,.slice am mn cm]] V λe w'=>e = .returned (.int .i64 ((aa P M.toNat mod).q : Nat))/\Below V.heap.size V w'):=λV=>by
  rw [<- hord];exact dB P M am mn cm V
 have HAd : Hid (∀V Aa ra rc i,Below w.heap.size w V->i<nr->(aa P M.toNat mod).El Aa->Aa ≠ 0->Ints V ra m (aj R i)->Calls Tryz.prog 115 #[.agg #[.int .i64 P,.int .i64 M,.slice am mn cm],.slice av m cv,.int .i64 Aa,.slice ra m rc] V
   λe w'=>∃a1 c1,e = .returned (.slice a1 m c1)/\w'.ownsRow V.heap.size 3 1 (.slice a1 m c1) m ((gC (aa P M.toNat mod).ops v Aa (aj R i)).map (Value.int .i64))/\Below V.heap.size V w'):=λV Aa ra rc i hV hin hel h0 hra=>by
  rw [z8 _ _ _ h0]
  exact vi hB (by omega) av cv v Aa ra rc (aj R i) V (hmod.ah hV) ((Ints.own hv).1.ah hV) hra hve hel (hRw.row (by rw [hi.len];exact hin))
 have HIH : Hid (∀V B2 a2 c2 v2 i,Below w.heap.size w V->i<nr->B2<=V.heap.size->V.ownsRow B2 3 1 (.slice a2 m c2) m (v2.map (Value.int .i64))->Vc (aa P M.toNat mod).El m v2 ->
   (sumS (aa P M.toNat mod).ops (dn (aa P M.toNat mod).q) l (R.drop (i+1)) v2).length<=1000000 ->
   Calls Tryz.prog 51 #[.agg #[.int .i64 P,.int .i64 M,.slice am mn cm],.slice ar nr cr,.int .i64 ((i : Int)+1),.int .i64 l,.slice a2 m c2,.bool false] V (vN B2 (sumS (aa P M.toNat mod).ops (dn (aa P M.toNat mod).q) l (R.drop (i+1)) v2) V)):=λV B2 a2 c2 v2 i hV hin hB2 ho hv2 hl2=>by
  have h:=IH V B2 a2 c2 v2 (i+1) false (hmod.ah hV) (hi.ah hV) hB2 ho hv2 (by omega)
  rw [if_neg (by decide),vs] at h
  exact h hl2
 have HVS : Hid (∀Aa i,i<nr->(aa P M.toNat mod).El Aa->Aa ≠ 0->Vc (aa P M.toNat mod).El m (gC (aa P M.toNat mod).ops v Aa (aj R i))):=λAa i hin hel h0=>by
  rw [z8 _ _ _ h0]
  exact Ej F hve (hRw.row (by rw [hi.len];exact hin)) hel
 obtain ⟨G,hG⟩ : ∃G,aa P M.toNat mod=G:=⟨_,rfl⟩
 rw [hG] at hlen hq2 HOr HAd HIH HVS ⊢
 obtain ⟨c0,hc0⟩ : ∃c0,(if fi=true then [1] else dn G.q)=c0:=⟨_,rfl⟩
 rw [hc0] at hlen ⊢
 rw [ik] at hlen ⊢
 have Hc0:=Z5 hc0
 obtain ⟨TT,hTT⟩ : ∃TT,sumL G.ops (sumS G.ops (dn G.q) l) c0 (R.drop fs) v=TT:=⟨_,rfl⟩
 rw [hTT] at hlen ⊢
 have HTT:=Z5 hTT
 have hplR:=hi.pl
 have HRl:=Z5 hi.len
 have Hi:=Z5 hi
 have HRw2 : Hid (∀i,i<nr->Vc G.El m (aj R i)):=λi hin=>by rw [<- hG];exact hRw.row (by rw [hi.len];exact hin)
 have HBw:=Z5 hBw
 have hq256 : G.q<=256:=by
  obtain ⟨k',e2,hrf,_⟩:=eW (P:=P) (M:=M) (mod:=mod) (by rw [cP];exact hB)
  have h1:=hrf.order
  have h2:=hrf.pw
  have h3 : aK P M=P ^ k':=by rw [e2];exact h1
  have h4 : (G.q : Int)=P ^ k':=by rw [<- hG,<- hord,h3]
  omega
 obtain ⟨LL,hLL⟩ : ∃LL : Int,((l+1 : Nat) : Int)=LL:=⟨_,rfl⟩
 have hL1 : LL - 1=(l : Int):=by omega
 have el0 : (LL == 0)=false:=by simp;omega
 rw [hLL]
 clear hLL hmod hi hBw hv hve hRw IH F hord hB hG hc0 hTT
 go_enter Tryz.func51,Tryz.ntmps51
 go_upto_region 1 with fail
 obtain ⟨W,hW⟩ : ∃W : World,W=w.alloc (.cells #[.int .i64 P,.int .i64 M,.slice am mn cm] 24):=⟨_,rfl⟩
 rw [<- hW]
 have hbW : Below w.heap.size w W:=by rw [hW];exact an _ _
 have x0 : aV W w.heap.size [.int .i64 P,.int .i64 M,.slice am mn cm]:=by rw [hW];exact aV.new _ _ _ rfl
 have hsW : W.heap.size=w.heap.size+1:=by rw [hW];simp
 have HX:=Z5 x0
 have HbW:=Z5 hbW
 clear hW x0
 go_wp2_with fail
 go_loopw [13,14] (λov iv wr=>∃(i g : Nat) (a1 : OA) (c1 : Nat) (D : Ll),fs<=i/\i<=nr/\iv = .int .i64 i/\ov = .slice a1 g c1/\Hid (D.length=g)/\(∃R',aU wr W.heap.size a1 g c1 R' D)/\Hid (D ++ sumL G.ops (sumS G.ops (dn G.q) l) c0 (R.drop i) v=TT)/\Below W.heap.size W wr) (λ_ iv _=>nr - (intOf iv).toNat)
 case atStart=>exact ⟨fs,0,none,0,[],Nat.le_refl _,hfs,rfl,rfl,rfl,⟨[],aU.GG W W.heap.size⟩,by show _=_;rw [List.nil_append];exact HTT.out,Below.refl _ _⟩
 case round =>
  obtain ⟨i,g,a1,c1,D,hfi,hin,rfl,rfl,Hg,⟨R1,hO⟩,Hd,hbr⟩:=hrel
  generalize wr=X at *
  by_cases hlt : i<nr
  ·have hiR : i<R.length:=by rw [HRl.out];exact hlt
   obtain ⟨T2,hT2⟩ : ∃T2,sumL G.ops (sumS G.ops (dn G.q) l) c0 (R.drop (i+1)) v=T2:=⟨_,rfl⟩
   have HT2:=Z5 hT2
   have hd2 : Hid (D ++ ((c0.drop 0).flatMap (λx=>sumS G.ops (dn G.q) l (R.drop (i+1)) (gC G.ops v x (aj R i))) ++ T2)=TT):=by
    have h1:=Hd.out
    rw [ob R hiR,sumL,hT2] at h1
    exact h1
   have HO1:=Z5 hO
   clear hT2 hO
   go_wp2_with fail
   go_loopw [13,15] (λov av wr=>∃(t g3 : Nat) (a3 : OA) (c3 : Nat) (D3 : Ll),t+1<=G.q/\(fi=true->t<=1)/\av = .int .i64 ((t : Int)+1)/\ov = .slice a3 g3 c3/\Hid (D3.length=g3)/\(∃R',aU wr W.heap.size a3 g3 c3 R' D3) /\
     Hid (D3 ++ ((c0.drop t).flatMap (λx=>sumS G.ops (dn G.q) l (R.drop (i+1)) (gC G.ops v x (aj R i))) ++ T2)=TT)/\Below W.heap.size W wr) (λ_ av _=>G.q+1 - (intOf av).toNat)
   case atStart=>exact ⟨0,g,a1,c1,D,by omega,λ_=>by omega,rfl,rfl,Hg.out,⟨R1,HO1.out⟩,hd2,hbr⟩
   case round =>
    clear hd2 HO1 Hg Hd
    obtain ⟨t,g3,a3,c3,D3,ht,hfit,rfl,rfl,Hg3,⟨R3,hO3⟩,Hd3,hb3⟩:=hrel
    generalize wr=Y at *
    have hbwY:=Below.next HbW.out hb3
    have xY:=HX.out.ah hb3
    obtain ⟨A,hA⟩ : ∃A : Int,(t : Int)+1=A:=⟨_,rfl⟩
    have HA:=Z5 hA
    rw [hA]
    obtain ⟨z,hz⟩ : ∃z : Bool,(decide (A<(G.q : Int)) && ((A == 1) || !fi))=z:=⟨_,rfl⟩
    have HS : Hid (∀V,Below Y.heap.size Y V->V.cell? ⟨w.heap.size,0,none⟩=some (.int .i64 P)/\V.cell? ⟨w.heap.size,1,none⟩=some (.int .i64 M)/\V.cell? ⟨w.heap.size,2,none⟩=some (.slice am mn cm)):=λV hV=>by
     have x1:=xY.ah hV
     exact ⟨x1.cell 0 rfl,x1.cell 1 rfl,x1.cell 2 rfl⟩
    obtain ⟨k0,k1,k2⟩:=HS.out Y (Below.refl _ _)
    clear xY hA
    go_upto_region 8 with fail
    go_cut [38] (λzv wx=>zv = .bool z/\Below Y.heap.size Y wx)
    case first =>
     go_wp2_with fail
     refine (HOr.out _).mono ?_
     rintro e w4 ⟨rfl,hb4⟩
     have Hz:=Z5 hz
     have hb4' : Below Y.heap.size Y w4:=by first | exact hb4 | exact Below.next (Below.refl _ _).drew hb4
     by_cases e1 : A<(G.q : Int)
     ·have d1 : decide (A<(G.q : Int))=true:=decide_eq_true e1
      by_cases e2 : A=1
      ·have d2 : (A == 1)=true:=by simpa using e2
       have Hz2 : Hid (z=true):=by show _=_;rw [<- Hz.out,d1,d2];rfl
       clear hz e1 e2
       go_wp2_with fail
       go_meet
       exact ⟨by rw [Hz2.out],hb4'⟩
      ·have d2 : (A == 1)=false:=by simpa using e2
       have Hz2 : Hid (z = !fi):=by show _=_;rw [<- Hz.out,d1,d2];simp
       clear hz e1 e2
       cases fi <;>
       (go_wp2_with fail
        go_meet
        exact ⟨by rw [Hz2.out];rfl,hb4'⟩)
     ·have d1 : decide (A<(G.q : Int))=false:=decide_eq_false e1
      have Hz2 : Hid (z=false):=by show _=_;rw [<- Hz.out,d1];rfl
      clear hz e1
      go_wp2_with fail
      go_meet
      exact ⟨by rw [Hz2.out],hb4'⟩
    obtain ⟨rfl,hb5⟩:=hcut
    generalize wc=Y2 at *
    have hb35:=Below.next hb3 hb5
    cases z
    ·have hdr : c0.drop t=[]:=by
      rw [<- Hc0.out]
      have h9:=hz
      rw [<- HA.out] at h9
      by_cases e : fi=true
      ·rw [if_pos e]
       have h8:=hfit e
       rcases Nat.eq_zero_or_pos t with h | h
       ·subst h
        rw [e] at h9
        have : (1 : Int)<(G.q : Int):=by omega
        simp at h9
        omega
       ·exact List.drop_of_length_le (by simp;omega)
      ·rw [if_neg e]
       refine List.drop_of_length_le ?_
       rw [lE]
       have e' : fi=false:=by simpa using e
       rw [e'] at h9
       simp at h9
       omega
     have Hd4 : Hid (D3 ++ T2=TT):=by
      have h1:=Hd3.out
      rw [hdr,List.flatMap_nil,List.nil_append] at h1
      exact h1
     have hO5 : ∃R',aU Y2 W.heap.size a3 g3 c3 R' D3:=⟨R3,hO3.ah hb5⟩
     clear hz hdr Hd3 hO3
     go_wp2_with fail
     go_roundw
     case rel=>exact ⟨i+1,g3,a3,c3,D3,by omega,by omega,by go_num,rfl,Hg3.out,hO5,by show _=_;rw [HT2.out];exact Hd4.out,hb35⟩
     case measure=>simp [intOf] <;> omega
    ·have hzz : A<(G.q : Int)/\(A=1\/fi=false):=by
      have h9:=hz
      simp only [Bool.and_eq_true,decide_eq_true_eq,Bool.or_eq_true,beq_iff_eq,Bool.not_eq_true'] at h9
      exact h9
     obtain ⟨hAq,hA1⟩:=hzz
     have hAt:=HA.out
     have htq : t+1<G.q:=by omega
     have hdr : c0.drop t=A :: c0.drop (t+1):=by
      rw [<- Hc0.out]
      by_cases e : fi=true
      ·rw [if_pos e]
       have : t=0:=by
        rcases hA1 with h | h
        ·omega
        ·rw [e] at h;cases h
       subst this
       rw [<- hAt];rfl
      ·rw [if_neg e,<- hAt];exact wh (by omega)
     have hfit2 : fi=true->t+1<=1:=λe=>by
      rcases hA1 with h | h
      ·omega
      ·rw [e] at h;cases h
     have hAel : G.El A:=⟨by omega,hAq⟩
     have hA0 : A ≠ 0:=by omega
     obtain ⟨FA,hFA⟩ : ∃FA,sumS G.ops (dn G.q) l (R.drop (i+1)) (gC G.ops v A (aj R i))=FA:=⟨_,rfl⟩
     obtain ⟨n6,hn6⟩ : ∃n6,FA.length=n6:=⟨_,rfl⟩
     have Hd4 : Hid ((D3 ++ FA) ++ ((c0.drop (t+1)).flatMap (λx=>sumS G.ops (dn G.q) l (R.drop (i+1)) (gC G.ops v x (aj R i))) ++ T2)=TT):=by
      have h1:=Hd3.out
      rw [hdr,List.flatMap_cons,hFA,List.append_assoc,<- List.append_assoc] at h1
      exact h1
     have hsz6 : g3+n6<=1000000:=by
      have h1:=congrArg List.length Hd4.out
      rw [List.length_append,List.length_append,Hg3.out,hn6] at h1
      omega
     have hbwY2:=Below.next hbwY hb5
     obtain ⟨rb,rn,rc,hcR,hrow⟩:=(Hi.out.ah hbwY2).cell i hlt
     have hrl:=(HVS.out A i hlt hAel hA0)
     have hrm : rn=m:=by
      rw [<- hrow.len]
      exact (HRw2.out i hlt).1
     rw [hrm] at hcR hrow
     have HAd2 : Hid (∀V,Below Y2.heap.size Y2 V->Calls Tryz.prog 115 #[.agg #[.int .i64 P,.int .i64 M,.slice am mn cm],.slice av m cv,.int .i64 A,.slice rb m rc] V
       λe w'=>∃a1 c1,e = .returned (.slice a1 m c1)/\w'.ownsRow V.heap.size 3 1 (.slice a1 m c1) m ((gC G.ops v A (aj R i)).map (Value.int .i64))/\Below V.heap.size V w'):=λV hV=>HAd.out V A rb rc i (Below.next hbwY2 hV) hlt hAel hA0 (hrow.ah hV)
     have HIH2 : Hid (∀V B2 a2 c2,Below Y2.heap.size Y2 V->B2<=V.heap.size->V.ownsRow B2 3 1 (.slice a2 m c2) m ((gC G.ops v A (aj R i)).map (Value.int .i64))->Calls Tryz.prog 51 #[.agg #[.int .i64 P,.int .i64 M,.slice am mn cm],.slice ar nr cr,.int .i64 ((i : Int)+1),.int .i64 l,.slice a2 m c2,.bool false] V
       λe w'=>∃a6 c6 R6,e = .returned (.slice a6 n6 c6)/\aU w' B2 a6 n6 c6 R6 FA/\Below V.heap.size V w'):=λV B2 a2 c2 hV hB2 ho=>by
      have h:=HIH.out V B2 a2 c2 _ i (Below.next hbwY2 hV) hlt hB2 ho (HVS.out A i hlt hAel hA0) (by rw [hFA,hn6];omega)
      rw [hFA] at h
      refine h.mono ?_
      rintro e w' ⟨a6,c6,R6,rfl,h1,h2⟩
      rw [hn6] at h1 ⊢
      exact ⟨a6,c6,R6,rfl,h1,h2⟩
     have hO5:=hO3.ah hb5
     have HO5:=Z5 hO5
     have HgL : Hid ((D3 ++ FA).length=g3+n6):=by show _=_;rw [List.length_append,Hg3.out,hn6]
     have HS2 : Hid (∀V,Below Y2.heap.size Y2 V->V.cell? ⟨w.heap.size,0,none⟩=some (.int .i64 P)/\V.cell? ⟨w.heap.size,1,none⟩=some (.int .i64 M)/\V.cell? ⟨w.heap.size,2,none⟩=some (.slice am mn cm)/\V.cell? ⟨ablk ar,aJ ar+i,none⟩=some (.slice rb m rc)):=λV hV=>by
      obtain ⟨q0,q1,q2⟩:=HS.out V (Below.next hb5 hV)
      exact ⟨q0,q1,q2,aw hV hcR⟩
     obtain ⟨l0,l1,l2,l3⟩:=HS2.out Y2 (Below.refl _ _)
     have hin2 : (i : Int)<(nr : Int):=by omega
     have hWY2 : W.heap.size<=Y2.heap.size:=hb35.size
     have Hwi : Hid (IntKind.i64.wrap ((i : Int)+1)=(i : Int)+1/\IntKind.i64.wrap (l : Int)=l):=⟨IntWalk.i64_in _ (by omega),IntWalk.i64_in _ (by omega)⟩
     clear hz hdr Hd3 hO3 hFA hn6 hA1 hAq hcR hrow hrl hO5 hAt k0 k1 k2 hrm hAel hA0
     go_upto_region 10 with fail
     go_region_law ((first
      | (go_simp;go_at_call 115;((with_reducible refine (HAd2.out _ (Below.refl _ _).drew).mono ?_);rintro e w5 ⟨a5,c5,rfl,hown5,hb5'⟩;have hbY5 : Below Y2.heap.size Y2 w5:=Below.next (Below.refl _ _).drew hb5';have hown6:=aP hown5 (show Y2.heap.size<=Y2.drew.heap.size from Nat.le_refl _);clear hown5;obtain ⟨e0,e1,e2,e3⟩:=HS2.out w5 hbY5))
      | (go_simp;go_at_call 51;rw [Hwi.out.1,Hwi.out.2];((with_reducible refine (HIH2.out _ Y2.heap.size _ _ hbY5 hbY5.size hown6).mono ?_);rintro e w6 ⟨a6,c6,R6,rfl,hO6,hb6⟩;have hbY6 : Below Y2.heap.size Y2 w6:=Below.next hbY5 hb6;obtain ⟨f0,f1,f2,f3⟩:=HS2.out w6 hbY6;have HN6:=Z5 hO6.J4;have HO7:=Z5 (HO5.out.ah hbY6);have HO6:=Z5 hO6;clear hO6))
      | (refine bg (by rfl) (.tmp 41) (.tmp 56) 25 22 (by rfl) (.slice none 0 0) 24 Tryz.underlying25 ch (by rfl) W.heap.size a3 g3 c3 (List.zipWith e9 R3 D3) (by rfl) HO7.out.own a6 n6 c6 (List.zipWith e9 R6 FA) (by rfl) HN6.out.1 HN6.out.2.1 HN6.out.2.2.1 HN6.out.2.2.2 (by omega) (by unfold maxLen;omega) (by have:=hbY6.size;omega) ?_;intro a7 c7 w7 hown7 hgr7 hap7)))
     all_goals (
      have hP:=aU.Io HO7.out HO6.out hWY2 (λb hb=>(HO5.out.lt b hb).2) hown7 hgr7 hap7
      have hb7 : Below W.heap.size W w7:=Below.app (Below.next hb35 hbY6) HO7.out.own hgr7 (Nat.le_refl _) (by have:=hbY6.size;omega)
      have HP:=Z5 (And.intro hP hb7)
      clear hP hb7 hown7 hgr7 hap7
      simp only [List.getElem_toArray,List.getElem_cons_succ,List.getElem_cons_zero,Act.put,List.setIfInBounds_toArray,List.set_cons_zero,List.set_cons_succ]
      go_wp2_with fail
      go_roundw
      case rel=>exact ⟨t+1,g3+n6,a7,c7,D3 ++ FA,by omega,hfit2,by have h9:=HA.out;exact congrArg (Value.int .i64) (by rw [lC (by omega)];omega),rfl,HgL.out,⟨_,HP.out.1⟩,Hd4.out,HP.out.2⟩
      case measure=>have h9:=HA.out;rw [lC (by omega)];simp [intOf] <;> omega)
  ·obtain rfl : i=nr:=by omega
   have hFin : D=TT:=by
    have h1:=Hd.out
    rw [List.drop_of_length_le (by rw [HRl.out];exact Nat.le_refl _),sumL,List.append_nil] at h1
    exact h1
   have HFin : Hid (vN B TT w (.returned (.slice a1 g c1)) X):=⟨a1,c1,R1,by rw [<- hFin,Hg.out],by rw [<- hFin,Hg.out];exact aU.mono (by rw [hFin] at hO;rw [hFin];exact hO) (by have:=HBw.out;omega),Below.next HbW.out hbr⟩
   clear hFin hO Hd
   go_wp2_with fail
   go_ret
   exact HFin.out
theorem wi (am : OA) (mn cm : Nat) (ar : OA) (nr cr : Nat) (hB : bA P M mod=true) (hm : m<=64) (hnr : nr<=64) (hRw : bH (aa P M.toNat mod).El m R) : ∀l,l<=64->wm P M mod m R am mn cm ar nr cr l
 | 0,_=>λw B av cv v fs fi _ _ hBw hv hve _ _=>by
  show Calls _ _ _ _ (vN B [v] w)
  exact AP am mn cm ar nr cr B av cv v fs fi w hBw hv hve.1
 | l+1,h=>A7 am mn cm ar nr cr hB hm hnr hRw l (by omega) (wi am mn cm ar nr cr hB hm hnr hRw l (by omega))
end
end Go.Proofs.YtcfmiocdlcapoaaGreat
