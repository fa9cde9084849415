import Derived.Test.YtcfmiocdlcapoaaGreatMCS5
import Derived.RangeFuncBox
import Derived.RangeFuncLeaves
import Derived.Shelf.Abstract
import Derived.OwnWalkIn
import Derived.TacticsInMore
import Derived.LoopNIn
import Derived.LoopIn
namespace Go.Proofs.YtcfmiocdlcapoaaGreat
set_option linter.all false
set_option maxRecDepth 100000
set_option maxHeartbeats 4000000
open Go.RowKit Go.Proofs.Tryz
structure RF (P : Int) (m : Nat) : Prop where
 p2 : 2<=P
 p256 : P<=256
 m1 : 1<=m
 m8 : m<=8
 pw : P ^ m<=256
theorem RF.res {P : Int} {m : Nat} (h : RF P m) : ku P m:=⟨h.p2,h.m1⟩
theorem RF.order {P : Int} {m : Nat} (h : RF P m) : aN P m=P ^ m:=by have:=h.p2;have:=h.p256;have:=h.m1;have:=h.m8;have e:=lB (p:=P) (m:=m) (by omega) (by simpa using h.pw);rwa [Jd] at e
theorem RF.of {P M : Int} (h : aN P M ≠ 0) : ∃m : Nat,M=m/\RF P m:=by obtain ⟨h1,h2,h3,h4,h5,h6⟩:=iU h;exact ⟨M.toNat,by omega,⟨h1,h2,by omega,by omega,h5⟩⟩
theorem fW (P M : Int) (am : OA) (mn cm : Nat) (w : World) :
  Calls prog 45 #[.agg #[.int .i64 P,.int .i64 M,.slice am mn cm]] w λe w'=>e = .returned (.int .i64 (aN P M))/\NS w w':=by
 have Hal:=Z5 (aw w (.cells #[.int .i64 P,.int .i64 M,.slice am mn cm] 24));by_cases h1 : P<2
 ·have Ho:=Z5 (jb (p:=P) (m:=M) (.inl h1));go_enter func45,ntmps45;go_wp2;go_ret;exact ⟨aH Ho.out.symm,Hal.out⟩
 have h1' : decide (P<2)=false:=by simpa using h1
 by_cases h2 : M<1
 ·have Ho:=Z5 (jb (p:=P) (m:=M) (.inr (.inr (.inl h2))));go_enter func45,ntmps45;go_wp2;go_ret;exact ⟨aH Ho.out.symm,Hal.out⟩
 have h2' : decide (M<1)=false:=by simpa using h2
 by_cases h3 : 8<M
 ·have Ho:=Z5 (jb (p:=P) (m:=M) (.inr (.inr (.inr h3))));go_enter func45,ntmps45;go_wp2;go_ret;exact ⟨aH Ho.out.symm,Hal.out⟩
 have h3' : decide (8<M)=false:=by simpa using h3
 obtain ⟨n,rfl⟩ : ∃n : Nat,M=n:=⟨M.toNat,by omega⟩
 go_enter func45,ntmps45;go_wp2_with fail;obtain ⟨W,hW⟩ : ∃W : World,W=w.alloc (.cells #[.int .i64 P,.int .i64 n,.slice am mn cm] 24):=⟨_,rfl⟩
 rw [<- hW];have hbW : NS w W:=by rw [hW];exact aw _ _
 have c0 : W.cell? ⟨w.heap.size,0,none⟩=some (.int .i64 P):=by rw [hW];exact aG _ _ _ rfl 0
 have c1 : W.cell? ⟨w.heap.size,1,none⟩=some (.int .i64 n):=by rw [hW];exact aG _ _ _ rfl 1
 clear hW;go_loop [3,4] (λqv iv=>∃k : Nat,k<=n/\iv = .int .i64 k/\qv = .int .i64 (P ^ k)/\P ^ k<=256/\1<=P ^ k) (λ_ i=>n - (intOf i).toNat);case atStart=>exact ⟨0,I7 _,rfl,by simp,by simp,by simp⟩
 case round =>
  obtain ⟨k,hk,rfl,rfl,hb,hb1⟩:=hrel
  have hP0 : P ≠ 0:=by omega
  by_cases hlt : k<n
  ·have e1 : P ^ (k+1)=P ^ k * P:=JP _ _
   have hd0 : (0 : Int)<=256 / P:=J5 (by omega) (by omega)
   have hd1 : 256 / P<=256:=J6 _ (by omega)
   by_cases h5 : 256 / P<P ^ k
   ·have hbig : aN P n=0:=mB (by intro h;have h6:=dE (show 1<=P by omega) (show k+1<=n by omega);rw [Jd] at h;have h7 : 256<P ^ k * P:=Ls (by omega) h5;omega)
    have Hb:=Z5 hbig
    clear e1 hbig
    generalize P ^ k=q at *
    go_wp2
    go_ret
    exact ⟨aH Hb.out.symm,hbW⟩
   ·have h7 : P ^ k * P<=256:=by have h8:=Int.mul_le_mul_of_nonneg_right (show P ^ k<=256 / P by omega) (show 0<=P by omega);have h9:=Int.ediv_mul_le 256 hP0;omega
    have e3 : 1 * 1<=P ^ k * P:=Ka hb1 (by omega) (by omega) (by omega)
    have E1:=Z5 e1
    clear e1
    generalize P ^ k=q at *
    go_wp2
    go_round
    case rel=>exact ⟨k+1,by omega,by go_num,by rw [E1.out],by rw [E1.out];exact h7,by rw [E1.out];omega⟩
    case measure=>simp [intOf] <;> omega
  ·obtain rfl : k=n:=by omega
   by_cases h256 : 256<P
   ·have hk1 : 1<=k:=by omega
    have h6:=dE (show 1<=P by omega) hk1
    have h8 : P ^ 1=P:=by rw [JP,KE,Ld]
    omega
   ·have Hb:=Z5 (lB (p:=P) (m:=k) (by omega) (by simpa using hb))
    go_wp2
    go_ret
    exact ⟨aH (by rw [Hb.out];simp),hbW⟩
theorem qz (n : Nat) (w : World) (h2 : 2<=n) (h256 : n<=256) :
  Calls prog 117 #[.int .i64 n] w λe w'=>e = .returned (.bool (fT n))/\w=w':=by
 go_enter func117,ntmps117;go_wp2;go_loop [3] (λdv=>∃d : Nat,2<=d/\d<=n/\dv = .int .i64 d/\Hid (∀e,2<=e->e<d->n % e ≠ 0)) (λd=>n+1 - (intOf d).toNat);case atStart=>exact ⟨2,IZ _,h2,rfl,λe he he2=>by omega⟩
 case round =>
  obtain ⟨d,hd2,hdn,rfl,hno⟩:=hrel
  have hd0 : (d : Int) ≠ 0:=by omega
  by_cases hs : d<n
  ·by_cases hm : n % d=0
   ·have hm' : ((n : Int) % d == 0)=true:=by simp;exact_mod_cast hm
    have Hf:=Z5 (tk hd2 hs hm)
    clear hm
    go_wp2
    go_ret
    exact ⟨bd Hf.out.symm,rfl⟩
   ·have hm' : ((n : Int) % d == 0)=false:=by simp;exact_mod_cast hm
    have Hm:=Z5 hm
    clear hm
    go_wp2
    go_round
    case rel =>
     refine ⟨d+1,by omega,by omega,by go_num,λe he he2=>?_⟩
     rcases JV e d with h | h
     ·exact hno.out e he h
     ·rw [show e=d from by omega];exact Hm.out
    case measure=>simp [intOf] <;> omega
  ·have Hf:=Z5 (qO (n:=n) λe he he2=>hno.out e he (by omega))
   go_wp2
   go_ret
   exact ⟨bd (by rw [Hf.out]),rfl⟩
theorem o0 (x p : Int) (m : Nat) (w : World) (hx : 0<=x) (hx2 : x<=9223372036854775807) (hp : 1<=p) (hm : m<=256) :
  Calls prog 182 #[.int .i64 x,.int .i64 p,.int .i64 m] w (dh w (bq x p m)):=by
 go_enter func182,ntmps182;go_wp2_with (at_make;refine cC rfl _ _ 22 3 rfl (.int .i64 0) 8 underlying22 ba rfl m rfl rfl (by omega) (by unfold maxLen;omega) ?_;intro a w1 hown hbel hge hlt);go_loopw [0,8] (λxv iv wr=>∃k : Nat,k<=m/\iv = .int .i64 k/\xv = .int .i64 (ji x p k) /\
   wr.ownsRow w.heap.size 3 1 (.slice a m m) m ((cU (bq x p k) k m).map (Value.int .i64))/\NS w wr)
  (λ_ i _=>m - (intOf i).toNat)
 case atStart=>exact ⟨0,I7 _,rfl,rfl,by simpa [cU,bq] using hown,hbel⟩
 case round =>
  obtain ⟨k,hk,rfl,rfl,hown,hbel⟩:=hrel
  obtain ⟨hints,hmine⟩:=Ni hown
  have hq:=vB x p hx hp k
  have hpl:=hints.pl
  by_cases hlt : k<m
  ·have hc:=hints.cell k hlt
   have hf:=(hmine (by omega)).2 k hlt
   have hB:=(hmine (by omega)).1
   go_wp2
   go_roundw
   case rel =>
    refine ⟨k+1,by omega,by go_num,rfl,?_,hbel.setCell hB _⟩
    have h:=bT hown k hlt (.int .i64 (ji x p k % p))
    rw [<- Jq,eO _ _ _ _ (bN p k x) hlt,<- oN] at h
    exact h
   case measure=>simp [intOf] <;> omega
  ·obtain rfl : k=m:=by omega
   have Hl:=Z5 (bN p k x)
   rw [fy] at hown
   go_wp2
   go_ret
   exact ⟨a,k,by rw [Hl.out];rfl,by rw [Hl.out];exact hown,hbel⟩
theorem AU (P M : Int) (am : OA) (mn cm : Nat) (x : Int) (w : World) :
  Calls prog 145 #[.agg #[.int .i64 P,.int .i64 M,.slice am mn cm],.int .i64 x] w λe w'=>e = .returned (.bool (jj (aN P M) x))/\NS w w':=by
 have Hal:=Z5 (aw w (.cells #[.int .i64 P,.int .i64 M,.slice am mn cm] 24));by_cases h0 : 0<=x
 ·have h0' : decide (0<=x)=true:=by simpa using h0
  have Hq : Hid (jj (aN P M) x=decide (x<aN P M)):=by show _=_;rw [jj,h0'];simp
  clear h0;go_enter func145,ntmps145;go_wp2_with (go_at_call 45;refine (fW P M am mn cm _).mono ?_;rintro e w2 ⟨rfl,hb2⟩);go_ret;exact ⟨bd (by rw [Hq.out]),Nh Hal.out hb2⟩
 ·have h0' : decide (0<=x)=false:=by simpa using h0
  have Hq : Hid (jj (aN P M) x=false):=by show _=_;rw [jj,h0'];simp
  clear h0;go_enter func145,ntmps145;go_wp2_with fail;go_ret;exact ⟨bd (by rw [Hq.out]),Hal.out⟩
theorem F2 (P M : Int) (am : OA) (mn cm : Nat) (x : Int) (w : World) (hx : jj (aN P M) x=true) :
  Calls prog 260 #[.agg #[.int .i64 P,.int .i64 M,.slice am mn cm],.int .i64 x] w λe w'=>e = .returned (.int .i64 x)/\NS w w':=by have Hal:=Z5 (aw w (.cells #[.int .i64 P,.int .i64 M,.slice am mn cm] 24));have Hx:=Z5 hx;clear hx;go_enter func260,ntmps260;go_wp2_with fail;refine (AU P M am mn cm x _).mono ?_;rintro e w2 ⟨rfl,hb2⟩;rw [Hx.out];go_wp2_with fail;go_ret;exact ⟨rfl,Nh Hal.out hb2⟩
theorem ie (P : Int) (m : Nat) (am : OA) (mn cm : Nat) (x : Int) (w : World) (hf : RF P m) (hx : jj (aN P m) x=true) :
  Calls prog 229 #[.agg #[.int .i64 P,.int .i64 m,.slice am mn cm],.int .i64 x] w (dh w (bq x P m)):=by
 have hx0 : 0<=x/\x<256:=by have h1:=hf.order;have h2:=hf.pw;unfold jj at hx;simp only [Jo,JH] at hx;omega
 have hp1 : 1<=P:=by have:=hf.p2;omega
 have hm:=hf.m8;have Hx:=Z5 hx;clear hx;go_enter func229,ntmps229;go_wp2_with fail;obtain ⟨W,hW⟩ : ∃W : World,W=w.alloc (.cells #[.int .i64 P,.int .i64 m,.slice am mn cm] 24):=⟨_,rfl⟩
 rw [<- hW];have hbW : NS w W:=by rw [hW];exact aw _ _
 have x0 : aZ W w.heap.size [.int .i64 P,.int .i64 m,.slice am mn cm]:=by rw [hW];exact Nj _ _ _ rfl
 have HX:=Z5 x0;clear hW x0;have hS : ∀V,NS W V->V.cell? ⟨w.heap.size,0,none⟩=some (.int .i64 P)/\V.cell? ⟨w.heap.size,1,none⟩=some (.int .i64 m)/\V.cell? ⟨w.heap.size,2,none⟩=some (.slice am mn cm)/\NS W V:=by intro V hV;have x1:=HX.out.aa hV;exact ⟨x1.cell 0 rfl,x1.cell 1 rfl,x1.cell 2 rfl,hV⟩
 have HS:=Z5 hS;have HbW:=Z5 hbW;clear hS hbW;go_region_held3 (λV=>V.cell? ⟨w.heap.size,0,none⟩=some (.int .i64 P)/\V.cell? ⟨w.heap.size,1,none⟩=some (.int .i64 m)/\V.cell? ⟨w.heap.size,2,none⟩=some (.slice am mn cm)/\NS W V)
  ((refine HS.out _ ?_;first | exact (I1 _ _).drew | (go_split_ands;exact Nh (by assumption) (by assumption))))
  (first
   | (go_at_call 260;((with_reducible refine (F2 P m am mn cm x _ Hx.out).mono ?_);rintro e w4 ⟨rfl,hb4⟩))
   | (go_at_call 182;((with_reducible refine (o0 x P m _ hx0.1 (by omega) hp1 (by omega)).mono ?_);rintro e w5 ⟨a5,c5,rfl,hown5,hb5⟩)))
 all_goals (
  have hsz : w.heap.size<=w4.heap.size:=by have h1:=HbW.out.size;have h2:=hb4.size;have h3 : W.drew.heap.size=W.heap.size:=rfl;omega
  have Hown:=Z5 (aU hown5 hsz)
  clear hown5
  go_wp2_with fail
  go_ret
  exact ⟨a5,c5,rfl,Hown.out,Nh HbW.out (by go_split_ands;assumption)⟩)
theorem mj (P : Int) (M : Int) (am : OA) (mn cm : Nat) (a : OA) (n c : Nat) (l : Lz) (w : World) (h : Ints w a n l) (hn : n<=1000) (hP1 : 0<=P) (hP : P<=256)
  (hb : ∀k,0<=dr P (l.drop k) * P/\dr P (l.drop k) * P<=1000000000/\0<=nth l k/\nth l k<=1000000000) :
  Calls prog 230 #[.agg #[.int .i64 P,.int .i64 M,.slice am mn cm],.slice a n c] w λe w'=>e = .returned (.int .i64 (dr P l))/\NS w w':=by
 have HB:=Z5 hb;have Hlen:=Z5 h.len;clear hb;go_enter func230,ntmps230;go_wp2_with fail;obtain ⟨W,hW⟩ : ∃W : World,W=w.alloc (.cells #[.int .i64 P,.int .i64 M,.slice am mn cm] 24):=⟨_,rfl⟩
 rw [<- hW];have hbW : NS w W:=by rw [hW];exact aw _ _
 have x0 : W.cell? ⟨w.heap.size,0,none⟩=some (.int .i64 P):=by rw [hW];exact aG _ _ _ rfl 0
 clear hW;have hW:=h.aa hbW;have hpl:=hW.pl;go_loopw [5,6] (λxv iv wr=>∃k : Nat,k<=n/\iv = .int .i64 ((k : Int) - 1)/\xv = .int .i64 (dr P (l.drop k))/\bf W wr) (λ_ i _=>(intOf i+1).toNat);case atStart=>exact ⟨n,IZ _,rfl,by rw [JD (by rw [Hlen.out];exact IZ _)];rfl,No _⟩
 case round =>
  obtain ⟨k,hk,rfl,rfl,hd⟩:=hrel
  by_cases hlt : 0<k
  ·obtain ⟨j,rfl⟩ : ∃j,k=j+1:=⟨k - 1,by omega⟩
   have hc:=(hW.drawn hd).cell j (by omega)
   have c0:=hd.cell x0
   have hjl : j<l.length:=by rw [Hlen.out];omega
   obtain ⟨b1,b2,b3,b4⟩ : 0<=dr P (l.drop (j+1)) * P/\dr P (l.drop (j+1)) * P<=1000000000/\0<=nth l j/\nth l j<=1000000000:=⟨(HB.out (j+1)).1,(HB.out (j+1)).2.1,(HB.out j).2.2⟩
   have e1 : ((j+1 : Nat) : Int) - 1=(j : Int):=by omega
   rw [e1]
   clear e1 hlt
   have hfin : dr P (l.drop (j+1)) * P+nth l j=dr P (l.drop j):=by rw [wT l j hjl];simp only [dr];rw [Ki P,Int.add_comm]
   generalize dr P (l.drop (j+1))=X at *
   generalize nth l j=Y at *
   have Hfin:=Z5 hfin
   clear hfin
   have e1 : (0 : Int)<=j:=by omega
   have e2 : (j : Int)<n:=by omega
   have r1 : IntKind.i64.wrap (X * P)=X * P:=Jj _ (by omega)
   have r2 : IntKind.i64.wrap (X * P+Y)=X * P+Y:=Jj _ (by omega)
   go_wp2_with fail
   go_quiet (fail)
   clear r1 r2
   go_wp2
   go_roundw
   case rel=>exact ⟨j,by omega,by go_num,by rw [<- Hfin.out],hd.drewN _⟩
   case measure=>simp [intOf] <;> omega
  ·obtain rfl : k=0:=by omega
   go_wp2_with fail
   go_ret
   exact ⟨by simp,Nh hbW hd.below⟩
def uN (P : Int) (a b : Lz) : Lz:=List.zipWith (λu v=>(u+v) % P) a b
theorem tX {P : Int} : ∀(m : Nat) (x y : Int),dr P (uN P (bq x P m) (bq y P m))=eh P m x y
 | 0,_,_=>rfl
 | m+1,x,y=>by simp only [bq,uN,Kt,dr,eh];have:=tX (P:=P) m (x / P) (y / P);unfold uN at this;rw [this,Int.add_emod x y]
def sf (P : Int) (a : Lz) : Lz:=a.map λu=>(P - u) % P
theorem tQ {P : Int} : ∀(m : Nat) (x : Int),dr P (sf P (bq x P m))=fK P m x
 | 0,_=>rfl
 | m+1,x=>by simp only [bq,sf,Ke,dr,fK];have:=tQ (P:=P) m (x / P);unfold sf at this;rw [this]
theorem dC.zip {P : Int} (hP : 0<P) (f : Int->Int->Int) (a b : Lz) : dC P (List.zipWith (λu v=>(f u v) % P) a b):=by refine NM hP λx hx=>?_;rw [LB] at hx;obtain ⟨i,hi,rfl⟩:=hx;rw [LC];exact ⟨JK _ (by omega),JB _ hP⟩
theorem dC.Iw {P : Int} (hP : 0<P) (a : Lz) : dC P (sf P a):=by refine NM hP λx hx=>?_;unfold sf at hx;obtain ⟨y,_,rfl⟩:=List.mem_map.1 hx;exact ⟨JK _ (by omega),JB _ hP⟩
theorem dC.IC {P : Int} {m : Nat} (hf : RF P m) {l : Lz} (h : dC P l) (hl : l.length=m) : ∀k,0<=dr P (l.drop k) * P/\dr P (l.drop k) * P<=1000000000/\0<=nth l k/\nth l k<=1000000000:=by
 intro k;have hP : 0<P:=by have:=hf.p2;omega
 have hP2:=hf.p256;have h1:=h.A2 hP hl hf.pw k;have h2:=h k;have h3:=kI h1.1 (show dr P (l.drop k)<=256 by omega) (show 0<=P by omega) hP2;exact ⟨h3.1,by omega,h2.1,by omega⟩
theorem qb {P : Int} {m : Nat} (hf : RF P m) (x : Int) (i : Nat) : 0<=nth (bq x P m) i/\nth (bq x P m) i<P:=dC.bq (by have:=hf.p2;omega) m x i
theorem D9 (P : Int) (m : Nat) (am : OA) (mn cm : Nat) (x y : Int) (w : World) (hf : RF P m) (hx : jj (aN P m) x=true) (hy : jj (aN P m) y=true) :
  Calls prog 179 #[.agg #[.int .i64 P,.int .i64 m,.slice am mn cm],.int .i64 x,.int .i64 y] w λe w'=>e = .returned (.int .i64 (eh P m x y))/\NS w w':=by
 have hp2:=hf.p2;have hp256:=hf.p256;have hm8:=hf.m8;have Hx:=Z5 hx;have Hy:=Z5 hy;have Hdx:=Z5 (bN P m x);have Hdy:=Z5 (bN P m y);have Hbx:=Z5 (qb hf x);have Hby:=Z5 (qb hf y);have hNl : (uN P (bq x P m) (bq y P m)).length=m:=by simp [uN,bN]
 have hNn : ∀i,i<m->nth (uN P (bq x P m) (bq y P m)) i=(nth (bq x P m) i+nth (bq y P m) i) % P:=λi hi=>by rw [ai (by rw [hNl];exact hi),ai (by rw [bN];exact hi),ai (by rw [bN];exact hi)];simp [uN]
 have hNg : dC P (uN P (bq x P m) (bq y P m)):=dC.zip (by omega) (λu v=>u+v) (bq x P m) (bq y P m);have hNd:=dC.IC hf hNg hNl;have HNl:=Z5 hNl;have HNn:=Z5 hNn;have HNd:=Z5 hNd;have HNv:=Z5 (tX (P:=P) m x y);clear hx hy hNl hNn hNd hNg;go_enter func179,ntmps179;go_wp2_with fail;obtain ⟨W,hW⟩ : ∃W : World,W=w.alloc (.cells #[.int .i64 P,.int .i64 m,.slice am mn cm] 24):=⟨_,rfl⟩
 rw [<- hW];have hbW : NS w W:=by rw [hW];exact aw _ _
 have x0 : aZ W w.heap.size [.int .i64 P,.int .i64 m,.slice am mn cm]:=by rw [hW];exact Nj _ _ _ rfl
 have HX:=Z5 x0;have hsW : w.heap.size<W.heap.size:=x0.1;clear hW x0;refine (ie P m am mn cm x W hf Hx.out).mono ?_;rintro e w1 ⟨a1,c1,rfl,hown1,hb1⟩;have x1:=HX.out.aa hb1;have d0:=x1.cell 0 rfl;have d1:=x1.cell 1 rfl;have d2:=x1.cell 2 rfl;rw [Hdx.out] at hown1 ⊢;clear x1;go_wp2_with fail;refine (ie P m am mn cm y w1 hf Hy.out).mono ?_;rintro e w2 ⟨a2,c2,rfl,hown2,hb2⟩;rw [Hdy.out] at hown2 ⊢;have hs1:=hb1.size;have hown1':=aX hown1 hb2;have hap : a1 ≠ none->aj a1<w1.heap.size:=λh0=>(aM hown1 h0).2;have hi2:=(Ni hown2).1;have hlo2 : 0<m->w1.heap.size<=aj a2:=λh0=>(fB hown2 h0).1;have hap1 : a1 ≠ none->W.heap.size<=aj a1:=λh0=>(aM hown1 h0).1;have hb12:=Nh hb1 hb2;have hpl2:=hi2.pl;obtain ⟨D,hD⟩ : ∃D,bq x P m=D:=⟨_,rfl⟩
 obtain ⟨E,hE⟩ : ∃E,bq y P m=E:=⟨_,rfl⟩
 rw [hD] at hown1' Hdx Hbx HNl HNn HNd HNv;rw [hE] at hi2 Hdy Hby HNl HNn HNd HNv;obtain ⟨NN,hNN⟩ : ∃NN,uN P D E=NN:=⟨_,rfl⟩
 rw [hNN] at HNl HNn HNd HNv;clear hD hE hNN hown1 hown2;go_wp2_with fail;go_loopw [9] (λiv wr=>∃k : Nat,k<=m/\iv = .int .i64 k/\wr.ownsRow W.heap.size 3 1 (.slice a1 m c1) m ((fc NN D k).map (Value.int .i64))/\cP a1 w2 wr) (λiv _=>m - (intOf iv).toNat);case atStart=>exact ⟨0,I7 _,rfl,by rw [eQ];exact hown1',ND _ _⟩
 case round =>
  obtain ⟨k,hk,rfl,hown,honly⟩:=hrel
  have hbr : NS W wr:=hb12.trans (honly.below hap1 (by have:=hb2.size;omega))
  by_cases hlt : k<m
  ·obtain ⟨hi1,hm1⟩:=Ni hown
   have hi2r:=honly.ints hi2 (by
    by_cases h0 : a1=none
    ·exact .inl h0
    ·exact .inr (.inr (by have h1:=hap h0;have h2:=hlo2 (by omega);omega)))
   have ca:=hi1.cell k hlt
   have cb:=hi2r.cell k hlt
   have fa:=(hm1 (by omega)).2 k hlt
   have hpl1:=hi1.pl
   have hkN : NN.length=D.length:=by rw [HNl.out,Hdx.out]
   have hkD : k<D.length:=by rw [Hdx.out];exact hlt
   have hmix:=ek NN D k k hkN (by omega)
   rw [I5 (by omega)] at hmix
   rw [hmix] at ca
   have hset:=ey NN D k hkN hkD
   have Hset:=Z5 hset
   have x1:=HX.out.aa hbr
   have d0:=x1.cell 0 rfl
   have b1:=Hbx.out k
   have b2:=Hby.out k
   have hP0 : P ≠ 0:=by omega
   have r5 : IntKind.i64.wrap (nth D k+nth E k)=nth D k+nth E k:=Jj _ (by omega)
   have r6 : (nth D k+nth E k).tmod P=(nth D k+nth E k) % P:=J0 _ _ (by omega)
   have R7:=Z5 (HNn.out k hlt)
   clear hmix hset hkN hkD x1
   go_wp2_with fail
   go_still_tail 15,(by kernel_rfl)
   change wpList _ _ _ _ _ wr.drew
   generalize hwd : wr.drew=wd
   have fd : wd.frozen? ⟨aj a1,aL a1+k,none⟩=false:=by rw [<- hwd];exact fa
   have cd : wd.cell? ⟨aj a1,aL a1+k,none⟩=some (.int .i64 (nth D k)):=by rw [<- hwd];exact ca
   have Hwd:=Z5 hwd
   clear hwd r5 r6
   go_wp2_with fail
   go_roundw
   case rel =>
    obtain rfl:=Hwd.out
    have hdr : bf wr wr.drew:=(No wr).drew
    refine ⟨k+1,by omega,by go_num,?_,honly.trans ((Nt hdr).trans (Nz _ k _ (by intro e;have:=hpl1 (by omega);rw [e] at this;cases this)))⟩
    have h1:=bT (w:=wr.drew) hown k hlt (.int .i64 ((nth D k+nth E k) % P))
    rw [<- Jq,<- R7.out,Hset.out] at h1
    rw [<- R7.out]
    exact h1
   case measure=>simp [intOf] <;> omega
  ·obtain rfl : k=m:=by omega
   rw [fD NN D k HNl.out Hdx.out] at hown
   have hi1:=(Ni hown).1
   have x1:=HX.out.aa hbr
   have d0:=x1.cell 0 rfl
   have d1:=x1.cell 1 rfl
   have d2:=x1.cell 2 rfl
   clear x1
   go_wp2_with fail
   refine (mj P k am mn cm a1 k c1 NN wr hi1 (by omega) (by omega) (by omega) HNd.out).mono ?_
   rintro e w4 ⟨rfl,hb4⟩
   go_wp2_with fail
   go_ret
   exact ⟨aH HNv.out,Nh (Nh hbW hbr) hb4⟩
theorem DA (P : Int) (m : Nat) (am : OA) (mn cm : Nat) (x : Int) (w : World) (hf : RF P m) (hx : jj (aN P m) x=true) :
  Calls prog 233 #[.agg #[.int .i64 P,.int .i64 m,.slice am mn cm],.int .i64 x] w λe w'=>e = .returned (.int .i64 (fK P m x))/\NS w w':=by
 have hp2:=hf.p2;have hp256:=hf.p256;have hm8:=hf.m8;have Hx:=Z5 hx;have Hdx:=Z5 (bN P m x);have Hbx:=Z5 (qb hf x);have hNl : (sf P (bq x P m)).length=m:=by simp [sf,bN]
 have hNn : ∀i,i<m->nth (sf P (bq x P m)) i=(P - nth (bq x P m) i) % P:=λi hi=>by rw [ai (by rw [hNl];exact hi),ai (by rw [bN];exact hi)];simp [sf]
 have hNd:=dC.IC hf (dC.Iw (by omega) (bq x P m)) hNl;have HNl:=Z5 hNl;have HNn:=Z5 hNn;have HNd:=Z5 hNd;have HNv:=Z5 (tQ (P:=P) m x);clear hx hNl hNn hNd;go_enter func233,ntmps233;go_wp2_with fail;obtain ⟨W,hW⟩ : ∃W : World,W=w.alloc (.cells #[.int .i64 P,.int .i64 m,.slice am mn cm] 24):=⟨_,rfl⟩
 rw [<- hW];have hbW : NS w W:=by rw [hW];exact aw _ _
 have x0 : aZ W w.heap.size [.int .i64 P,.int .i64 m,.slice am mn cm]:=by rw [hW];exact Nj _ _ _ rfl
 have HX:=Z5 x0;have hsW : w.heap.size<W.heap.size:=x0.1;clear hW x0;refine (ie P m am mn cm x W hf Hx.out).mono ?_;rintro e w2 ⟨a1,c1,rfl,hown1,hb1⟩;rw [Hdx.out] at hown1 ⊢;have hs1:=hb1.size;have hap1 : a1 ≠ none->W.heap.size<=aj a1:=λh0=>(aM hown1 h0).1;obtain ⟨D,hD⟩ : ∃D,bq x P m=D:=⟨_,rfl⟩
 rw [hD] at hown1 Hdx Hbx HNl HNn HNd HNv;obtain ⟨NN,hNN⟩ : ∃NN,sf P D=NN:=⟨_,rfl⟩
 rw [hNN] at HNl HNn HNd HNv;clear hD hNN;go_wp2_with fail;go_loopw [6] (λiv wr=>∃k : Nat,k<=m/\iv = .int .i64 k/\wr.ownsRow W.heap.size 3 1 (.slice a1 m c1) m ((fc NN D k).map (Value.int .i64))/\cP a1 w2 wr) (λiv _=>m - (intOf iv).toNat);case atStart=>exact ⟨0,I7 _,rfl,by rw [eQ];exact hown1,ND _ _⟩
 case round =>
  obtain ⟨k,hk,rfl,hown,honly⟩:=hrel
  have hbr : NS W wr:=hb1.trans (honly.below hap1 (by omega))
  by_cases hlt : k<m
  ·obtain ⟨hi1,hm1⟩:=Ni hown
   have ca:=hi1.cell k hlt
   have fa:=(hm1 (by omega)).2 k hlt
   have hpl1:=hi1.pl
   have hkN : NN.length=D.length:=by rw [HNl.out,Hdx.out]
   have hkD : k<D.length:=by rw [Hdx.out];exact hlt
   have hmix:=ek NN D k k hkN (by omega)
   rw [I5 (by omega)] at hmix
   rw [hmix] at ca
   have hset:=ey NN D k hkN hkD
   have Hset:=Z5 hset
   have x1:=HX.out.aa hbr
   have d0:=x1.cell 0 rfl
   have b1:=Hbx.out k
   have hP0 : P ≠ 0:=by omega
   have r5 : IntKind.i64.wrap (P - nth D k)=P - nth D k:=Jj _ (by omega)
   obtain ⟨Z,hZ⟩ : ∃Z,(P - nth D k) % P=Z:=⟨_,rfl⟩
   have r6 : (P - nth D k).tmod P=Z:=by rw [<- hZ];exact J0 _ _ (by omega)
   have R7 : Hid (nth NN k=Z):=by show _=_;rw [<- hZ];exact HNn.out k hlt
   clear hZ
   clear hmix hset hkN hkD x1
   go_wp2_with fail
   go_still_tail 13,(by kernel_rfl)
   change wpList _ _ _ _ _ wr.drew
   generalize hwd : wr.drew=wd
   have fd : wd.frozen? ⟨aj a1,aL a1+k,none⟩=false:=by rw [<- hwd];exact fa
   have cd : wd.cell? ⟨aj a1,aL a1+k,none⟩=some (.int .i64 (nth D k)):=by rw [<- hwd];exact ca
   have Hwd:=Z5 hwd
   clear hwd r5 r6
   go_wp2_with fail
   go_roundw
   case rel =>
    obtain rfl:=Hwd.out
    have hdr : bf wr wr.drew:=(No wr).drew
    refine ⟨k+1,by omega,by go_num,?_,honly.trans ((Nt hdr).trans (Nz _ k _ (by intro e;have:=hpl1 (by omega);rw [e] at this;cases this)))⟩
    have h1:=bT (w:=wr.drew) hown k hlt (.int .i64 Z)
    rw [<- Jq,<- R7.out,Hset.out] at h1
    rw [<- R7.out]
    exact h1
   case measure=>simp [intOf] <;> omega
  ·obtain rfl : k=m:=by omega
   rw [fD NN D k HNl.out Hdx.out] at hown
   have hi1:=(Ni hown).1
   have x1:=HX.out.aa hbr
   have d0:=x1.cell 0 rfl
   have d1:=x1.cell 1 rfl
   have d2:=x1.cell 2 rfl
   clear x1
   go_wp2_with fail
   refine (mj P k am mn cm a1 k c1 NN wr hi1 (by omega) (by omega) (by omega) HNd.out).mono ?_
   rintro e w4 ⟨rfl,hb4⟩
   go_wp2_with fail
   go_ret
   exact ⟨aH HNv.out,Nh (Nh hbW hbr) hb4⟩
def yG (P : Int) (a b : Lz) (i : Nat) (c : Lz) : Nat->Lz
 | 0=>c
 | j+1=>(yG P a b i c j).set (i+j) ((nth (yG P a b i c j) (i+j)+nth a i * nth b j) % P)
def uQ (P : Int) (a b : Lz) (M n : Nat) : Nat->Lz
 | 0=>List.replicate n 0
 | i+1=>yG P a b i (uQ P a b M n i) M
def tC (P : Int) (M : Nat) (mod : Lz) (i : Nat) (c : Lz) : Nat->Lz
 | 0=>c
 | j+1=>(tC P M mod i c j).set (i - M+j) ((nth (tC P M mod i c j) (i - M+j)+(P - nth (tC P M mod i c j) i) * nth mod j) % P)
def sN (P : Int) (M : Nat) (mod : Lz) (c : Lz) : Nat->Lz
 | 0=>c
 | k+1=>tC P M mod (2 * M - 2 - k) (sN P M mod c k) M
def mulL (P : Int) (M : Nat) (mod : Lz) (a b : Lz) : Lz:=(sN P M mod (uQ P a b M (2 * M - 1) M) (M - 1)).take M
def mulR (P : Int) (M : Nat) (mod : Lz) (x y : Int) : Int:=dr P (mulL P M mod (bq x P M) (bq y P M))
theorem dC.set {P : Int} {l : Lz} (h : dC P l) (i : Nat) {x : Int} (h0 : 0<=x) (h1 : x<P) : dC P (l.set i x):=by
 intro j;by_cases hi : i<l.length
 ·rw [gP _ _ _ _ hi];split
  ·exact ⟨h0,h1⟩
  ·exact h j
 ·rw [KH (by omega)];exact h j
theorem dC.zj {P : Int} (hP : 0<P) {l : Lz} (h : dC P l) (i : Nat) (x : Int) : dC P (l.set i (x % P)):=h.set i (JK _ (by omega)) (JB _ hP)
theorem vN (P : Int) (a b : Lz) (i : Nat) (c : Lz) : ∀j,(yG P a b i c j).length=c.length
 | 0=>rfl
 | j+1=>by rw [yG,KA,vN P a b i c j]
theorem vK {P : Int} (hP : 0<P) (a b : Lz) (i : Nat) {c : Lz} (h : dC P c) : ∀j,dC P (yG P a b i c j)
 | 0=>h
 | j+1=>dC.zj hP (vK hP a b i h j) _ _
theorem jt (P : Int) (a b : Lz) (M n : Nat) : ∀i,(uQ P a b M n i).length=n
 | 0=>by simp [uQ]
 | i+1=>by rw [uQ,vN,jt P a b M n i]
theorem pK {P : Int} (hP : 0<P) (a b : Lz) (M n : Nat) : ∀i,dC P (uQ P a b M n i)
 | 0=>dC.replicate hP n
 | i+1=>vK hP a b i (pK hP a b M n i) M
theorem pQ (P : Int) (M : Nat) (mod : Lz) (i : Nat) (c : Lz) : ∀j,(tC P M mod i c j).length=c.length
 | 0=>rfl
 | j+1=>by rw [tC,KA,pQ P M mod i c j]
theorem vl {P : Int} (hP : 0<P) (M : Nat) (mod : Lz) (i : Nat) {c : Lz} (h : dC P c) : ∀j,dC P (tC P M mod i c j)
 | 0=>h
 | j+1=>dC.zj hP (vl hP M mod i h j) _ _
theorem j7 (P : Int) (M : Nat) (mod : Lz) (c : Lz) : ∀k,(sN P M mod c k).length=c.length
 | 0=>rfl
 | k+1=>by rw [sN,pQ,j7 P M mod c k]
theorem pV {P : Int} (hP : 0<P) (M : Nat) (mod : Lz) {c : Lz} (h : dC P c) : ∀k,dC P (sN P M mod c k)
 | 0=>h
 | k+1=>vl hP M mod _ (pV hP M mod h k) M
theorem dC.take {P : Int} (hP : 0<P) {l : Lz} (h : dC P l) (k : Nat) : dC P (l.take k):=by
 intro i;have e : nth (l.take k) i=if i<k then nth l i else 0:=by simp only [nth,Jc,J9];split <;> rfl
 rw [e];split
 ·exact h i
 ·omega
theorem x6 (P : Int) {M : Nat} (mod : Lz) (a b : Lz) (hM : 1<=M) : (mulL P M mod a b).length=M:=by unfold mulL;rw [Jy,j7,jt];omega
theorem yB {P : Int} (hP : 0<P) (M : Nat) (mod : Lz) (a b : Lz) : dC P (mulL P M mod a b):=dC.take hP (pV hP M mod (pK hP a b M _ M) _) M
structure xQ (w : World) (P : Int) (m : Nat) (am : OA) (mn : Nat) (mod : Lz) : Prop where
 ints : Ints w am mn mod
 low : 1<m->mn=m
 dig : dC P mod
theorem xQ.aa {w w' : World} {P : Int} {m : Nat} {am : OA} {mn : Nat} {mod : Lz} (h : xQ w P m am mn mod) (hb : NS w w') : xQ w' P m am mn mod:=⟨h.ints.aa hb,h.low,h.dig⟩
theorem na {l : Lz} {k i : Nat} (h : i<k) : nth (l.take k) i=nth l i:=by simp only [nth,Jc,J9,I6 h]
theorem Ints.take {w : World} {a : OA} {n : Nat} {l : Lz} (h : Ints w a n l) {k : Nat} (hk : k<=n) : Ints w a k (l.take k) :=
 ⟨by rw [Jy,h.len];omega,λh0=>h.pl (by omega),Ji hk h.max,λi hi=>by rw [na hi];exact h.cell i (by omega)⟩
theorem qy (P : Int) (m : Nat) (am : OA) (mn cm : Nat) (mod : Lz) (x y : Int) (w : World) (hf : RF P m) (hmod : xQ w P m am mn mod) (hx : jj (aN P m) x=true) (hy : jj (aN P m) y=true) :
  Calls prog 180 #[.agg #[.int .i64 P,.int .i64 m,.slice am mn cm],.int .i64 x,.int .i64 y] w λe w'=>e = .returned (.int .i64 (mulR P m mod x y))/\NS w w':=by
 have hp2:=hf.p2;have hp256:=hf.p256;have hm1:=hf.m1;have hm8:=hf.m8;have Hx:=Z5 hx;have Hy:=Z5 hy;have Hdx:=Z5 (bN P m x);have Hdy:=Z5 (bN P m y);have Hbx:=Z5 (qb hf x);have Hby:=Z5 (qb hf y);have Hbm:=Z5 hmod.dig;have hplm:=hmod.ints.pl;have Hlow:=Z5 hmod.low;obtain ⟨n,hn⟩ : ∃n : Nat,2 * m - 1=n:=⟨_,rfl⟩
 have hn1 : m<=n:=by omega
 have hn2 : n<=15:=by omega
 have Hn:=Z5 hn;have hnv : 2 * (m : Int) - 1=n:=by omega
 have hnv2 : 2 * (m : Int) - 2=(n : Int) - 1:=by omega
 have Hnv2:=Z5 hnv2;clear hx hy hn hnv2;go_enter func180,ntmps180;go_wp2_with fail;obtain ⟨W,hW⟩ : ∃W : World,W=w.alloc (.cells #[.int .i64 P,.int .i64 m,.slice am mn cm] 24):=⟨_,rfl⟩
 rw [<- hW];have hbW : NS w W:=by rw [hW];exact aw _ _
 have x0 : aZ W w.heap.size [.int .i64 P,.int .i64 m,.slice am mn cm]:=by rw [hW];exact Nj _ _ _ rfl
 have HX:=Z5 x0;clear hW x0;have hmW:=hmod.aa hbW;refine (ie P m am mn cm x W hf Hx.out).mono ?_;rintro e w1 ⟨a1,c1,rfl,hown1,hb1⟩;have x1:=HX.out.aa hb1;have d0:=x1.cell 0 rfl;have d1:=x1.cell 1 rfl;have d2:=x1.cell 2 rfl;rw [Hdx.out] at hown1 ⊢;clear x1;go_wp2_with fail;refine (ie P m am mn cm y w1 hf Hy.out).mono ?_;rintro e w2 ⟨a2,c2,rfl,hown2,hb2⟩;rw [Hdy.out] at hown2 ⊢;have hb12:=Nh hb1 hb2;have x1:=HX.out.aa hb12;have d0:=x1.cell 0 rfl;have d1:=x1.cell 1 rfl;have d2:=x1.cell 2 rfl;have hi1:=((Ni hown1).1).aa hb2;have hi2:=(Ni hown2).1;have hpl1:=hi1.pl;have hpl2:=hi2.pl;have hm2:=hmW.aa hb12;obtain ⟨D,hD⟩ : ∃D,bq x P m=D:=⟨_,rfl⟩
 obtain ⟨E,hE⟩ : ∃E,bq y P m=E:=⟨_,rfl⟩
 have HR : Hid (mulR P m mod x y=dr P (mulL P m mod D E)):=by show _=_;rw [mulR,hD,hE]
 rw [hD] at hi1 Hdx Hbx;rw [hE] at hi2 Hdy Hby;clear hD hE hown1 hown2 x1;go_wp2_with (at_make;refine cC rfl _ _ 22 3 rfl (.int .i64 0) 8 underlying22 ba rfl n rfl rfl (by omega) (by unfold maxLen;omega) ?_;intro a3 w3 hown3 hb3 hge3 hlt3;have d0:=aB hb3 d0;have d1:=aB hb3 d1;have d2:=aB hb3 d2);have hP : 0<P:=by omega
 have hS : ∀V,NS w2 V->V.cell? ⟨w.heap.size,0,none⟩=some (.int .i64 P)/\V.cell? ⟨w.heap.size,1,none⟩=some (.int .i64 m)/\V.cell? ⟨w.heap.size,2,none⟩=some (.slice am mn cm)/\Ints V a1 m D/\Ints V a2 m E/\Ints V am mn mod:=by intro V hV;have x1:=(HX.out.aa hb12).aa hV;exact ⟨x1.cell 0 rfl,x1.cell 1 rfl,x1.cell 2 rfl,hi1.aa hV,hi2.aa hV,hm2.ints.aa hV⟩
 have HS:=Z5 hS;have HC : Hid (List.replicate n (Value.int .i64 0)=(uQ P D E m n 0).map (Value.int .i64)):=by show _=_;simp [uQ]
 rw [HC.out] at hown3;have ha3 : a3 ≠ none->w2.heap.size<=aj a3:=λ_=>hge3;have hb23:=hb12.trans (hb3.mono hb12.size);clear hS d0 d1 d2 hi1 hi2 hm2;go_loopw [10] (λiv wr=>∃i : Nat,i<=m/\iv = .int .i64 i/\wr.ownsRow w2.heap.size 3 1 (.slice a3 n n) n ((uQ P D E m n i).map (Value.int .i64))/\cP a3 w3 wr) (λiv _=>m - (intOf iv).toNat);case atStart=>exact ⟨0,I7 _,rfl,hown3,ND _ _⟩
 case round =>
  obtain ⟨i,hi,rfl,hown,honly⟩:=hrel
  have hbr : NS w2 wr:=hb3.trans (honly.below ha3 hb3.size)
  obtain ⟨d0,d1,d2,j1,j2,j3⟩:=HS.out wr hbr
  by_cases hlt : i<m
  ·have Hci : Hid (uQ P D E m n (i+1)=yG P D E i (uQ P D E m n i) m):=rfl
   have Hcd : Hid (dC P (uQ P D E m n i)):=pK hP D E m n i
   have Hcl : Hid ((uQ P D E m n i).length=n):=jt P D E m n i
   obtain ⟨C,hC⟩ : ∃C,uQ P D E m n i=C:=⟨_,rfl⟩
   rw [hC] at hown Hci Hcd Hcl
   clear hC
   go_wp2_with fail
   go_loopw [11] (λiv wr=>∃j : Nat,j<=m/\iv = .int .i64 j/\wr.ownsRow w2.heap.size 3 1 (.slice a3 n n) n ((yG P D E i C j).map (Value.int .i64))/\cP a3 w3 wr) (λiv _=>m - (intOf iv).toNat)
   case atStart=>exact ⟨0,I7 _,rfl,hown,honly⟩
   case round =>
    obtain ⟨j,hj,rfl,hown2,honly2⟩:=hrel
    have hbr2 : NS w2 wr:=hb3.trans (honly2.below ha3 hb3.size)
    obtain ⟨d0,d1,d2,j1,j2,j3⟩:=HS.out wr hbr2
    by_cases hlt2 : j<m
    ·have Hcj : Hid (yG P D E i C (j+1)=(yG P D E i C j).set (i+j) ((nth (yG P D E i C j) (i+j)+nth D i * nth E j) % P)):=rfl
     have hcd:=vK hP D E i Hcd.out j (i+j)
     obtain ⟨T,hT⟩ : ∃T,yG P D E i C j=T:=⟨_,rfl⟩
     rw [hT] at hown2 Hcj hcd
     clear hT
     have hij : i+j<n:=by have:=Hn.out;omega
     obtain ⟨it,mt⟩:=Ni hown2
     have ct:=it.cell (i+j) hij
     have ft:=(mt (by omega)).2 (i+j) hij
     have hplt:=it.pl
     have cD:=j1.cell i hlt
     have cE:=j2.cell j hlt2
     have bD:=Hbx.out i
     have bE:=Hby.out j
     have hme:=kI bD.1 (show nth D i<=256 by omega) bE.1 (show nth E j<=256 by omega)
     have hP0 : P ≠ 0:=by omega
     obtain ⟨k,hk⟩ : ∃k,i+j=k:=⟨_,rfl⟩
     rw [hk] at ct ft Hcj hcd hij
     obtain ⟨Z,hZ⟩ : ∃Z,(nth T k+nth D i * nth E j) % P=Z:=⟨_,rfl⟩
     have Hcj2 : Hid (yG P D E i C (j+1)=T.set k Z):=by show _=_;rw [Hcj.out,hZ]
     have r1 : IntKind.i64.wrap ((i : Int)+j)=(k : Int):=by rw [Jj _ (by omega)];omega
     have r2 : IntKind.i64.wrap (nth D i * nth E j)=nth D i * nth E j:=Jj _ (by omega)
     have r3 : IntKind.i64.wrap (nth T k+nth D i * nth E j)=nth T k+nth D i * nth E j:=Jj _ (by omega)
     have r4 : (nth T k+nth D i * nth E j).tmod P=Z:=by rw [<- hZ];exact J0 _ _ (by omega)
     have q1 : (0 : Int)<=k:=by omega
     have q2 : (k : Int)<n:=by omega
     clear hZ hk Hcj
     go_wp2_with fail
     go_still_tail 24,(by kernel_rfl)
     change wpList _ _ _ _ _ wr.drew
     generalize hwd : wr.drew=wd
     have fd : wd.frozen? ⟨aj a3,aL a3+k,none⟩=false:=by rw [<- hwd];exact ft
     have cd : wd.cell? ⟨aj a3,aL a3+k,none⟩=some (.int .i64 (nth T k)):=by rw [<- hwd];exact ct
     have Hwd:=Z5 hwd
     clear hwd r1 r2 r3 r4
     go_wp2_with fail
     go_roundw
     case rel =>
      obtain rfl:=Hwd.out
      have hdr : bf wr wr.drew:=(No wr).drew
      refine ⟨j+1,by omega,by go_num,?_,honly2.trans ((Nt hdr).trans (Nz _ k _ (by intro e;have:=hplt (by omega);rw [e] at this;cases this)))⟩
      have h1:=bT (w:=wr.drew) hown2 k hij (.int .i64 Z)
      rw [<- Jq,<- Hcj2.out] at h1
      exact h1
     case measure=>simp [intOf] <;> omega
    ·obtain rfl : j=m:=by omega
     go_wp2_with fail
     go_roundw
     case rel=>exact ⟨i+1,by omega,by go_num,by rw [Hci.out];exact hown2,honly2⟩
     case measure=>simp [intOf] <;> omega
  ·obtain rfl : i=m:=by omega
   have hw2:=Hnv2.out
   obtain ⟨C,hC⟩ : ∃C,uQ P D E i n i=C:=⟨_,rfl⟩
   have Hcd : Hid (dC P C):=by show dC P C;rw [<- hC];exact pK hP D E i n i
   have Hcl : Hid (C.length=n):=by show _=_;rw [<- hC];exact jt P D E i n i
   have HL : Hid (mulL P i mod D E=(sN P i mod C (i - 1)).take i):=by show _=_;rw [mulL,Hn.out,hC]
   rw [hC] at hown
   clear hC
   go_wp2_with fail
   clear hw2 hnv
   go_loopw [12] (λiv wr=>∃k t : Nat,t+k+1=n/\k<=i - 1/\iv = .int .i64 t/\wr.ownsRow w2.heap.size 3 1 (.slice a3 n n) n ((sN P i mod C k).map (Value.int .i64))/\cP a3 w3 wr) (λiv _=>(intOf iv).toNat)
   case atStart=>exact ⟨0,n - 1,by omega,by omega,by congr 1;omega,hown,honly⟩
   case round =>
    obtain ⟨k,t,htk,hk,rfl,hownk,honlyk⟩:=hrel
    have hbk : NS w2 wr:=hb3.trans (honlyk.below ha3 hb3.size)
    obtain ⟨d0,d1,d2,j1,j2,j3⟩:=HS.out wr hbk
    by_cases hti : i<=t
    ·have hn':=Hn.out
     have hi1 : 1<i:=by omega
     have hmn:=Hlow.out hi1
     have Hrk : Hid (sN P i mod C (k+1)=tC P i mod t (sN P i mod C k) i):=by show _=_;rw [sN,show 2 * i - 2 - k=t by omega]
     have Hrd : Hid (dC P (sN P i mod C k)):=pV hP i mod Hcd.out k
     have Hrl : Hid ((sN P i mod C k).length=n):=by show _=_;rw [j7];exact Hcl.out
     obtain ⟨C2,hC2⟩ : ∃C2,sN P i mod C k=C2:=⟨_,rfl⟩
     rw [hC2] at hownk Hrk Hrd Hrl
     have Htk:=Z5 htk
     clear hC2 hn'
     go_wp2_with fail
     go_loopw [13] (λiv wr=>∃j : Nat,j<=i/\iv = .int .i64 j/\wr.ownsRow w2.heap.size 3 1 (.slice a3 n n) n ((tC P i mod t C2 j).map (Value.int .i64))/\cP a3 w3 wr) (λiv _=>i - (intOf iv).toNat)
     case atStart=>exact ⟨0,I7 _,rfl,hownk,honlyk⟩
     case round =>
      obtain ⟨j,hj,rfl,hown2,honly2⟩:=hrel
      have hbr2 : NS w2 wr:=hb3.trans (honly2.below ha3 hb3.size)
      obtain ⟨d0,d1,d2,j1,j2,j3⟩:=HS.out wr hbr2
      by_cases hlt2 : j<i
      ·have Hcj : Hid (tC P i mod t C2 (j+1)=(tC P i mod t C2 j).set (t - i+j) ((nth (tC P i mod t C2 j) (t - i+j)+(P - nth (tC P i mod t C2 j) t) * nth mod j) % P)):=rfl
       have hcd:=vl hP i mod t Hrd.out j
       obtain ⟨T,hT⟩ : ∃T,tC P i mod t C2 j=T:=⟨_,rfl⟩
       rw [hT] at hown2 Hcj hcd
       clear hT
       obtain ⟨it,mt⟩:=Ni hown2
       obtain ⟨u,hu⟩ : ∃u,t - i+j=u:=⟨_,rfl⟩
       have hun : u<n:=by omega
       have htn : t<n:=by omega
       have hjmn : j<mn:=by omega
       have ct:=it.cell u hun
       have ctt:=it.cell t htn
       have cM:=j3.cell j hjmn
       have ft:=(mt (by omega)).2 u hun
       have hplt:=it.pl
       have b1:=hcd u
       have b2:=hcd t
       have b3:=Hbm.out j
       have hme:=kI (show 0<=P - nth T t by omega) (show P - nth T t<=256 by omega) b3.1 (show nth mod j<=256 by omega)
       have hP0 : P ≠ 0:=by omega
       rw [hu] at Hcj
       obtain ⟨Z,hZ⟩ : ∃Z,(nth T u+(P - nth T t) * nth mod j) % P=Z:=⟨_,rfl⟩
       have Hcj2 : Hid (tC P i mod t C2 (j+1)=T.set u Z):=by show _=_;rw [Hcj.out,hZ]
       obtain ⟨v,hv⟩ : ∃v,t - i=v:=⟨_,rfl⟩
       have r0 : IntKind.i64.wrap ((t : Int) - i)=(v : Int):=by rw [Jj _ (by omega)];omega
       have r1 : IntKind.i64.wrap ((v : Int)+j)=(u : Int):=by rw [Jj _ (by omega)];omega
       have r2 : IntKind.i64.wrap (P - nth T t)=P - nth T t:=Jj _ (by omega)
       have r3 : IntKind.i64.wrap ((P - nth T t) * nth mod j)=(P - nth T t) * nth mod j:=Jj _ (by omega)
       have r4 : IntKind.i64.wrap (nth T u+(P - nth T t) * nth mod j)=nth T u+(P - nth T t) * nth mod j:=Jj _ (by omega)
       have r5 : (nth T u+(P - nth T t) * nth mod j).tmod P=Z:=by rw [<- hZ];exact J0 _ _ (by omega)
       have q1 : (0 : Int)<=u:=by omega
       have q2 : (u : Int)<n:=by omega
       have q3 : (t : Int)<n:=by omega
       have q4 : (j : Int)<mn:=by omega
       clear hZ hu hv Hcj htk hmn
       go_wp2_with fail
       go_still_tail 34,(by kernel_rfl)
       change wpList _ _ _ _ _ wr.drew
       generalize hwd : wr.drew=wd
       have fd : wd.frozen? ⟨aj a3,aL a3+u,none⟩=false:=by rw [<- hwd];exact ft
       have cd : wd.cell? ⟨aj a3,aL a3+u,none⟩=some (.int .i64 (nth T u)):=by rw [<- hwd];exact ct
       have Hwd:=Z5 hwd
       clear hwd r0 r1 r2 r3 r4 r5
       go_wp2_with fail
       go_roundw
       case rel =>
        obtain rfl:=Hwd.out
        have hdr : bf wr wr.drew:=(No wr).drew
        refine ⟨j+1,by omega,by go_num,?_,honly2.trans ((Nt hdr).trans (Nz _ u _ (by intro e;have:=hplt (by omega);rw [e] at this;cases this)))⟩
        have h1:=bT (w:=wr.drew) hown2 u hun (.int .i64 Z)
        rw [<- Jq,<- Hcj2.out] at h1
        exact h1
       case measure=>simp [intOf] <;> omega
      ·obtain rfl : j=i:=by omega
       go_wp2_with fail
       go_roundw
       case rel=>exact ⟨k+1,t - 1,by have:=Htk.out;omega,by have:=Htk.out;have:=Hn.out;omega,by congr 1;omega,by rw [Hrk.out];exact hown2,honly2⟩
       case measure=>simp [intOf] <;> omega
    ·have hki : k=i - 1:=by have:=Hn.out;omega
     have hfin : Hid (dr P ((sN P i mod C k).take i)=mulR P i mod x y):=by show _=_;rw [HR.out,HL.out,hki]
     have hdig : dC P ((sN P i mod C k).take i):=dC.take hP (pV hP i mod Hcd.out k) i
     have hlen : ((sN P i mod C k).take i).length=i:=by rw [Jy,j7,Hcl.out];omega
     have hbd:=dC.IC hf hdig hlen
     have hit:=(Ni hownk).1
     have hin : i<=n:=hn1
     have hit2 : Ints wr a3 i ((sN P i mod C k).take i):=hit.take hin
     have Hbd:=Z5 hbd
     have hin' : (i : Int)<=n:=by omega
     have hbwr : NS w wr:=(Nh hbW hb12).trans (hbk.mono (by have h1:=hb12.size;have h2:=hbW.size;omega))
     have hS2 : ∀V,NS wr V->V.cell? ⟨w.heap.size,0,none⟩=some (.int .i64 P)/\V.cell? ⟨w.heap.size,1,none⟩=some (.int .i64 i)/\V.cell? ⟨w.heap.size,2,none⟩=some (.slice am mn cm)/\NS wr V :=
      λV hV=>⟨aB hV d0,aB hV d1,aB hV d2,hV⟩
     have HS2:=Z5 hS2
     have Hit2 : Hid (∀V,NS wr V->Ints V a3 i ((sN P i mod C k).take i)):=λV hV=>hit2.aa hV
     clear hki hlen hdig hbd hS2 hit hit2 htk
     go_wp2_with fail
     go_region_held3 (λV=>V.cell? ⟨w.heap.size,0,none⟩=some (.int .i64 P)/\V.cell? ⟨w.heap.size,1,none⟩=some (.int .i64 i)/\V.cell? ⟨w.heap.size,2,none⟩=some (.slice am mn cm)/\NS wr V)
      ((refine HS2.out _ ?_;first | exact (I1 _ _).drew | (go_split_ands;exact Nh (by assumption) (by assumption))))
      (first
       | (go_at_call 230;((with_reducible refine (mj P i am mn cm a3 i n _ _ (Hit2.out _ (I1 _ _).drew) (by omega) (by omega) (by omega) Hbd.out).mono ?_);rintro e w4 ⟨rfl,hb4⟩)))
     go_wp2_with fail
     go_ret
     exact ⟨aH hfin.out,Nh hbwr (by go_split_ands;assumption)⟩
structure rZ (w : World) (P : Int) (m : Nat) (am : OA) (mn : Nat) (mod : Lz) : Prop where
 rf : RF P m
 mods : xQ w P m am mn mod
theorem rZ.aa {w w' : World} {P : Int} {m : Nat} {am : OA} {mn : Nat} {mod : Lz} (h : rZ w P m am mn mod) (hb : NS w w') : rZ w' P m am mn mod:=⟨h.rf,h.mods.aa hb⟩
theorem RF.jj {P : Int} {m : Nat} (h : RF P m) {x : Int} (hx : e9 P m x) : jj (aN P m) x=true:=by unfold Proofs.YtcfmiocdlcapoaaGreat.jj;rw [h.order];simp [hx.1,hx.2]
theorem vb {P : Int} {m : Nat} (h : RF P m) (mod : Lz) (x y : Int) : e9 P m (mulR P m mod x y):=by
 have hP : 0<P:=by have:=h.p2;omega
 have:=nB hP (mulL P m mod (bq x P m) (bq y P m)) (yB hP m mod _ _);rwa [x6 P mod _ _ h.m1] at this
def gT (f : Int->Int) : Nat->Int->Int
 | 0,_=>0
 | n+1,y=>if f y=1 then y else gT f n (y+1)
def gy (P : Int) (m : Nat) (mod : Lz) (x : Int) : Int:=gT (mulR P m mod x) ((aN P m).toNat - 1) 1
def ia (P : Int) (m : Nat) (mod : Lz) : aS:=⟨eh P m,mulR P m mod,fK P m,gy P m mod⟩
theorem xK (f : Int->Int) : ∀(n : Nat) (y : Int),0<=y->0<=gT f n y/\(gT f n y<y+n\/gT f n y=0)
 | 0,y,h=>by simp [gT]
 | n+1,y,h=>by
  unfold gT;split
  ·omega
  ·have:=xK f n (y+1) (by omega);omega
theorem AA {P : Int} {m : Nat} (h : RF P m) (mod : Lz) (x : Int) : e9 P m (gy P m mod x):=by have h1:=xK (mulR P m mod x) ((aN P m).toNat - 1) 1 (by omega);have h2:=h.order;have h3:=one_lt_pow h.res;unfold gy e9;omega
theorem IU {P : Int} {m : Nat} (h : RF P m) (mod : Lz) : vO (ia P m mod) (e9 P m) :=
 ⟨λx y _ _=>gO h.res x y,λx y _ _=>vb h mod x y,λx _=>uC h.res x,λx _ _=>AA h mod x⟩
theorem xR (P : Int) (m : Nat) (am : OA) (mn cm : Nat) (mod : Lz) (x : Int) (w : World) (hf : rZ w P m am mn mod) (hx : e9 P m x) :
  Calls prog 116 #[.agg #[.int .i64 P,.int .i64 m,.slice am mn cm],.int .i64 x] w λe w'=>e = .returned (.int .i64 (gy P m mod x))/\NS w w':=by
 have hrf:=hf.rf;have Hq:=Z5 (hrf.jj hx);have hord:=hrf.order;have h256:=hrf.pw;obtain ⟨q,hq⟩ : ∃q : Nat,P ^ m=q:=⟨(P ^ m).toNat,by have:=one_lt_pow hrf.res;omega⟩
 have hq2 : 2<=q:=by have:=one_lt_pow hrf.res;omega
 have hord2 : aN P m=q:=by rw [hord,hq]
 have Hord:=Z5 hord2;have HI : Hid (gy P m mod x=gT (mulR P m mod x) (q - 1) 1):=by show _=_;rw [gy,hord2];simp
 have Hel : Hid (∀k : Nat,k<q->jj (aN P m) k=true):=λk hk=>hrf.jj ⟨by omega,by rw [hq];omega⟩;have hq256 : q<=256:=by omega
 clear hord hq hord2 h256;go_enter func116,ntmps116;go_wp2_with fail;obtain ⟨W,hW⟩ : ∃W : World,W=w.alloc (.cells #[.int .i64 P,.int .i64 m,.slice am mn cm] 24):=⟨_,rfl⟩
 rw [<- hW];have hbW : NS w W:=by rw [hW];exact aw _ _
 have x0 : aZ W w.heap.size [.int .i64 P,.int .i64 m,.slice am mn cm]:=by rw [hW];exact Nj _ _ _ rfl
 have HX:=Z5 x0;clear hW x0;have hfW:=hf.aa hbW;go_loopw [5] (λyv wr=>∃y : Nat,1<=y/\y<=q/\yv = .int .i64 y/\Hid (gy P m mod x=gT (mulR P m mod x) (q - y) y)/\NS W wr) (λyv _=>q - (intOf yv).toNat);case atStart=>exact ⟨1,by omega,by omega,rfl,by show _=_;rw [HI.out];rfl,I1 _ _⟩
 case round =>
  obtain ⟨y,hy1,hyq,rfl,hinv,hbr⟩:=hrel
  have x1:=HX.out.aa hbr
  have d0:=x1.cell 0 rfl
  have d1:=x1.cell 1 rfl
  have d2:=x1.cell 2 rfl
  clear x1
  go_wp2_with fail
  refine (fW P m am mn cm wr).mono ?_
  rintro e w1 ⟨rfl,hb1⟩
  rw [Hord.out]
  have hbr1:=Nh hbr hb1
  have x1:=HX.out.aa hbr1
  have d0:=x1.cell 0 rfl
  have d1:=x1.cell 1 rfl
  have d2:=x1.cell 2 rfl
  clear x1
  by_cases hlt : y<q
  ·have hlt' : (y : Int)<q:=by omega
   have hst : gT (mulR P m mod x) (q - y) y=if mulR P m mod x y=1 then (y : Int) else gT (mulR P m mod x) (q - (y+1)) (y+1):=by rw [show q - y=(q - (y+1))+1 by omega,gT]
   have Hst:=Z5 hst
   clear hst
   go_wp2_with fail
   refine (qy P m am mn cm mod x y w1 hrf ((hfW.aa hbr1).mods) Hq.out (Hel.out y hlt)).mono ?_
   rintro e w2 ⟨rfl,hb2⟩
   have hbr2:=Nh hbr1 hb2
   by_cases h1 : mulR P m mod x y=1
   ·have Hf : Hid (gy P m mod x=y):=by show _=_;rw [hinv.out,Hst.out,I6 h1]
    rw [h1]
    clear h1
    go_wp2_with fail
    go_ret
    exact ⟨aH Hf.out.symm,Nh hbW hbr2⟩
   ·have Hf : Hid (gy P m mod x=gT (mulR P m mod x) (q - (y+1)) ((y+1 : Nat) : Int)):=by show _=_;rw [hinv.out,Hst.out,I5 h1];rfl
    have h1' : (mulR P m mod x y == 1)=false:=by simpa using h1
    clear h1
    go_wp2_with fail
    go_roundw
    case rel=>exact ⟨y+1,by omega,by omega,by go_num,Hf.out,hbr2⟩
    case measure=>simp [intOf] <;> omega
  ·obtain rfl : y=q:=by omega
   have Hf : Hid (gy P m mod x=0):=by show _=_;rw [hinv.out,KK];rfl
   go_wp2_with fail
   go_ret
   exact ⟨aH Hf.out.symm,Nh hbW hbr1⟩
theorem Ao (P : Int) (m : Nat) (am : OA) (mn cm : Nat) (mod : Lz) (s : Int) (a : OA) (n c : Nat) (l : Lz) (w : World) (hf : rZ w P m am mn mod) (hs : e9 P m s) (hi : Ints w a n l) (hl : ∀x ∈ l,e9 P m x) (hn : n<=1000000) :
  Calls prog 232 #[.agg #[.int .i64 P,.int .i64 m,.slice am mn cm],.int .i64 s,.slice a n c] w (dh w (l.map (mulR P m mod s))):=by
 have hrf:=hf.rf;have Hs:=Z5 (hrf.jj hs);have Hlen:=Z5 hi.len;have hpl:=hi.pl;have Hl : Hid (∀k,k<n->jj (aN P m) (nth l k)=true):=λk hk=>hrf.jj (hl _ (aK (by rw [hi.len];exact hk)));clear hl;go_enter func232,ntmps232;go_wp2_with (at_make;refine cC rfl _ _ 22 3 rfl (.int .i64 0) 8 underlying22 ba rfl n rfl rfl (by omega) (by unfold maxLen;omega) ?_;intro a1 w1 hown hbel hge hlt);obtain ⟨W,hW⟩ : ∃W : World,W=w.alloc (.cells #[.int .i64 P,.int .i64 m,.slice am mn cm] 24):=⟨_,rfl⟩
 rw [<- hW] at hown hbel hge;have hbW : NS w W:=by rw [hW];exact aw _ _
 have x0 : aZ W w.heap.size [.int .i64 P,.int .i64 m,.slice am mn cm]:=by rw [hW];exact Nj _ _ _ rfl
 have hfW:=hf.aa hbW;have hiW:=hi.aa hbW;have hS : ∀k,k<n->∀V,NS W V->V.cell? ⟨w.heap.size,0,none⟩=some (.int .i64 P)/\V.cell? ⟨w.heap.size,1,none⟩=some (.int .i64 m)/\V.cell? ⟨w.heap.size,2,none⟩=some (.slice am mn cm) /\
   V.cell? ⟨aj a,aL a+k,none⟩=some (.int .i64 (nth l k))/\NS W V:=by intro k hk V hV;have x1:=x0.aa hV;exact ⟨x1.cell 0 rfl,x1.cell 1 rfl,x1.cell 2 rfl,(hiW.aa hV).cell k hk,hV⟩
 have HS:=Z5 hS;clear hW x0 hS;go_loopw [8] (λiv wr=>∃k : Nat,k<=n/\iv = .int .i64 k /\
   wr.ownsRow W.heap.size 3 1 (.slice a1 n n) n ((cU ((l.take k).map (mulR P m mod s)) k n).map (Value.int .i64))/\NS W wr)
  (λi _=>n - (intOf i).toNat)
 case atStart=>exact ⟨0,I7 _,rfl,by simpa [cU] using hown,hbel⟩
 case round =>
  obtain ⟨k,hk,rfl,hown,hbel⟩:=hrel
  obtain ⟨hints,hmine⟩:=Ni hown
  have hpl1:=hints.pl
  by_cases hlt : k<n
  ·have HSk : Hid (∀V, NS W V -> V.cell? ⟨w.heap.size, 0, none⟩ = some (.int .i64 P) /\ V.cell? ⟨w.heap.size, 1, none⟩ = some (.int .i64 m) /\ V.cell? ⟨w.heap.size, 2, none⟩ = some (.slice am mn cm) /\
     V.cell? ⟨aj a,aL a+k,none⟩=some (.int .i64 (nth l k))/\NS W V):=HS.out k hlt
   have hB:=(hmine (by omega)).1
   have HB:=Z5 hB
   have Hbel:=Z5 hbel
   have HK : Hid (∀V,Below wr.drew.heap.size wr.drew V->(∃v,V.cell? ⟨aj a1,aL a1+k,none⟩=some v)/\V.frozen? ⟨aj a1,aL a1+k,none⟩=false/\NS wr V):=λV hV=>by have hV' : NS wr V:=Nh (I1 _ _).drew hV;have ho:=aX hown hV';exact ⟨⟨_,(Ni ho).1.cell k hlt⟩,((Ni ho).2 (by omega)).2 k hlt,hV'⟩
   have hmd:=(hfW.aa hbel).mods
   have Hmd : Hid (xQ wr.drew P m am mn mod):=hmd.aa (I1 _ _).drew
   clear hB hbel hmd
   go_wp2_with fail
   go_region_held3 (λV=>V.cell? ⟨w.heap.size,0,none⟩=some (.int .i64 P)/\V.cell? ⟨w.heap.size,1,none⟩=some (.int .i64 m)/\V.cell? ⟨w.heap.size,2,none⟩=some (.slice am mn cm) /\
     V.cell? ⟨aj a,aL a+k,none⟩=some (.int .i64 (nth l k))/\NS W V)
    ((refine HSk.out _ ?_;first | exact Hbel.out.drew | exact Nh Hbel.out hb9 | exact (Nh Hbel.out hb9).setCell HB.out _))
    (first
     | (go_at_call 180;((with_reducible refine (qy P m am mn cm mod s (nth l k) _ hrf Hmd.out Hs.out (Hl.out k hlt)).mono ?_);rintro e w4 ⟨rfl,hb4⟩;obtain ⟨⟨v9,k9⟩,f9,hb9⟩:=HK.out w4 hb4)))
   clear k9 f9
   go_wp2_with fail
   go_roundw
   case rel =>
    refine ⟨k+1,by omega,by go_num,?_,(Nh Hbel.out hb9).setCell HB.out _⟩
    have h:=bT (aX hown hb9) k hlt (.int .i64 (mulR P m mod s (nth l k)))
    rw [<- Jq,eO _ _ _ _ (by simp [Hlen.out];omega) hlt] at h
    rw [Ja (by rw [Hlen.out];omega),JR]
    rw [ai (by rw [Hlen.out];omega)] at h ⊢
    exact h
   case measure=>simp [intOf] <;> omega
  ·obtain rfl : k=n:=by omega
   have hfin : cU ((l.take k).map (mulR P m mod s)) k k=l.map (mulR P m mod s):=by rw [fy,I8 (by rw [Hlen.out];exact IZ _)]
   rw [hfin] at hown
   have Hl2 : Hid ((l.map (mulR P m mod s)).length=k):=by show _=_;simp [Hlen.out]
   clear hfin
   go_wp2_with fail
   go_ret
   exact ⟨a1,k,by rw [Hl2.out];rfl,by rw [Hl2.out];exact aU hown hbW.size,Nh hbW hbel⟩
section
structure F8 (O O' : aS) (El : Int->Prop) : Prop where
 add : ∀x y,El x->El y->O.add x y=O'.add x y
 mul : ∀x y,El x->El y->O.mul x y=O'.mul x y
 neg : ∀x,El x->O.neg x=O'.neg x
 inv : ∀x,El x->x ≠ 0->O.inv x=O'.inv x
variable {O O' : aS} {El : Int->Prop}
theorem ka (h : F8 O O' El) (hO : vO O El) : ∀(v u : Lz) (s : Int),(∀x ∈ v,El x)->(∀x ∈ u,El x)->El s->bP O v s u=bP O' v s u
 | [],_,_,_,_,_=>by simp [bP]
 | _ :: _,[],_,_,_,_=>by simp [bP]
 | x :: v,y :: u,s,hv,hu,hs=>by have ih:=ka h hO v u s (λz hz=>hv z (by simp [hz])) (λz hz=>hu z (by simp [hz])) hs;unfold bP at ih ⊢;have hx:=hv x (by simp);have hy:=hu y (by simp);simp only [Kt,ih];rw [h.mul s y hs hy,h.add x _ hx (by rw [<- h.mul s y hs hy];exact hO.mul s y hs hy)]
theorem uZ (h : F8 O O' El) (hO : vO O El) {pv r : Lz} {c m : Nat} (hc : c<m) (hp : pv.length=m/\∀x ∈ pv,El x) (hr : r.length=m/\∀x ∈ r,El x) : bY O pv c r=bY O' pv c r:=by
 have hel : El (nth r c):=hr.2 _ (aK (by omega));unfold bY;rw [h.neg _ hel];split
 ·rfl
 ·exact ka h hO _ _ _ hr.2 hp.2 (by rw [<- h.neg _ hel];exact hO.neg _ hel)
theorem oU (h : F8 O O' El) (hO : vO O El) {m : Nat} {L : Ll} (hL : cw El m L) {t c : Nat} (ht : t<L.length) (hc : c<m) : ∀i,i<=L.length->aR O t c L i=aR O' t c L i
 | 0,_=>rfl
 | i+1,hi=>by
  have ih:=oU h hO hL ht hc i (by omega);have hR:=Nv hO hL ht hc i (by omega);have hl:=cY O t c L i;unfold aR;rw [<- ih];split
  ·rfl
  ·rw [uZ h hO hc (hR.row (by omega)) (hR.row (by omega))]
theorem xj (h : F8 O O' El) (hO : vO O El) {m : Nat} {L : Ll} (hL : cw El m L) {t c : Nat} (ht : t<L.length) (hc : c<m) (h0 : nth (an L t) c ≠ 0) : bm O L t c=bm O' L t c:=by
 have hr:=hL.row ht;have hel : El (nth (an L t) c):=hr.2 _ (aK (by omega));unfold bm;rw [h.inv _ hel h0];split
 ·rfl
 ·congr 1;refine Kb λx hx=>?_;exact h.mul _ _ (by rw [<- h.inv _ hel h0];exact hO.inv _ hel h0) (hr.2 x hx)
theorem zH (h : F8 O O' El) (hO : vO O El) {m : Nat} {L : Ll} (hL : cw El m L) {t k c : Nat} (ht : t<L.length) (hk : k<L.length) (hc : c<m) (h0 : nth (an L k) c ≠ 0) (htk : t<=k) :
  ed O L t k c=ed O' L t k c/\cw El m (ed O L t k c):=by
 have hL1 : cw El m (if k=t then L else bh L t k):=by split;exact hL;exact hL.swap ht hk
 have hl1 : (if k=t then L else bh L t k).length=L.length:=by split;rfl;exact dJ _ _ _
 have hn1 : nth (an (if k=t then L else bh L t k) t) c ≠ 0:=by
  split
  ·rename_i e;subst e;exact h0
  ·rename_i e;have : an (bh L t k) t=an L k:=by unfold bh;rw [fA _ _ _ _ (by simpa using hk),I5 (by omega),fA _ _ _ _ ht,I6 rfl]
   rw [this];exact h0
 rw [gN,gN,<- xj h hO hL1 (by omega) hc hn1];have hL2:=hL1.norm hO (t:=t) (c:=c) (by omega) hc hn1;have hl2 : (bm O (if k=t then L else bh L t k) t c).length=L.length:=by rw [cZ,hl1]
 exact ⟨oU h hO hL2 (by omega) hc _ (by omega),Nv hO hL2 (by omega) hc _ (by omega)⟩
theorem fV (h : F8 O O' El) (hO : vO O El) {m : Nat} {L : Ll} (hL : cw El m L) : ∀k,k<=m->aD O L k=aD O' L k/\cw El m (aD O L k).1
 | 0,_=>⟨rfl,hL⟩
 | k+1,hk=>by
  obtain ⟨h1,h2⟩:=fV h hO hL k (by omega);obtain ⟨Lk,P,hLP⟩ : ∃Lk P,aD O L k=(Lk,P):=⟨_,_,rfl⟩
  rw [hLP] at h1 h2;have hlen : Lk.length=L.length:=by have:=b9 O L k;rw [hLP] at this;exact this
  by_cases hlt : P.length<Lk.length
  ·rw [du hLP.symm hlt,du h1 hlt];by_cases hf : bn Lk k P.length=Lk.length
   ·rw [I6 hf,I6 hf];exact ⟨rfl,h2⟩
   ·rw [I5 hf,I5 hf];have hb:=my (L:=Lk) (c:=k) (k:=P.length) (by omega);have hne : nth (an Lk (bn Lk k P.length)) k ≠ 0:=jw Lk k (Lk.length - P.length) P.length (by have : en Lk k P.length (Lk.length - P.length)=bn Lk k P.length:=rfl;omega);have hlt2 : bn Lk k P.length<Lk.length:=by omega
    have:=zH h hO (L:=Lk) h2 (t:=P.length) (k:=bn Lk k P.length) (c:=k) hlt hlt2 (by omega) hne hb.1;exact ⟨by rw [this.1],this.2⟩
  ·have e : ∀(O : aS),aD O L k=(Lk,P)->aD O L (k+1)=(Lk,P):=λO he=>by rw [aD];simp only [he];rw [I5 hlt]
   rw [e O hLP,e O' h1.symm];exact ⟨rfl,h2⟩
end
section
variable {P : Int} {M : Nat} {low : Nat->Int}
def zA (M : Nat) (low : Nat->Int) (n : Nat) (c : Lz) : Nat->Int:=λi=>sm n (λk=>nth c k * fh M low k (eV 0) i)
theorem Gu {n k : Nat} {c : Lz} {z : Int} (f : Nat->Int) (hk : k<n) (hl : k<c.length) : sm n (λj=>nth (c.set k z) j * f j)=sm n (λj=>nth c j * f j)+(z - nth c k) * f k:=by
 have h1 : sm n (λj=>nth (c.set k z) j * f j)=sm n (λj=>nth c j * f j+(if j=k then (z - nth c k) * f k else 0)):=bZ λj _=>by
  rw [gP _ _ _ _ hl];by_cases e : j=k
  ·subst e;rw [I6 rfl,I6 rfl,Ms];omega
  ·rw [I5 e,I5 e];omega
 rw [h1,vE];congr 1;rw [jJ hk λi _ hne=>I5 hne,I6 rfl]
theorem wg {n k : Nat} {c : Lz} {d : Int} (hk : k<n) (hl : k<c.length) :
  Cg P (zA M low n (c.set k ((nth c k+d) % P))) (λi=>zA M low n c i+d * fh M low k (eV 0) i):=λi=>by
 simp only [zA];rw [Gu (λj=>fh M low j (eV 0) i) hk hl];obtain ⟨e,he⟩:=oo P (nth c k+d);refine ⟨e * fh M low k (eV 0) i,?_⟩;have h1 : (nth c k+d) % P - nth c k=d+P * e:=by omega
 rw [h1,Mq,J1];omega
theorem DM {a b : Lz} {i n : Nat} {c : Lz} (hl : c.length=n) : ∀j,i+j<=n ->
  Cg P (zA M low n (yG P a b i c j)) (λs=>zA M low n c s+sm j (λj=>nth a i * nth b j * fh M low (i+j) (eV 0) s))
 | 0,_=>NC (by funext s;simp [yG,sm])
 | j+1,hj=>by have ih:=DM (a:=a) (b:=b) (i:=i) hl j (by omega);rw [yG];refine (wg (by omega) (by rw [vN];omega)).trans ((Cg.add ih (NI P _)).trans (NC ?_));funext s;simp only [sm];omega
theorem DY {a b : Lz} {n : Nat} (hn : 2 * M - 1<=n) (hM : 1<=M) : ∀i,i<=M ->
  Cg P (zA M low n (uQ P a b M n i)) (λs=>sm i (λi=>sm M (λj=>nth a i * nth b j * fh M low (i+j) (eV 0) s)))
 | 0,_=>NC (by
  funext s;simp only [zA,uQ,sm];rw [bZ (g:=λ_=>0) λk _=>by
   have : nth (List.replicate n 0) k=0:=by simp only [nth,Jc,JX];split <;> rfl
   rw [this,Int.zero_mul],jl])
 | i+1,hi=>by have ih:=DY (a:=a) (b:=b) hn hM i (by omega);rw [uQ];refine (DM (jt P a b M n i) M (by omega)).trans ((Cg.add ih (NI P _)).trans (NC ?_));funext s;simp only [sm]
theorem Ir (hM : 1<=M) : fh M low M (eV 0)=λi=>if i<M then - low i else 0:=by
 obtain ⟨m,rfl⟩ : ∃m,M=m+1:=⟨M - 1,by omega⟩
 rw [fh,Ay m (by omega)];funext i;simp only [sC,eV];by_cases h : i<m+1
 ·rw [I6 h,I6 h,JU];by_cases h0 : i=0
  ·rw [I6 h0,I6 rfl];omega
  ·rw [I5 h0,I5 (by omega),I6 rfl];omega
 ·rw [I5 h,I5 h]
theorem Gx (hM : 1<=M) (t : Nat) : (λs=>sm M (λj=>low j * fh M low (t+j) (eV 0) s))=λs=>- fh M low (t+M) (eV 0) s:=by
 have h1 : (λs=>sm M (λj=>low j * fh M low (t+j) (eV 0) s))=fh M low t (λs=>sm M (λj=>low j * fh M low j (eV 0) s)):=by rw [uu];funext s;refine bZ λj _=>?_;rw [jL,nH]
 have h2 : (λs=>sm M (λj=>low j * fh M low j (eV 0) s))=λs=>(-1) * fh M low M (eV 0) s:=by
  funext s;rw [congrFun (Ir (low:=low) hM) s];have h3 : sm M (λj=>low j * fh M low j (eV 0) s)=sm M (λj=>low j * eV j s):=bZ λj hj=>by rw [Ay j hj]
  rw [h3];by_cases hs : s<M
  ·rw [jJ hs λi _ hne=>by simp only [eV];rw [I5 (by omega)];omega];rw [I6 hs];simp [eV]
  ·rw [I5 hs,bZ (g:=λ_=>0) λj hj=>by simp only [eV];rw [I5 (by omega)];omega,jl];rfl
 rw [h1,h2,jL];funext s;rw [<- nH];omega
theorem AK {mod : Lz} {i : Nat} {c : Lz} (hi : M<=i) (hl : i<c.length) : ∀j,j<=M->nth (tC P M mod i c j) i=nth c i
 | 0,_=>rfl
 | j+1,hj=>by rw [tC,gP _ _ _ _ (by rw [pQ];omega),I5 (by omega)];exact AK hi hl j (by omega)
theorem EP {mod : Lz} {i : Nat} {c : Lz} (hi : M<=i) (hl : i<c.length) : ∀j,j<=M ->
  Cg P (zA M low i (tC P M mod i c j)) (λs=>zA M low i c s+(- nth c i) * sm j (λj=>nth mod j * fh M low (i - M+j) (eV 0) s))
 | 0,_=>NC (by funext s;simp [tC,sm])
 | j+1,hj=>by have ih:=EP (mod:=mod) hi hl j (by omega);rw [tC,AK hi hl j (by omega)];refine (wg (by omega) (by rw [pQ];omega)).trans ?_;refine (Cg.add ih (NI P _)).trans ?_;intro s;simp only [sm];generalize sm j (λj=>nth mod j * fh M low (i - M+j) (eV 0) s)=X;generalize fh M low (i - M+j) (eV 0) s=Y;refine ⟨nth mod j * Y,?_⟩;simp only [Ko,Ms,Int.neg_mul,J1];omega
theorem D0 {mod : Lz} (hM : 1<=M) (hlow : ∀j,low j=nth mod j) {c : Lz} (hl : c.length=2 * M - 1) : ∀k,k<=M - 1 ->
  Cg P (zA M low (2 * M - 1 - k) (sN P M mod c k)) (zA M low (2 * M - 1) c)
 | 0,_=>NI P _
 | k+1,hk=>by
  have ih:=D0 hM hlow hl k (by omega);rw [sN];refine NR ?_ ih;obtain ⟨i,hi⟩ : ∃i,2 * M - 2 - k=i:=⟨_,rfl⟩
  rw [hi,show 2 * M - 1 - (k+1)=i by omega,show 2 * M - 1 - k=i+1 by omega];refine (EP (low:=low) (by omega) (by rw [j7];omega) M (IZ _)).trans (NC ?_);funext s;have h1 : sm M (λj=>low j * fh M low (i - M+j) (eV 0) s) = - fh M low (i - M+M) (eV 0) s:=congrFun (Gx (low:=low) hM (i - M)) s;rw [bZ (g:=λj=>low j * fh M low (i - M+j) (eV 0) s) λj _=>by rw [hlow],h1,show i - M+M=i by omega];simp only [zA,sm];rw [Int.neg_mul,Mr];omega
theorem xJ (c : Lz) (hl : M<=c.length) : zA M low M c=nth (c.take M):=by
 funext s;simp only [zA];rw [bZ (g:=λj=>nth c j * eV j s) λj hj=>by rw [Ay j hj]];by_cases hs : s<M
 ·rw [jJ hs λi _ hne=>by simp only [eV];rw [I5 (by omega)];omega,na hs];simp [eV]
 ·rw [js (by rw [Jy];omega),bZ (g:=λ_=>0) λj hj=>by simp only [eV];rw [I5 (by omega)];omega,jl]
end
theorem FJ {P : Int} {m : Nat} (hf : RF P m) (mod : Lz) (x y : Int) : mulR P m mod x y=dj P m mod x y:=by
 have hres:=hf.res;have hP:=hres.pos;have hm1:=hf.m1;refine (vb hf mod x y).ext hres (fE hres x y) (NR ?_ (fR hP m mod x y).symm);have hd : dV P m (mulR P m mod x y)=nth (mulL P m mod (bq x P m) (bq y P m)):=by unfold dV mulR;have:=lK (P:=P) (mulL P m mod (bq x P m) (bq y P m)) (yB hP m mod _ _);rw [x6 P mod _ _ hm1] at this;rw [this]
 rw [hd];have hc:=DY (P:=P) (M:=m) (low:=nth (lW m mod)) (a:=bq x P m) (b:=bq y P m) (n:=2 * m - 1) (IZ _) hm1 m (IZ _);have hx : Cg P (zA m (nth (lW m mod)) (2 * m - 1) (uQ P (bq x P m) (bq y P m) m (2 * m - 1) m)) (gd m (nth (lW m mod)) (dV P m x) (dV P m y)):=by rw [kM (nS P m y)];exact hc
 refine NR ?_ hx;unfold mulL;by_cases h1 : 1<m
 ·have hlow : ∀j,nth (lW m mod) j=nth mod j:=λj=>by rw [lW,I6 h1]
  have hr:=D0 (P:=P) hm1 hlow (jt P (bq x P m) (bq y P m) m (2 * m - 1) m) (m - 1) (IZ _);rw [show 2 * m - 1 - (m - 1)=m by omega,xJ _ (by rw [j7,jt];omega)] at hr;exact hr
 ·obtain rfl : m=1:=by omega
  rw [<- xJ (M:=1) (low:=nth (lW 1 mod)) _ (by rw [j7,jt];omega)];exact NI P _
section
open Go.RowKit Go.Shelf
attribute [local go_sem] M9
theorem nN (l : Lz) {k : Nat} (h : k<l.length) : l.take (k+1)=l.take k ++ [nth l k]:=by rw [Ja h,ai h]
theorem uz (F : Fence) (n : Nat) (hF : F.fn 277) (hro : F.round=none) (hn : 1<=n) (l Bs n₀ : Nat) (a : OA) (len cap : Nat) (zs : Lz) (hreach : len * 8<=140737488351232) (J Jx : Lz->World->Prop)
  (hY : ∀pre x W,J pre W->pre.length<len->YieldAt F (n - 1) prog l #[.int .i64 x] W λe W' =>
   (e = .returned (.bool true)/\J (pre ++ [x]) W'/\Below n₀ W W')\/(e = .returned (.bool false)/\Jx (pre ++ [x]) W'))
  (W : World) (hBs : W.cell? ⟨Bs,0,none⟩=some (.slice a len cap)) (hc : Ints W a len zs) (hb : 0<len->aj a<n₀) (h0 : J [] W) :
  CallsIn F n prog 277 #[.func (.yield l) #[] #[],.pointer (some ⟨Bs,0,none⟩)] W λe W'=>(∃v,e = .returned v) /\
   ((∃ys,ys=zs/\J ys W')\/(∃pre,(∃k,k<=len/\pre=zs.take k)/\Jx pre W')):=by
 have hpl:=hc.pl;have Hlen:=Z5 hc.len;refine callsIn_of_wp func277 rfl hF ?_ hro;simp only [ntmps277,Lp,Kf,LG,Nat.reduceAdd,Nat.reduceSub,KX,KY,Lq,K2,JL,Kn];gi_wp2;gi_loopw [7] (λi wr=>∃k : Nat,k<=len/\i = .int .i64 k/\J (zs.take k) wr/\Below n₀ W wr)
  (λi _=>len - (intOf i).toNat)
 case atStart=>exact ⟨0,I7 _,rfl,h0,I1 _ _⟩
 case round =>
  obtain ⟨k,hk,rfl,hJs,hnx⟩:=hrel
  by_cases hlt : k<len
  ·have hcx:=(hc.below hnx hb).cell k hlt
   have htk:=nN zs (k:=k) (by rw [Hlen.out];exact hlt)
   have Htk:=Z5 htk
   obtain ⟨fn,tmps,assign,body,hy,hR⟩:=hY _ (nth zs k) wr hJs (by rw [Jy,Hlen.out];omega)
   rw [<- htk] at hR
   clear htk
   gi_wp2
   refine hR.mono ?_
   rintro e W3 (⟨rfl,hJ3,hk3⟩ | ⟨rfl,hJx3⟩)
   ·gi_wp2
    go_roundw
    case rel=>exact ⟨k+1,by omega,by simp,hJ3,hnx.trans hk3⟩
    case measure=>simp [intOf];omega
   ·gi_wp2
    refine bodyPost_ret (results_none rfl _ _ _) rfl ?_
    exact ⟨⟨_,rfl⟩,.inr ⟨_,⟨k+1,by omega,rfl⟩,hJx3⟩⟩
  ·obtain rfl : k=len:=by omega
   rw [I8 (by rw [Hlen.out];exact IZ _)] at hJs
   gi_wp2
   go_end0
   exact ⟨⟨_,rfl⟩,.inl ⟨_,rfl,hJs⟩⟩
theorem xX (F : Fence) (n : Nat) (hF : F.fn 271) (hro : F.round=none) (a : OA) (len cap : Nat) (w : World) :
  CallsIn F n prog 271 #[.slice a len cap] w λe w'=>e = .returned (.func (.func 277) #[] #[.pointer (some ⟨w.heap.size,0,none⟩)])/\w'=w.alloc (.cells #[.slice a len cap] 22):=by refine callsIn_of_wp func271 rfl hF ?_ hro;simp only [ntmps271,Lp,Kf,LG,Nat.reduceAdd,Nat.reduceSub,KX,KY,Lq,K2,JL,Kn];gi_wp2;go_ret;exact ⟨rfl,rfl⟩
theorem qU (F : Fence) (n : Nat) (hF : F.fn 277) (hro : F.round=none) (hn : 1<=n) (Bs n₀ : Nat) (a : OA) (len cap : Nat) (zs : Lz) (hreach : len * 8<=140737488351232) (w : World) (hBs : Bs<w.heap.size) (hn₀ : n₀<=w.heap.size)
  (hc : w.cell? ⟨Bs,0,none⟩=some (.slice a len cap)) (hI : Ints w a len zs) (hb : 0<len->aj a<n₀) :
  SeqStopsK F n prog 277 #[.pointer (some ⟨Bs,0,none⟩)] (λx : Int=>#[Value.int .i64 x]) (Below n₀) (λys=>ys=zs) (λpre=>pre <+: zs) len w:=λl J Jx W hW _ _ hY h0=>by
 have hc':=(hW.cell (p:=⟨Bs,0,none⟩) hBs).trans hc;refine (uz F n hF hro hn l Bs n₀ a len cap zs hreach J Jx hY W hc' (hI.below (hW.mono hn₀) hb) hb h0).mono ?_;rintro e W' ⟨he,⟨ys,rfl,hj⟩ | ⟨pre,⟨k,hk,rfl⟩,hj⟩⟩
 ·exact ⟨he,.inl ⟨_,rfl,hj⟩⟩
 ·exact ⟨he,.inr ⟨_,List.take_prefix _ _,hj⟩⟩
theorem vu (F : Fence) (n : Nat) (hA : F.fn 280) (hV : F.fn 277) (hro : F.round=none) (hn : 3<=n) (Bs : Nat) (a : OA) (len cap : Nat) (zs : Lz) (hlen : len<=1000000) (w : World) (hBs : Bs<w.heap.size)
  (hc : w.cell? ⟨Bs,0,none⟩=some (.slice a len cap)) (hI : Ints w a len zs) :
  CallsIn F n prog 280 #[.slice none 0 0,.func (.func 277) #[] #[.pointer (some ⟨Bs,0,none⟩)]] w λe W' =>
   ∃v,e = .returned v/\W'.ownsRow w.heap.size 3 1 v len (zs.map (Value.int .i64))/\NS w W':=by
 have h1 : 1<=n:=by omega
 have Hlen:=Z5 hI.len;obtain ⟨i0,hi,hz0,hz1,hz2⟩:=info_parts ba;refine callsIn_of_wp_marks func280 rfl hA ?_ hro;simp only [ntmps280,Lp,Kf,LG,Nat.reduceAdd,Nat.reduceSub,KX,KY,Lq,K2,JL,Kn];gi_wp2;have bO:=Boxed.new w 22 (.slice none 0 0);have hB0 : NS w (w.alloc (.cells #[.slice none 0 0] 22)):=(I1 _ w).alloc (IZ _) _;refine wpIn_rangeFunc_ownG hro h1 (gf:=277) (lb:=#[.pointer (some ⟨Bs,0,none⟩)]) rfl hV (enters_of func277 (by kernel_rfl) rfl)
  (qU F (n - 1) hV hro (by omega) Bs w.heap.size a len cap zs (by omega) w hBs (IZ _) hc hI (λh=>hI.lt h)) belowK_t (belowK_b (by simp)) hB0 (λ_=>rfl)
  (λpre W=>(∃v,Boxed W w.heap.size 22 v/\W.ownsRow w.heap.size 3 1 v pre.length (pre.map (Value.int .i64))/\True)/\NS w W)
  (λ_ _ _=>False)
  (OwnFrom.and (Own.from (holdsRow_own w.heap.size w.heap.size 22 3 1 (λpre : Lz=>pre.length) (λpre=>pre.map (Value.int .i64)) (λ_ _=>True)) _) (ownFrom_below (IZ _) (by simp)))
  (λ_ _ _ _ _ hs _ _=>hs)
  ⟨⟨_,bO,MD _ _ _ _,trivial⟩,hB0⟩
  (λx=>{ tmps:=#[.slice none 0 0,.func (.func 277) #[] #[.pointer (some ⟨Bs,0,none⟩)],.pointer (some ⟨w.heap.size,0,none⟩),undef,.slice none 0 0,.int .i64 x,.func (.func 277) #[] #[.pointer (some ⟨Bs,0,none⟩)],.int .i64 x,undef,undef,undef,undef,undef],defers:=[] }) ?assign ?body ?done ?stop
 case assign =>
  intro l x W K hK
  gi_wp2
  exact hK
 case body =>
  rintro l pre x W ⟨⟨v,hv,hrow,_⟩,hB⟩ hlt
  have hcv:=hv.cell
  gi_wp2_with (gi_at_builtin;refine wpListIn_append_own _ rfl _ _ 22 rfl w.heap.size 3 i0 (.int .i64 0) 1 8 underlying22 hi hz0 hz1 hz2 rfl (by decide) _ _ _ rfl (hrow.alloc _) ⟨W.heap.size,0,none⟩ 1 1 [.int .i64 x] rfl rfl (cell_one_new _ _ _) (by simp [Value.oneCell']) (by unfold maxLen;omega) (by omega) (by have:=hB.size;simp;omega) ?_;intro v' w1 hown' hgrow _;obtain ⟨g',cap',rfl⟩:=ownsRow_succ hown';obtain ⟨hv1,hv2,hr2,hk2,hb2⟩:=hv.appended (by decide) hrow hB.size (IZ _) hown' hgrow;have hc1:=hv1.cell;have hf1:=hv1.frozen)
  exact ⟨hk2.from _,hb2,⟨_,hv2,by simpa using hr2,trivial⟩,hB.trans hb2⟩
 case done =>
  rintro D ys W hD rfl ⟨⟨v,hv,hrow,_⟩,hB⟩ hK
  have hcv:=hv.cell
  gi_wp2
  refine ⟨by simp,.inl ⟨_,_,rfl,run_takeDeferred hK,?_⟩⟩
  exact ⟨_,results_tmp rfl _ _ _,v,rfl,by have:=ownsRow_putObj hrow (.deferred none) hK rfl;rw [Hlen.out] at this;exact this,hB.trans (belowK_b (w:=w) (IZ _) W D _ _ (by simp at hD;omega) hK rfl rfl)⟩
 case stop =>
  rintro D c pre W _ _ h _
  exact h.elim
theorem y8 (F : Fence) (n : Nat) (hC : F.fn 276) (hA : F.fn 280) (hV : F.fn 277) (hro : F.round=none) (hn : 4<=n) (Bs : Nat) (a : OA) (len cap : Nat) (zs : Lz) (hlen : len<=1000000) (w : World) (hBs : Bs<w.heap.size)
  (hc : w.cell? ⟨Bs,0,none⟩=some (.slice a len cap)) (hI : Ints w a len zs) :
  CallsIn F n prog 276 #[.func (.func 277) #[] #[.pointer (some ⟨Bs,0,none⟩)]] w λe W' =>
   ∃v,e = .returned v/\W'.ownsRow w.heap.size 3 1 v len (zs.map (Value.int .i64))/\NS w W':=by refine callsIn_of_wp func276 rfl hC ?_ hro;simp only [ntmps276,Lp,Kf,LG,Nat.reduceAdd,Nat.reduceSub,KX,KY,Lq,K2,JL,Kn];gi_wp2;refine ⟨λ_=>by omega,?_⟩;refine (vu F (n - 1) hA hV hro (by omega) Bs a len cap zs hlen _ hBs hc hI).mono ?_;rintro e W' ⟨v,rfl,hown,hb⟩;gi_wp2;go_ret;exact ⟨v,rfl,hown,hb⟩
theorem Ak (a : OA) (len cap : Nat) (w : World) :
  Calls prog 271 #[.slice a len cap] w λe w'=>e = .returned (.func (.func 277) #[] #[.pointer (some ⟨w.heap.size,0,none⟩)])/\w'=w.alloc (.cells #[.slice a len cap] 22) :=
 callsIn_wide.1 (xX Fence.wide 8 trivial rfl a len cap w)
theorem xA (Bs : Nat) (a : OA) (len cap : Nat) (zs : Lz) (hlen : len<=1000000) (w : World) (hBs : Bs<w.heap.size) (hc : w.cell? ⟨Bs,0,none⟩=some (.slice a len cap)) (hI : Ints w a len zs) :
  Calls prog 276 #[.func (.func 277) #[] #[.pointer (some ⟨Bs,0,none⟩)]] w λe W' =>
   ∃v,e = .returned v/\W'.ownsRow w.heap.size 3 1 v len (zs.map (Value.int .i64))/\NS w W' :=
 callsIn_wide.1 (y8 Fence.wide 8 trivial trivial trivial rfl (by omega) Bs a len cap zs hlen w hBs hc hI)
end
end Go.Proofs.YtcfmiocdlcapoaaGreat
