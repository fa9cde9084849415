import Derived.Test.YtjfiflldinnhmaaGreatHSO5
import Derived.RangeFuncBox
import Derived.RangeFuncLeaves
import Derived.Shelf.Abstract
import Derived.OwnWalkIn
import Derived.TacticsInMore
import Derived.LoopNIn
import Derived.LoopIn
namespace Go.Proofs.YtjfiflldinnhmaaGreat
set_option linter.all false
set_option maxRecDepth 100000
set_option maxHeartbeats 4000000
open Go.RowKit Go.Proofs.Tryz
structure RF (P : Int) (m : Nat) : Prop where
 p2 : 2<=P
 p256 : P<=256
 m1 : 1<=m
 m8 : m<=8
 pw : P ^ m<=256
theorem RF.res {P : Int} {m : Nat} (h : RF P m) : ju P m:=⟨h.p2,h.m1⟩
theorem RF.order {P : Int} {m : Nat} (h : RF P m) : aH P m=P ^ m:=by have:=h.p2;have:=h.p256;have:=h.m1;have:=h.m8;have e:=kb (p:=P) (m:=m) (by omega) (by simpa using h.pw);rwa [EM] at e
theorem RF.of {P M : Int} (h : aH P M ≠ 0) : ∃m : Nat,M=m/\RF P m:=by obtain ⟨h1,h2,h3,h4,h5,h6⟩:=gJ h;exact ⟨M.toNat,by omega,⟨h1,h2,by omega,by omega,h5⟩⟩
theorem kD (P M : Int) (am : OA) (mn cm : Nat) (w : World) :
  Calls prog 32 #[.agg #[.int .i64 P,.int .i64 M,.slice am mn cm]] w λe w'=>e = .returned (.int .i64 (aH P M))/\JA w w':=by
 have Hal:=Z5 (aA w (.cells #[.int .i64 P,.int .i64 M,.slice am mn cm] 24));by_cases h1 : P<2
 ·have Ho:=Z5 (gL (p:=P) (m:=M) (.inl h1));go_enter func32,ntmps32;go_wp2;go_ret;exact ⟨aF Ho.out.symm,Hal.out⟩
 have h1' : decide (P<2)=false:=by simpa using h1
 by_cases h2 : M<1
 ·have Ho:=Z5 (gL (p:=P) (m:=M) (.inr (.inr (.inl h2))));go_enter func32,ntmps32;go_wp2;go_ret;exact ⟨aF Ho.out.symm,Hal.out⟩
 have h2' : decide (M<1)=false:=by simpa using h2
 by_cases h3 : 8<M
 ·have Ho:=Z5 (gL (p:=P) (m:=M) (.inr (.inr (.inr h3))));go_enter func32,ntmps32;go_wp2;go_ret;exact ⟨aF Ho.out.symm,Hal.out⟩
 have h3' : decide (8<M)=false:=by simpa using h3
 obtain ⟨n,rfl⟩ : ∃n : Nat,M=n:=⟨M.toNat,by omega⟩
 go_enter func32,ntmps32;go_wp2_with fail;obtain ⟨W,hW⟩ : ∃W : World,W=w.alloc (.cells #[.int .i64 P,.int .i64 n,.slice am mn cm] 24):=⟨_,rfl⟩
 rw [<- hW];have hbW : JA w W:=by rw [hW];exact aA _ _
 have c0 : W.cell? ⟨w.heap.size,0,none⟩=some (.int .i64 P):=by rw [hW];exact aC _ _ _ rfl 0
 have c1 : W.cell? ⟨w.heap.size,1,none⟩=some (.int .i64 n):=by rw [hW];exact aC _ _ _ rfl 1
 clear hW;go_loop [3,4] (λqv iv=>∃k : Nat,k<=n/\iv = .int .i64 k/\qv = .int .i64 (P ^ k)/\P ^ k<=256/\1<=P ^ k) (λ_ i=>n - (intOf i).toNat);case atStart=>exact ⟨0,EL _,rfl,by simp,by simp,by simp⟩
 case round =>
  obtain ⟨k,hk,rfl,rfl,hb,hb1⟩:=hrel
  have hP0 : P ≠ 0:=by omega
  by_cases hlt : k<n
  ·have e1 : P ^ (k+1)=P ^ k * P:=Fv _ _
   have hd0 : (0 : Int)<=256 / P:=F4 (by omega) (by omega)
   have hd1 : 256 / P<=256:=F8 _ (by omega)
   by_cases h5 : 256 / P<P ^ k
   ·have hbig : aH P n=0:=kM (by intro h;have h6:=dB (show 1<=P by omega) (show k+1<=n by omega);rw [EM] at h;have h7 : 256<P ^ k * P:=Int.lt_mul_of_ediv_lt (by omega) h5;omega)
    have Hb:=Z5 hbig
    clear e1 hbig
    generalize P ^ k=q at *
    go_wp2
    go_ret
    exact ⟨aF Hb.out.symm,hbW⟩
   ·have h7 : P ^ k * P<=256:=by have h8:=Int.mul_le_mul_of_nonneg_right (show P ^ k<=256 / P by omega) (show 0<=P by omega);have h9:=Int.ediv_mul_le 256 hP0;omega
    have e3 : 1 * 1<=P ^ k * P:=GC hb1 (by omega) (by omega) (by omega)
    have E1:=Z5 e1
    clear e1
    generalize P ^ k=q at *
    go_wp2
    go_round
    case rel=>exact ⟨k+1,by omega,by go_num,by rw [E1.out],by rw [E1.out];exact h7,by rw [E1.out];omega⟩
    case measure=>simp [intOf] <;> omega
  ·obtain rfl : k=n:=by omega
   by_cases h256 : 256<P
   ·have hk1 : 1<=k:=by omega
    have h6:=dB (show 1<=P by omega) hk1
    have h8 : P ^ 1=P:=by rw [Fv,Gf,GL]
    omega
   ·have Hb:=Z5 (kb (p:=P) (m:=k) (by omega) (by simpa using hb))
    go_wp2
    go_ret
    exact ⟨aF (by rw [Hb.out];simp),hbW⟩
theorem ou (n : Nat) (w : World) (h2 : 2<=n) (h256 : n<=256) :
  Calls prog 108 #[.int .i64 n] w λe w'=>e = .returned (.bool (eU n))/\w=w':=by
 go_enter func108,ntmps108;go_wp2;go_loop [3] (λdv=>∃d : Nat,2<=d/\d<=n/\dv = .int .i64 d/\Hid (∀e,2<=e->e<d->n % e ≠ 0)) (λd=>n+1 - (intOf d).toNat);case atStart=>exact ⟨2,EF _,h2,rfl,λe he he2=>by omega⟩
 case round =>
  obtain ⟨d,hd2,hdn,rfl,hno⟩:=hrel
  have hd0 : (d : Int) ≠ 0:=by omega
  by_cases hs : d<n
  ·by_cases hm : n % d=0
   ·have hm' : ((n : Int) % d == 0)=true:=by simp;exact_mod_cast hm
    have Hf:=Z5 (qN hd2 hs hm)
    clear hm
    go_wp2
    go_ret
    exact ⟨bj Hf.out.symm,rfl⟩
   ·have hm' : ((n : Int) % d == 0)=false:=by simp;exact_mod_cast hm
    have Hm:=Z5 hm
    clear hm
    go_wp2
    go_round
    case rel =>
     refine ⟨d+1,by omega,by omega,by go_num,λe he he2=>?_⟩
     rcases Fm e d with h | h
     ·exact hno.out e he h
     ·rw [show e=d from by omega];exact Hm.out
    case measure=>simp [intOf] <;> omega
  ·have Hf:=Z5 (oR (n:=n) λe he he2=>hno.out e he (by omega))
   go_wp2
   go_ret
   exact ⟨bj (by rw [Hf.out]),rfl⟩
theorem mW (x p : Int) (m : Nat) (w : World) (hx : 0<=x) (hx2 : x<=9223372036854775807) (hp : 1<=p) (hm : m<=256) :
  Calls prog 175 #[.int .i64 x,.int .i64 p,.int .i64 m] w (cB w (bg x p m)):=by
 go_enter func175,ntmps175;go_wp2_with (at_make;refine bZ rfl _ _ 22 3 rfl (.int .i64 0) 8 underlying22 bh rfl m rfl rfl (by omega) (by unfold maxLen;omega) ?_;intro a w1 hown hbel hge hlt);go_loopw [0,8] (λxv iv wr=>∃k : Nat,k<=m/\iv = .int .i64 k/\xv = .int .i64 (gX x p k) /\
   wr.ownsRow w.heap.size 3 1 (.slice a m m) m ((cH (bg x p k) k m).map (Value.int .i64))/\JA w wr)
  (λ_ i _=>m - (intOf i).toNat)
 case atStart=>exact ⟨0,EL _,rfl,rfl,by simpa [cH,bg] using hown,hbel⟩
 case round =>
  obtain ⟨k,hk,rfl,rfl,hown,hbel⟩:=hrel
  obtain ⟨hints,hmine⟩:=I9 hown
  have hq:=rS x p hx hp k
  have hpl:=hints.pl
  by_cases hlt : k<m
  ·have hc:=hints.cell k hlt
   have hf:=(hmine (by omega)).2 k hlt
   have hB:=(hmine (by omega)).1
   go_wp2
   go_roundw
   case rel =>
    refine ⟨k+1,by omega,by go_num,rfl,?_,hbel.setCell hB _⟩
    have h:=bz hown k hlt (.int .i64 (gX x p k % p))
    rw [<- Ff,en _ _ _ _ (bu p k x) hlt,<- lY] at h
    exact h
   case measure=>simp [intOf] <;> omega
  ·obtain rfl : k=m:=by omega
   have Hl:=Z5 (bu p k x)
   rw [eZ] at hown
   go_wp2
   go_ret
   exact ⟨a,k,by rw [Hl.out];rfl,by rw [Hl.out];exact hown,hbel⟩
theorem xc (P M : Int) (am : OA) (mn cm : Nat) (x : Int) (w : World) :
  Calls prog 169 #[.agg #[.int .i64 P,.int .i64 M,.slice am mn cm],.int .i64 x] w λe w'=>e = .returned (.bool (gZ (aH P M) x))/\JA w w':=by
 have Hal:=Z5 (aA w (.cells #[.int .i64 P,.int .i64 M,.slice am mn cm] 24));by_cases h0 : 0<=x
 ·have h0' : decide (0<=x)=true:=by simpa using h0
  have Hq : Hid (gZ (aH P M) x=decide (x<aH P M)):=by show _=_;rw [gZ,h0'];simp
  clear h0;go_enter func169,ntmps169;go_wp2_with (go_at_call 32;refine (kD P M am mn cm _).mono ?_;rintro e w2 ⟨rfl,hb2⟩);go_ret;exact ⟨bj (by rw [Hq.out]),I8 Hal.out hb2⟩
 ·have h0' : decide (0<=x)=false:=by simpa using h0
  have Hq : Hid (gZ (aH P M) x=false):=by show _=_;rw [gZ,h0'];simp
  clear h0;go_enter func169,ntmps169;go_wp2_with fail;go_ret;exact ⟨bj (by rw [Hq.out]),Hal.out⟩
theorem B8 (P M : Int) (am : OA) (mn cm : Nat) (x : Int) (w : World) (hx : gZ (aH P M) x=true) :
  Calls prog 155 #[.agg #[.int .i64 P,.int .i64 M,.slice am mn cm],.int .i64 x] w λe w'=>e = .returned (.int .i64 x)/\JA w w':=by have Hal:=Z5 (aA w (.cells #[.int .i64 P,.int .i64 M,.slice am mn cm] 24));have Hx:=Z5 hx;clear hx;go_enter func155,ntmps155;go_wp2_with fail;refine (xc P M am mn cm x _).mono ?_;rintro e w2 ⟨rfl,hb2⟩;rw [Hx.out];go_wp2_with fail;go_ret;exact ⟨rfl,I8 Hal.out hb2⟩
theorem ga (P : Int) (m : Nat) (am : OA) (mn cm : Nat) (x : Int) (w : World) (hf : RF P m) (hx : gZ (aH P m) x=true) :
  Calls prog 197 #[.agg #[.int .i64 P,.int .i64 m,.slice am mn cm],.int .i64 x] w (cB w (bg x P m)):=by
 have hx0 : 0<=x/\x<256:=by have h1:=hf.order;have h2:=hf.pw;unfold gZ at hx;simp only [EW,E3] at hx;omega
 have hp1 : 1<=P:=by have:=hf.p2;omega
 have hm:=hf.m8;have Hx:=Z5 hx;clear hx;go_enter func197,ntmps197;go_wp2_with fail;obtain ⟨W,hW⟩ : ∃W : World,W=w.alloc (.cells #[.int .i64 P,.int .i64 m,.slice am mn cm] 24):=⟨_,rfl⟩
 rw [<- hW];have hbW : JA w W:=by rw [hW];exact aA _ _
 have x0 : ba W w.heap.size [.int .i64 P,.int .i64 m,.slice am mn cm]:=by rw [hW];exact Ja _ _ _ rfl
 have HX:=Z5 x0;clear hW x0;have hS : ∀V,JA W V->V.cell? ⟨w.heap.size,0,none⟩=some (.int .i64 P)/\V.cell? ⟨w.heap.size,1,none⟩=some (.int .i64 m)/\V.cell? ⟨w.heap.size,2,none⟩=some (.slice am mn cm)/\JA W V:=by intro V hV;have x1:=HX.out.aa hV;exact ⟨x1.cell 0 rfl,x1.cell 1 rfl,x1.cell 2 rfl,hV⟩
 have HS:=Z5 hS;have HbW:=Z5 hbW;clear hS hbW;go_region_held3 (λV=>V.cell? ⟨w.heap.size,0,none⟩=some (.int .i64 P)/\V.cell? ⟨w.heap.size,1,none⟩=some (.int .i64 m)/\V.cell? ⟨w.heap.size,2,none⟩=some (.slice am mn cm)/\JA W V)
  ((refine HS.out _ ?_;first | exact (EI _ _).drew | (go_split_ands;exact I8 (by assumption) (by assumption))))
  (first
   | (go_at_call 155;((with_reducible refine (B8 P m am mn cm x _ Hx.out).mono ?_);rintro e w4 ⟨rfl,hb4⟩))
   | (go_at_call 175;((with_reducible refine (mW x P m _ hx0.1 (by omega) hp1 (by omega)).mono ?_);rintro e w5 ⟨a5,c5,rfl,hown5,hb5⟩)))
 all_goals (
  have hsz : w.heap.size<=w4.heap.size:=by have h1:=HbW.out.size;have h2:=hb4.size;have h3 : W.drew.heap.size=W.heap.size:=rfl;omega
  have Hown:=Z5 (aW hown5 hsz)
  clear hown5
  go_wp2_with fail
  go_ret
  exact ⟨a5,c5,rfl,Hown.out,I8 HbW.out (by go_split_ands;assumption)⟩)
theorem kO (P : Int) (M : Int) (am : OA) (mn cm : Nat) (a : OA) (n c : Nat) (l : LI) (w : World) (h : Ints w a n l) (hn : n<=1000) (hP1 : 0<=P) (hP : P<=256)
  (hb : ∀k,0<=cO P (l.drop k) * P/\cO P (l.drop k) * P<=1000000000/\0<=nth l k/\nth l k<=1000000000) :
  Calls prog 198 #[.agg #[.int .i64 P,.int .i64 M,.slice am mn cm],.slice a n c] w λe w'=>e = .returned (.int .i64 (cO P l))/\JA w w':=by
 have HB:=Z5 hb;have Hlen:=Z5 h.len;clear hb;go_enter func198,ntmps198;go_wp2_with fail;obtain ⟨W,hW⟩ : ∃W : World,W=w.alloc (.cells #[.int .i64 P,.int .i64 M,.slice am mn cm] 24):=⟨_,rfl⟩
 rw [<- hW];have hbW : JA w W:=by rw [hW];exact aA _ _
 have x0 : W.cell? ⟨w.heap.size,0,none⟩=some (.int .i64 P):=by rw [hW];exact aC _ _ _ rfl 0
 clear hW;have hW:=h.aa hbW;have hpl:=hW.pl;go_loopw [5,6] (λxv iv wr=>∃k : Nat,k<=n/\iv = .int .i64 ((k : Int) - 1)/\xv = .int .i64 (cO P (l.drop k))/\bf W wr) (λ_ i _=>(intOf i+1).toNat);case atStart=>exact ⟨n,EF _,rfl,by rw [FY (by rw [Hlen.out];exact EF _)];rfl,Je _⟩
 case round =>
  obtain ⟨k,hk,rfl,rfl,hd⟩:=hrel
  by_cases hlt : 0<k
  ·obtain ⟨j,rfl⟩ : ∃j,k=j+1:=⟨k - 1,by omega⟩
   have hc:=(hW.drawn hd).cell j (by omega)
   have c0:=hd.cell x0
   have hjl : j<l.length:=by rw [Hlen.out];omega
   obtain ⟨b1,b2,b3,b4⟩ : 0<=cO P (l.drop (j+1)) * P/\cO P (l.drop (j+1)) * P<=1000000000/\0<=nth l j/\nth l j<=1000000000:=⟨(HB.out (j+1)).1,(HB.out (j+1)).2.1,(HB.out j).2.2⟩
   have e1 : ((j+1 : Nat) : Int) - 1=(j : Int):=by omega
   rw [e1]
   clear e1 hlt
   have hfin : cO P (l.drop (j+1)) * P+nth l j=cO P (l.drop j):=by rw [sW l j hjl];simp only [cO];rw [FG P,Int.add_comm]
   generalize cO P (l.drop (j+1))=X at *
   generalize nth l j=Y at *
   have Hfin:=Z5 hfin
   clear hfin
   have e1 : (0 : Int)<=j:=by omega
   have e2 : (j : Int)<n:=by omega
   have r1 : IntKind.i64.wrap (X * P)=X * P:=EU _ (by omega)
   have r2 : IntKind.i64.wrap (X * P+Y)=X * P+Y:=EU _ (by omega)
   go_wp2_with fail
   go_quiet (fail)
   clear r1 r2
   go_wp2
   go_roundw
   case rel=>exact ⟨j,by omega,by go_num,by rw [<- Hfin.out],hd.drewN _⟩
   case measure=>simp [intOf] <;> omega
  ·obtain rfl : k=0:=by omega
   go_wp2_with fail
   go_ret
   exact ⟨by simp,I8 hbW hd.below⟩
def rG (P : Int) (a b : LI) : LI:=List.zipWith (λu v=>(u+v) % P) a b
theorem qj {P : Int} : ∀(m : Nat) (x y : Int),cO P (rG P (bg x P m) (bg y P m))=du P m x y
 | 0,_,_=>rfl
 | m+1,x,y=>by simp only [bg,rG,H9,cO,du];have:=qj (P:=P) m (x / P) (y / P);unfold rG at this;rw [this,Int.add_emod x y]
def pT (P : Int) (a : LI) : LI:=a.map λu=>(P - u) % P
theorem qo {P : Int} : ∀(m : Nat) (x : Int),cO P (pT P (bg x P m))=eQ P m x
 | 0,_=>rfl
 | m+1,x=>by simp only [bg,pT,HZ,cO,eQ];have:=qo (P:=P) m (x / P);unfold pT at this;rw [this]
theorem cU.zip {P : Int} (hP : 0<P) (f : Int->Int->Int) (a b : LI) : cU P (List.zipWith (λu v=>(f u v) % P) a b):=by refine Jy hP λx hx=>?_;rw [GN] at hx;obtain ⟨i,hi,rfl⟩:=hx;rw [GO];exact ⟨Fl _ (by omega),Fb _ hP⟩
theorem cU.Ee {P : Int} (hP : 0<P) (a : LI) : cU P (pT P a):=by refine Jy hP λx hx=>?_;unfold pT at hx;obtain ⟨y,_,rfl⟩:=List.mem_map.1 hx;exact ⟨Fl _ (by omega),Fb _ hP⟩
theorem cU.Em {P : Int} {m : Nat} (hf : RF P m) {l : LI} (h : cU P l) (hl : l.length=m) : ∀k,0<=cO P (l.drop k) * P/\cO P (l.drop k) * P<=1000000000/\0<=nth l k/\nth l k<=1000000000:=by
 intro k;have hP : 0<P:=by have:=hf.p2;omega
 have hP2:=hf.p256;have h1:=h.xm hP hl hf.pw k;have h2:=h k;have h3:=jO h1.1 (show cO P (l.drop k)<=256 by omega) (show 0<=P by omega) hP2;exact ⟨h3.1,by omega,h2.1,by omega⟩
theorem nY {P : Int} {m : Nat} (hf : RF P m) (x : Int) (i : Nat) : 0<=nth (bg x P m) i/\nth (bg x P m) i<P:=cU.bg (by have:=hf.p2;omega) m x i
theorem zO (P : Int) (m : Nat) (am : OA) (mn cm : Nat) (x y : Int) (w : World) (hf : RF P m) (hx : gZ (aH P m) x=true) (hy : gZ (aH P m) y=true) :
  Calls prog 148 #[.agg #[.int .i64 P,.int .i64 m,.slice am mn cm],.int .i64 x,.int .i64 y] w λe w'=>e = .returned (.int .i64 (du P m x y))/\JA w w':=by
 have hp2:=hf.p2;have hp256:=hf.p256;have hm8:=hf.m8;have Hx:=Z5 hx;have Hy:=Z5 hy;have Hdx:=Z5 (bu P m x);have Hdy:=Z5 (bu P m y);have Hbx:=Z5 (nY hf x);have Hby:=Z5 (nY hf y);have hNl : (rG P (bg x P m) (bg y P m)).length=m:=by simp [rG,bu]
 have hNn : ∀i,i<m->nth (rG P (bg x P m) (bg y P m)) i=(nth (bg x P m) i+nth (bg y P m) i) % P:=λi hi=>by rw [ai (by rw [hNl];exact hi),ai (by rw [bu];exact hi),ai (by rw [bu];exact hi)];simp [rG]
 have hNg : cU P (rG P (bg x P m) (bg y P m)):=cU.zip (by omega) (λu v=>u+v) (bg x P m) (bg y P m);have hNd:=cU.Em hf hNg hNl;have HNl:=Z5 hNl;have HNn:=Z5 hNn;have HNd:=Z5 hNd;have HNv:=Z5 (qj (P:=P) m x y);clear hx hy hNl hNn hNd hNg;go_enter func148,ntmps148;go_wp2_with fail;obtain ⟨W,hW⟩ : ∃W : World,W=w.alloc (.cells #[.int .i64 P,.int .i64 m,.slice am mn cm] 24):=⟨_,rfl⟩
 rw [<- hW];have hbW : JA w W:=by rw [hW];exact aA _ _
 have x0 : ba W w.heap.size [.int .i64 P,.int .i64 m,.slice am mn cm]:=by rw [hW];exact Ja _ _ _ rfl
 have HX:=Z5 x0;have hsW : w.heap.size<W.heap.size:=x0.1;clear hW x0;refine (ga P m am mn cm x W hf Hx.out).mono ?_;rintro e w1 ⟨a1,c1,rfl,hown1,hb1⟩;have x1:=HX.out.aa hb1;have d0:=x1.cell 0 rfl;have d1:=x1.cell 1 rfl;have d2:=x1.cell 2 rfl;rw [Hdx.out] at hown1 ⊢;clear x1;go_wp2_with fail;refine (ga P m am mn cm y w1 hf Hy.out).mono ?_;rintro e w2 ⟨a2,c2,rfl,hown2,hb2⟩;rw [Hdy.out] at hown2 ⊢;have hs1:=hb1.size;have hown1':=aY hown1 hb2;have hap : a1 ≠ none->ah a1<w1.heap.size:=λh0=>(aU hown1 h0).2;have hi2:=(I9 hown2).1;have hlo2 : 0<m->w1.heap.size<=ah a2:=λh0=>(ez hown2 h0).1;have hap1 : a1 ≠ none->W.heap.size<=ah a1:=λh0=>(aU hown1 h0).1;have hb12:=I8 hb1 hb2;have hpl2:=hi2.pl;obtain ⟨D,hD⟩ : ∃D,bg x P m=D:=⟨_,rfl⟩
 obtain ⟨E,hE⟩ : ∃E,bg y P m=E:=⟨_,rfl⟩
 rw [hD] at hown1' Hdx Hbx HNl HNn HNd HNv;rw [hE] at hi2 Hdy Hby HNl HNn HNd HNv;obtain ⟨NN,hNN⟩ : ∃NN,rG P D E=NN:=⟨_,rfl⟩
 rw [hNN] at HNl HNn HNd HNv;clear hD hE hNN hown1 hown2;go_wp2_with fail;go_loopw [9] (λiv wr=>∃k : Nat,k<=m/\iv = .int .i64 k/\wr.ownsRow W.heap.size 3 1 (.slice a1 m c1) m ((ei NN D k).map (Value.int .i64))/\bT a1 w2 wr) (λiv _=>m - (intOf iv).toNat);case atStart=>exact ⟨0,EL _,rfl,by rw [ew];exact hown1',Jq _ _⟩
 case round =>
  obtain ⟨k,hk,rfl,hown,honly⟩:=hrel
  have hbr : JA W wr:=hb12.trans (honly.below hap1 (by have:=hb2.size;omega))
  by_cases hlt : k<m
  ·obtain ⟨hi1,hm1⟩:=I9 hown
   have hi2r:=honly.ints hi2 (by
    by_cases h0 : a1=none
    ·exact .inl h0
    ·exact .inr (.inr (by have h1:=hap h0;have h2:=hlo2 (by omega);omega)))
   have ca:=hi1.cell k hlt
   have cb:=hi2r.cell k hlt
   have fa:=(hm1 (by omega)).2 k hlt
   have hpl1:=hi1.pl
   have hkN : NN.length=D.length:=by rw [HNl.out,Hdx.out]
   have hkD : k<D.length:=by rw [Hdx.out];exact hlt
   have hmix:=dR NN D k k hkN (by omega)
   rw [EG (by omega)] at hmix
   rw [hmix] at ca
   have hset:=dW NN D k hkN hkD
   have Hset:=Z5 hset
   have x1:=HX.out.aa hbr
   have d0:=x1.cell 0 rfl
   have b1:=Hbx.out k
   have b2:=Hby.out k
   have hP0 : P ≠ 0:=by omega
   have r5 : IntKind.i64.wrap (nth D k+nth E k)=nth D k+nth E k:=EU _ (by omega)
   have r6 : (nth D k+nth E k).tmod P=(nth D k+nth E k) % P:=Fx _ _ (by omega)
   have R7:=Z5 (HNn.out k hlt)
   clear hmix hset hkN hkD x1
   go_wp2_with fail
   go_still_tail 15,(by kernel_rfl)
   change wpList _ _ _ _ _ wr.drew
   generalize hwd : wr.drew=wd
   have fd : wd.frozen? ⟨ah a1,aG a1+k,none⟩=false:=by rw [<- hwd];exact fa
   have cd : wd.cell? ⟨ah a1,aG a1+k,none⟩=some (.int .i64 (nth D k)):=by rw [<- hwd];exact ca
   have Hwd:=Z5 hwd
   clear hwd r5 r6
   go_wp2_with fail
   go_roundw
   case rel =>
    obtain rfl:=Hwd.out
    have hdr : bf wr wr.drew:=(Je wr).drew
    refine ⟨k+1,by omega,by go_num,?_,honly.trans ((Jg hdr).trans (Jo _ k _ (by intro e;have:=hpl1 (by omega);rw [e] at this;cases this)))⟩
    have h1:=bz (w:=wr.drew) hown k hlt (.int .i64 ((nth D k+nth E k) % P))
    rw [<- Ff,<- R7.out,Hset.out] at h1
    rw [<- R7.out]
    exact h1
   case measure=>simp [intOf] <;> omega
  ·obtain rfl : k=m:=by omega
   rw [fb NN D k HNl.out Hdx.out] at hown
   have hi1:=(I9 hown).1
   have x1:=HX.out.aa hbr
   have d0:=x1.cell 0 rfl
   have d1:=x1.cell 1 rfl
   have d2:=x1.cell 2 rfl
   clear x1
   go_wp2_with fail
   refine (kO P k am mn cm a1 k c1 NN wr hi1 (by omega) (by omega) (by omega) HNd.out).mono ?_
   rintro e w4 ⟨rfl,hb4⟩
   go_wp2_with fail
   go_ret
   exact ⟨aF HNv.out,I8 (I8 hbW hbr) hb4⟩
theorem AR (P : Int) (m : Nat) (am : OA) (mn cm : Nat) (x : Int) (w : World) (hf : RF P m) (hx : gZ (aH P m) x=true) :
  Calls prog 143 #[.agg #[.int .i64 P,.int .i64 m,.slice am mn cm],.int .i64 x] w λe w'=>e = .returned (.int .i64 (eQ P m x))/\JA w w':=by
 have hp2:=hf.p2;have hp256:=hf.p256;have hm8:=hf.m8;have Hx:=Z5 hx;have Hdx:=Z5 (bu P m x);have Hbx:=Z5 (nY hf x);have hNl : (pT P (bg x P m)).length=m:=by simp [pT,bu]
 have hNn : ∀i,i<m->nth (pT P (bg x P m)) i=(P - nth (bg x P m) i) % P:=λi hi=>by rw [ai (by rw [hNl];exact hi),ai (by rw [bu];exact hi)];simp [pT]
 have hNd:=cU.Em hf (cU.Ee (by omega) (bg x P m)) hNl;have HNl:=Z5 hNl;have HNn:=Z5 hNn;have HNd:=Z5 hNd;have HNv:=Z5 (qo (P:=P) m x);clear hx hNl hNn hNd;go_enter func143,ntmps143;go_wp2_with fail;obtain ⟨W,hW⟩ : ∃W : World,W=w.alloc (.cells #[.int .i64 P,.int .i64 m,.slice am mn cm] 24):=⟨_,rfl⟩
 rw [<- hW];have hbW : JA w W:=by rw [hW];exact aA _ _
 have x0 : ba W w.heap.size [.int .i64 P,.int .i64 m,.slice am mn cm]:=by rw [hW];exact Ja _ _ _ rfl
 have HX:=Z5 x0;have hsW : w.heap.size<W.heap.size:=x0.1;clear hW x0;refine (ga P m am mn cm x W hf Hx.out).mono ?_;rintro e w2 ⟨a1,c1,rfl,hown1,hb1⟩;rw [Hdx.out] at hown1 ⊢;have hs1:=hb1.size;have hap1 : a1 ≠ none->W.heap.size<=ah a1:=λh0=>(aU hown1 h0).1;obtain ⟨D,hD⟩ : ∃D,bg x P m=D:=⟨_,rfl⟩
 rw [hD] at hown1 Hdx Hbx HNl HNn HNd HNv;obtain ⟨NN,hNN⟩ : ∃NN,pT P D=NN:=⟨_,rfl⟩
 rw [hNN] at HNl HNn HNd HNv;clear hD hNN;go_wp2_with fail;go_loopw [6] (λiv wr=>∃k : Nat,k<=m/\iv = .int .i64 k/\wr.ownsRow W.heap.size 3 1 (.slice a1 m c1) m ((ei NN D k).map (Value.int .i64))/\bT a1 w2 wr) (λiv _=>m - (intOf iv).toNat);case atStart=>exact ⟨0,EL _,rfl,by rw [ew];exact hown1,Jq _ _⟩
 case round =>
  obtain ⟨k,hk,rfl,hown,honly⟩:=hrel
  have hbr : JA W wr:=hb1.trans (honly.below hap1 (by omega))
  by_cases hlt : k<m
  ·obtain ⟨hi1,hm1⟩:=I9 hown
   have ca:=hi1.cell k hlt
   have fa:=(hm1 (by omega)).2 k hlt
   have hpl1:=hi1.pl
   have hkN : NN.length=D.length:=by rw [HNl.out,Hdx.out]
   have hkD : k<D.length:=by rw [Hdx.out];exact hlt
   have hmix:=dR NN D k k hkN (by omega)
   rw [EG (by omega)] at hmix
   rw [hmix] at ca
   have hset:=dW NN D k hkN hkD
   have Hset:=Z5 hset
   have x1:=HX.out.aa hbr
   have d0:=x1.cell 0 rfl
   have b1:=Hbx.out k
   have hP0 : P ≠ 0:=by omega
   have r5 : IntKind.i64.wrap (P - nth D k)=P - nth D k:=EU _ (by omega)
   obtain ⟨Z,hZ⟩ : ∃Z,(P - nth D k) % P=Z:=⟨_,rfl⟩
   have r6 : (P - nth D k).tmod P=Z:=by rw [<- hZ];exact Fx _ _ (by omega)
   have R7 : Hid (nth NN k=Z):=by show _=_;rw [<- hZ];exact HNn.out k hlt
   clear hZ
   clear hmix hset hkN hkD x1
   go_wp2_with fail
   go_still_tail 13,(by kernel_rfl)
   change wpList _ _ _ _ _ wr.drew
   generalize hwd : wr.drew=wd
   have fd : wd.frozen? ⟨ah a1,aG a1+k,none⟩=false:=by rw [<- hwd];exact fa
   have cd : wd.cell? ⟨ah a1,aG a1+k,none⟩=some (.int .i64 (nth D k)):=by rw [<- hwd];exact ca
   have Hwd:=Z5 hwd
   clear hwd r5 r6
   go_wp2_with fail
   go_roundw
   case rel =>
    obtain rfl:=Hwd.out
    have hdr : bf wr wr.drew:=(Je wr).drew
    refine ⟨k+1,by omega,by go_num,?_,honly.trans ((Jg hdr).trans (Jo _ k _ (by intro e;have:=hpl1 (by omega);rw [e] at this;cases this)))⟩
    have h1:=bz (w:=wr.drew) hown k hlt (.int .i64 Z)
    rw [<- Ff,<- R7.out,Hset.out] at h1
    rw [<- R7.out]
    exact h1
   case measure=>simp [intOf] <;> omega
  ·obtain rfl : k=m:=by omega
   rw [fb NN D k HNl.out Hdx.out] at hown
   have hi1:=(I9 hown).1
   have x1:=HX.out.aa hbr
   have d0:=x1.cell 0 rfl
   have d1:=x1.cell 1 rfl
   have d2:=x1.cell 2 rfl
   clear x1
   go_wp2_with fail
   refine (kO P k am mn cm a1 k c1 NN wr hi1 (by omega) (by omega) (by omega) HNd.out).mono ?_
   rintro e w4 ⟨rfl,hb4⟩
   go_wp2_with fail
   go_ret
   exact ⟨aF HNv.out,I8 (I8 hbW hbr) hb4⟩
def u9 (P : Int) (a b : LI) (i : Nat) (c : LI) : Nat->LI
 | 0=>c
 | j+1=>(u9 P a b i c j).set (i+j) ((nth (u9 P a b i c j) (i+j)+nth a i * nth b j) % P)
def sl (P : Int) (a b : LI) (M n : Nat) : Nat->LI
 | 0=>List.replicate n 0
 | i+1=>u9 P a b i (sl P a b M n i) M
def qT (P : Int) (M : Nat) (mod : LI) (i : Nat) (c : LI) : Nat->LI
 | 0=>c
 | j+1=>(qT P M mod i c j).set (i - M+j) ((nth (qT P M mod i c j) (i - M+j)+(P - nth (qT P M mod i c j) i) * nth mod j) % P)
def qz (P : Int) (M : Nat) (mod : LI) (c : LI) : Nat->LI
 | 0=>c
 | k+1=>qT P M mod (2 * M - 2 - k) (qz P M mod c k) M
def mulL (P : Int) (M : Nat) (mod : LI) (a b : LI) : LI:=(qz P M mod (sl P a b M (2 * M - 1) M) (M - 1)).take M
def mulR (P : Int) (M : Nat) (mod : LI) (x y : Int) : Int:=cO P (mulL P M mod (bg x P M) (bg y P M))
theorem cU.set {P : Int} {l : LI} (h : cU P l) (i : Nat) {x : Int} (h0 : 0<=x) (h1 : x<P) : cU P (l.set i x):=by
 intro j;by_cases hi : i<l.length
 ·rw [cX _ _ _ _ hi];split
  ·exact ⟨h0,h1⟩
  ·exact h j
 ·rw [FN (by omega)];exact h j
theorem cU.vJ {P : Int} (hP : 0<P) {l : LI} (h : cU P l) (i : Nat) (x : Int) : cU P (l.set i (x % P)):=h.set i (Fl _ (by omega)) (Fb _ hP)
theorem rQ (P : Int) (a b : LI) (i : Nat) (c : LI) : ∀j,(u9 P a b i c j).length=c.length
 | 0=>rfl
 | j+1=>by rw [u9,Fu,rQ P a b i c j]
theorem sM {P : Int} (hP : 0<P) (a b : LI) (i : Nat) {c : LI} (h : cU P c) : ∀j,cU P (u9 P a b i c j)
 | 0=>h
 | j+1=>cU.vJ hP (sM hP a b i h j) _ _
theorem iy (P : Int) (a b : LI) (M n : Nat) : ∀i,(sl P a b M n i).length=n
 | 0=>by simp [sl]
 | i+1=>by rw [sl,rQ,iy P a b M n i]
theorem nK {P : Int} (hP : 0<P) (a b : LI) (M n : Nat) : ∀i,cU P (sl P a b M n i)
 | 0=>cU.replicate hP n
 | i+1=>sM hP a b i (nK hP a b M n i) M
theorem nF (P : Int) (M : Nat) (mod : LI) (i : Nat) (c : LI) : ∀j,(qT P M mod i c j).length=c.length
 | 0=>rfl
 | j+1=>by rw [qT,Fu,nF P M mod i c j]
theorem sr {P : Int} (hP : 0<P) (M : Nat) (mod : LI) (i : Nat) {c : LI} (h : cU P c) : ∀j,cU P (qT P M mod i c j)
 | 0=>h
 | j+1=>cU.vJ hP (sr hP M mod i h j) _ _
theorem jm (P : Int) (M : Nat) (mod : LI) (c : LI) : ∀k,(qz P M mod c k).length=c.length
 | 0=>rfl
 | k+1=>by rw [qz,nF,jm P M mod c k]
theorem nM {P : Int} (hP : 0<P) (M : Nat) (mod : LI) {c : LI} (h : cU P c) : ∀k,cU P (qz P M mod c k)
 | 0=>h
 | k+1=>sr hP M mod _ (nM hP M mod h k) M
theorem cU.take {P : Int} (hP : 0<P) {l : LI} (h : cU P l) (k : Nat) : cU P (l.take k):=by
 intro i;have e : nth (l.take k) i=if i<k then nth l i else 0:=by simp only [nth,EJ,FE];split <;> rfl
 rw [e];split
 ·exact h i
 ·omega
theorem uJ (P : Int) {M : Nat} (mod : LI) (a b : LI) (hM : 1<=M) : (mulL P M mod a b).length=M:=by unfold mulL;rw [Fg,jm,iy];omega
theorem tq {P : Int} (hP : 0<P) (M : Nat) (mod : LI) (a b : LI) : cU P (mulL P M mod a b):=cU.take hP (nM hP M mod (nK hP a b M _ M) _) M
structure tY (w : World) (P : Int) (m : Nat) (am : OA) (mn : Nat) (mod : LI) : Prop where
 ints : Ints w am mn mod
 low : 1<m->mn=m
 dig : cU P mod
theorem tY.aa {w w' : World} {P : Int} {m : Nat} {am : OA} {mn : Nat} {mod : LI} (h : tY w P m am mn mod) (hb : JA w w') : tY w' P m am mn mod:=⟨h.ints.aa hb,h.low,h.dig⟩
theorem sX {l : LI} {k i : Nat} (h : i<k) : nth (l.take k) i=nth l i:=by simp only [nth,EJ,FE,EH h]
theorem Ints.take {w : World} {a : OA} {n : Nat} {l : LI} (h : Ints w a n l) {k : Nat} (hk : k<=n) : Ints w a k (l.take k) :=
 ⟨by rw [Fg,h.len];omega,λh0=>h.pl (by omega),ET hk h.max,λi hi=>by rw [sX hi];exact h.cell i (by omega)⟩
theorem o7 (P : Int) (m : Nat) (am : OA) (mn cm : Nat) (mod : LI) (x y : Int) (w : World) (hf : RF P m) (hmod : tY w P m am mn mod) (hx : gZ (aH P m) x=true) (hy : gZ (aH P m) y=true) :
  Calls prog 149 #[.agg #[.int .i64 P,.int .i64 m,.slice am mn cm],.int .i64 x,.int .i64 y] w λe w'=>e = .returned (.int .i64 (mulR P m mod x y))/\JA w w':=by
 have hp2:=hf.p2;have hp256:=hf.p256;have hm1:=hf.m1;have hm8:=hf.m8;have Hx:=Z5 hx;have Hy:=Z5 hy;have Hdx:=Z5 (bu P m x);have Hdy:=Z5 (bu P m y);have Hbx:=Z5 (nY hf x);have Hby:=Z5 (nY hf y);have Hbm:=Z5 hmod.dig;have hplm:=hmod.ints.pl;have Hlow:=Z5 hmod.low;obtain ⟨n,hn⟩ : ∃n : Nat,2 * m - 1=n:=⟨_,rfl⟩
 have hn1 : m<=n:=by omega
 have hn2 : n<=15:=by omega
 have Hn:=Z5 hn;have hnv : 2 * (m : Int) - 1=n:=by omega
 have hnv2 : 2 * (m : Int) - 2=(n : Int) - 1:=by omega
 have Hnv2:=Z5 hnv2;clear hx hy hn hnv2;go_enter func149,ntmps149;go_wp2_with fail;obtain ⟨W,hW⟩ : ∃W : World,W=w.alloc (.cells #[.int .i64 P,.int .i64 m,.slice am mn cm] 24):=⟨_,rfl⟩
 rw [<- hW];have hbW : JA w W:=by rw [hW];exact aA _ _
 have x0 : ba W w.heap.size [.int .i64 P,.int .i64 m,.slice am mn cm]:=by rw [hW];exact Ja _ _ _ rfl
 have HX:=Z5 x0;clear hW x0;have hmW:=hmod.aa hbW;refine (ga P m am mn cm x W hf Hx.out).mono ?_;rintro e w1 ⟨a1,c1,rfl,hown1,hb1⟩;have x1:=HX.out.aa hb1;have d0:=x1.cell 0 rfl;have d1:=x1.cell 1 rfl;have d2:=x1.cell 2 rfl;rw [Hdx.out] at hown1 ⊢;clear x1;go_wp2_with fail;refine (ga P m am mn cm y w1 hf Hy.out).mono ?_;rintro e w2 ⟨a2,c2,rfl,hown2,hb2⟩;rw [Hdy.out] at hown2 ⊢;have hb12:=I8 hb1 hb2;have x1:=HX.out.aa hb12;have d0:=x1.cell 0 rfl;have d1:=x1.cell 1 rfl;have d2:=x1.cell 2 rfl;have hi1:=((I9 hown1).1).aa hb2;have hi2:=(I9 hown2).1;have hpl1:=hi1.pl;have hpl2:=hi2.pl;have hm2:=hmW.aa hb12;obtain ⟨D,hD⟩ : ∃D,bg x P m=D:=⟨_,rfl⟩
 obtain ⟨E,hE⟩ : ∃E,bg y P m=E:=⟨_,rfl⟩
 have HR : Hid (mulR P m mod x y=cO P (mulL P m mod D E)):=by show _=_;rw [mulR,hD,hE]
 rw [hD] at hi1 Hdx Hbx;rw [hE] at hi2 Hdy Hby;clear hD hE hown1 hown2 x1;go_wp2_with (at_make;refine bZ rfl _ _ 22 3 rfl (.int .i64 0) 8 underlying22 bh rfl n rfl rfl (by omega) (by unfold maxLen;omega) ?_;intro a3 w3 hown3 hb3 hge3 hlt3;have d0:=aj hb3 d0;have d1:=aj hb3 d1;have d2:=aj hb3 d2);have hP : 0<P:=by omega
 have hS : ∀V,JA w2 V->V.cell? ⟨w.heap.size,0,none⟩=some (.int .i64 P)/\V.cell? ⟨w.heap.size,1,none⟩=some (.int .i64 m)/\V.cell? ⟨w.heap.size,2,none⟩=some (.slice am mn cm)/\Ints V a1 m D/\Ints V a2 m E/\Ints V am mn mod:=by intro V hV;have x1:=(HX.out.aa hb12).aa hV;exact ⟨x1.cell 0 rfl,x1.cell 1 rfl,x1.cell 2 rfl,hi1.aa hV,hi2.aa hV,hm2.ints.aa hV⟩
 have HS:=Z5 hS;have HC : Hid (List.replicate n (Value.int .i64 0)=(sl P D E m n 0).map (Value.int .i64)):=by show _=_;simp [sl]
 rw [HC.out] at hown3;have ha3 : a3 ≠ none->w2.heap.size<=ah a3:=λ_=>hge3;have hb23:=hb12.trans (hb3.mono hb12.size);clear hS d0 d1 d2 hi1 hi2 hm2;go_loopw [10] (λiv wr=>∃i : Nat,i<=m/\iv = .int .i64 i/\wr.ownsRow w2.heap.size 3 1 (.slice a3 n n) n ((sl P D E m n i).map (Value.int .i64))/\bT a3 w3 wr) (λiv _=>m - (intOf iv).toNat);case atStart=>exact ⟨0,EL _,rfl,hown3,Jq _ _⟩
 case round =>
  obtain ⟨i,hi,rfl,hown,honly⟩:=hrel
  have hbr : JA w2 wr:=hb3.trans (honly.below ha3 hb3.size)
  obtain ⟨d0,d1,d2,j1,j2,j3⟩:=HS.out wr hbr
  by_cases hlt : i<m
  ·have Hci : Hid (sl P D E m n (i+1)=u9 P D E i (sl P D E m n i) m):=rfl
   have Hcd : Hid (cU P (sl P D E m n i)):=nK hP D E m n i
   have Hcl : Hid ((sl P D E m n i).length=n):=iy P D E m n i
   obtain ⟨C,hC⟩ : ∃C,sl P D E m n i=C:=⟨_,rfl⟩
   rw [hC] at hown Hci Hcd Hcl
   clear hC
   go_wp2_with fail
   go_loopw [11] (λiv wr=>∃j : Nat,j<=m/\iv = .int .i64 j/\wr.ownsRow w2.heap.size 3 1 (.slice a3 n n) n ((u9 P D E i C j).map (Value.int .i64))/\bT a3 w3 wr) (λiv _=>m - (intOf iv).toNat)
   case atStart=>exact ⟨0,EL _,rfl,hown,honly⟩
   case round =>
    obtain ⟨j,hj,rfl,hown2,honly2⟩:=hrel
    have hbr2 : JA w2 wr:=hb3.trans (honly2.below ha3 hb3.size)
    obtain ⟨d0,d1,d2,j1,j2,j3⟩:=HS.out wr hbr2
    by_cases hlt2 : j<m
    ·have Hcj : Hid (u9 P D E i C (j+1)=(u9 P D E i C j).set (i+j) ((nth (u9 P D E i C j) (i+j)+nth D i * nth E j) % P)):=rfl
     have hcd:=sM hP D E i Hcd.out j (i+j)
     obtain ⟨T,hT⟩ : ∃T,u9 P D E i C j=T:=⟨_,rfl⟩
     rw [hT] at hown2 Hcj hcd
     clear hT
     have hij : i+j<n:=by have:=Hn.out;omega
     obtain ⟨it,mt⟩:=I9 hown2
     have ct:=it.cell (i+j) hij
     have ft:=(mt (by omega)).2 (i+j) hij
     have hplt:=it.pl
     have cD:=j1.cell i hlt
     have cE:=j2.cell j hlt2
     have bD:=Hbx.out i
     have bE:=Hby.out j
     have hme:=jO bD.1 (show nth D i<=256 by omega) bE.1 (show nth E j<=256 by omega)
     have hP0 : P ≠ 0:=by omega
     obtain ⟨k,hk⟩ : ∃k,i+j=k:=⟨_,rfl⟩
     rw [hk] at ct ft Hcj hcd hij
     obtain ⟨Z,hZ⟩ : ∃Z,(nth T k+nth D i * nth E j) % P=Z:=⟨_,rfl⟩
     have Hcj2 : Hid (u9 P D E i C (j+1)=T.set k Z):=by show _=_;rw [Hcj.out,hZ]
     have r1 : IntKind.i64.wrap ((i : Int)+j)=(k : Int):=by rw [EU _ (by omega)];omega
     have r2 : IntKind.i64.wrap (nth D i * nth E j)=nth D i * nth E j:=EU _ (by omega)
     have r3 : IntKind.i64.wrap (nth T k+nth D i * nth E j)=nth T k+nth D i * nth E j:=EU _ (by omega)
     have r4 : (nth T k+nth D i * nth E j).tmod P=Z:=by rw [<- hZ];exact Fx _ _ (by omega)
     have q1 : (0 : Int)<=k:=by omega
     have q2 : (k : Int)<n:=by omega
     clear hZ hk Hcj
     go_wp2_with fail
     go_still_tail 24,(by kernel_rfl)
     change wpList _ _ _ _ _ wr.drew
     generalize hwd : wr.drew=wd
     have fd : wd.frozen? ⟨ah a3,aG a3+k,none⟩=false:=by rw [<- hwd];exact ft
     have cd : wd.cell? ⟨ah a3,aG a3+k,none⟩=some (.int .i64 (nth T k)):=by rw [<- hwd];exact ct
     have Hwd:=Z5 hwd
     clear hwd r1 r2 r3 r4
     go_wp2_with fail
     go_roundw
     case rel =>
      obtain rfl:=Hwd.out
      have hdr : bf wr wr.drew:=(Je wr).drew
      refine ⟨j+1,by omega,by go_num,?_,honly2.trans ((Jg hdr).trans (Jo _ k _ (by intro e;have:=hplt (by omega);rw [e] at this;cases this)))⟩
      have h1:=bz (w:=wr.drew) hown2 k hij (.int .i64 Z)
      rw [<- Ff,<- Hcj2.out] at h1
      exact h1
     case measure=>simp [intOf] <;> omega
    ·obtain rfl : j=m:=by omega
     go_wp2_with fail
     go_roundw
     case rel=>exact ⟨i+1,by omega,by go_num,by rw [Hci.out];exact hown2,honly2⟩
     case measure=>simp [intOf] <;> omega
  ·obtain rfl : i=m:=by omega
   have hw2:=Hnv2.out
   obtain ⟨C,hC⟩ : ∃C,sl P D E i n i=C:=⟨_,rfl⟩
   have Hcd : Hid (cU P C):=by show cU P C;rw [<- hC];exact nK hP D E i n i
   have Hcl : Hid (C.length=n):=by show _=_;rw [<- hC];exact iy P D E i n i
   have HL : Hid (mulL P i mod D E=(qz P i mod C (i - 1)).take i):=by show _=_;rw [mulL,Hn.out,hC]
   rw [hC] at hown
   clear hC
   go_wp2_with fail
   clear hw2 hnv
   go_loopw [12] (λiv wr=>∃k t : Nat,t+k+1=n/\k<=i - 1/\iv = .int .i64 t/\wr.ownsRow w2.heap.size 3 1 (.slice a3 n n) n ((qz P i mod C k).map (Value.int .i64))/\bT a3 w3 wr) (λiv _=>(intOf iv).toNat)
   case atStart=>exact ⟨0,n - 1,by omega,by omega,by congr 1;omega,hown,honly⟩
   case round =>
    obtain ⟨k,t,htk,hk,rfl,hownk,honlyk⟩:=hrel
    have hbk : JA w2 wr:=hb3.trans (honlyk.below ha3 hb3.size)
    obtain ⟨d0,d1,d2,j1,j2,j3⟩:=HS.out wr hbk
    by_cases hti : i<=t
    ·have hn':=Hn.out
     have hi1 : 1<i:=by omega
     have hmn:=Hlow.out hi1
     have Hrk : Hid (qz P i mod C (k+1)=qT P i mod t (qz P i mod C k) i):=by show _=_;rw [qz,show 2 * i - 2 - k=t by omega]
     have Hrd : Hid (cU P (qz P i mod C k)):=nM hP i mod Hcd.out k
     have Hrl : Hid ((qz P i mod C k).length=n):=by show _=_;rw [jm];exact Hcl.out
     obtain ⟨C2,hC2⟩ : ∃C2,qz P i mod C k=C2:=⟨_,rfl⟩
     rw [hC2] at hownk Hrk Hrd Hrl
     have Htk:=Z5 htk
     clear hC2 hn'
     go_wp2_with fail
     go_loopw [13] (λiv wr=>∃j : Nat,j<=i/\iv = .int .i64 j/\wr.ownsRow w2.heap.size 3 1 (.slice a3 n n) n ((qT P i mod t C2 j).map (Value.int .i64))/\bT a3 w3 wr) (λiv _=>i - (intOf iv).toNat)
     case atStart=>exact ⟨0,EL _,rfl,hownk,honlyk⟩
     case round =>
      obtain ⟨j,hj,rfl,hown2,honly2⟩:=hrel
      have hbr2 : JA w2 wr:=hb3.trans (honly2.below ha3 hb3.size)
      obtain ⟨d0,d1,d2,j1,j2,j3⟩:=HS.out wr hbr2
      by_cases hlt2 : j<i
      ·have Hcj : Hid (qT P i mod t C2 (j+1)=(qT P i mod t C2 j).set (t - i+j) ((nth (qT P i mod t C2 j) (t - i+j)+(P - nth (qT P i mod t C2 j) t) * nth mod j) % P)):=rfl
       have hcd:=sr hP i mod t Hrd.out j
       obtain ⟨T,hT⟩ : ∃T,qT P i mod t C2 j=T:=⟨_,rfl⟩
       rw [hT] at hown2 Hcj hcd
       clear hT
       obtain ⟨it,mt⟩:=I9 hown2
       obtain ⟨u,hu⟩ : ∃u,t - i+j=u:=⟨_,rfl⟩
       have hun : u<n:=by omega
       have htn : t<n:=by omega
       have hjmn : j<mn:=by omega
       have ct:=it.cell u hun
       have ctt:=it.cell t htn
       have cM:=j3.cell j hjmn
       have ft:=(mt (by omega)).2 u hun
       have hplt:=it.pl
       have b1:=hcd u
       have b2:=hcd t
       have b3:=Hbm.out j
       have hme:=jO (show 0<=P - nth T t by omega) (show P - nth T t<=256 by omega) b3.1 (show nth mod j<=256 by omega)
       have hP0 : P ≠ 0:=by omega
       rw [hu] at Hcj
       obtain ⟨Z,hZ⟩ : ∃Z,(nth T u+(P - nth T t) * nth mod j) % P=Z:=⟨_,rfl⟩
       have Hcj2 : Hid (qT P i mod t C2 (j+1)=T.set u Z):=by show _=_;rw [Hcj.out,hZ]
       obtain ⟨v,hv⟩ : ∃v,t - i=v:=⟨_,rfl⟩
       have r0 : IntKind.i64.wrap ((t : Int) - i)=(v : Int):=by rw [EU _ (by omega)];omega
       have r1 : IntKind.i64.wrap ((v : Int)+j)=(u : Int):=by rw [EU _ (by omega)];omega
       have r2 : IntKind.i64.wrap (P - nth T t)=P - nth T t:=EU _ (by omega)
       have r3 : IntKind.i64.wrap ((P - nth T t) * nth mod j)=(P - nth T t) * nth mod j:=EU _ (by omega)
       have r4 : IntKind.i64.wrap (nth T u+(P - nth T t) * nth mod j)=nth T u+(P - nth T t) * nth mod j:=EU _ (by omega)
       have r5 : (nth T u+(P - nth T t) * nth mod j).tmod P=Z:=by rw [<- hZ];exact Fx _ _ (by omega)
       have q1 : (0 : Int)<=u:=by omega
       have q2 : (u : Int)<n:=by omega
       have q3 : (t : Int)<n:=by omega
       have q4 : (j : Int)<mn:=by omega
       clear hZ hu hv Hcj htk hmn
       go_wp2_with fail
       go_still_tail 34,(by kernel_rfl)
       change wpList _ _ _ _ _ wr.drew
       generalize hwd : wr.drew=wd
       have fd : wd.frozen? ⟨ah a3,aG a3+u,none⟩=false:=by rw [<- hwd];exact ft
       have cd : wd.cell? ⟨ah a3,aG a3+u,none⟩=some (.int .i64 (nth T u)):=by rw [<- hwd];exact ct
       have Hwd:=Z5 hwd
       clear hwd r0 r1 r2 r3 r4 r5
       go_wp2_with fail
       go_roundw
       case rel =>
        obtain rfl:=Hwd.out
        have hdr : bf wr wr.drew:=(Je wr).drew
        refine ⟨j+1,by omega,by go_num,?_,honly2.trans ((Jg hdr).trans (Jo _ u _ (by intro e;have:=hplt (by omega);rw [e] at this;cases this)))⟩
        have h1:=bz (w:=wr.drew) hown2 u hun (.int .i64 Z)
        rw [<- Ff,<- Hcj2.out] at h1
        exact h1
       case measure=>simp [intOf] <;> omega
      ·obtain rfl : j=i:=by omega
       go_wp2_with fail
       go_roundw
       case rel=>exact ⟨k+1,t - 1,by have:=Htk.out;omega,by have:=Htk.out;have:=Hn.out;omega,by congr 1;omega,by rw [Hrk.out];exact hown2,honly2⟩
       case measure=>simp [intOf] <;> omega
    ·have hki : k=i - 1:=by have:=Hn.out;omega
     have hfin : Hid (cO P ((qz P i mod C k).take i)=mulR P i mod x y):=by show _=_;rw [HR.out,HL.out,hki]
     have hdig : cU P ((qz P i mod C k).take i):=cU.take hP (nM hP i mod Hcd.out k) i
     have hlen : ((qz P i mod C k).take i).length=i:=by rw [Fg,jm,Hcl.out];omega
     have hbd:=cU.Em hf hdig hlen
     have hit:=(I9 hownk).1
     have hin : i<=n:=hn1
     have hit2 : Ints wr a3 i ((qz P i mod C k).take i):=hit.take hin
     have Hbd:=Z5 hbd
     have hin' : (i : Int)<=n:=by omega
     have hbwr : JA w wr:=(I8 hbW hb12).trans (hbk.mono (by have h1:=hb12.size;have h2:=hbW.size;omega))
     have hS2 : ∀V,JA wr V->V.cell? ⟨w.heap.size,0,none⟩=some (.int .i64 P)/\V.cell? ⟨w.heap.size,1,none⟩=some (.int .i64 i)/\V.cell? ⟨w.heap.size,2,none⟩=some (.slice am mn cm)/\JA wr V :=
      λV hV=>⟨aj hV d0,aj hV d1,aj hV d2,hV⟩
     have HS2:=Z5 hS2
     have Hit2 : Hid (∀V,JA wr V->Ints V a3 i ((qz P i mod C k).take i)):=λV hV=>hit2.aa hV
     clear hki hlen hdig hbd hS2 hit hit2 htk
     go_wp2_with fail
     go_region_held3 (λV=>V.cell? ⟨w.heap.size,0,none⟩=some (.int .i64 P)/\V.cell? ⟨w.heap.size,1,none⟩=some (.int .i64 i)/\V.cell? ⟨w.heap.size,2,none⟩=some (.slice am mn cm)/\JA wr V)
      ((refine HS2.out _ ?_;first | exact (EI _ _).drew | (go_split_ands;exact I8 (by assumption) (by assumption))))
      (first
       | (go_at_call 198;((with_reducible refine (kO P i am mn cm a3 i n _ _ (Hit2.out _ (EI _ _).drew) (by omega) (by omega) (by omega) Hbd.out).mono ?_);rintro e w4 ⟨rfl,hb4⟩)))
     go_wp2_with fail
     go_ret
     exact ⟨aF hfin.out,I8 hbwr (by go_split_ands;assumption)⟩
structure rT (w : World) (P : Int) (m : Nat) (am : OA) (mn : Nat) (mod : LI) : Prop where
 rf : RF P m
 mods : tY w P m am mn mod
theorem rT.aa {w w' : World} {P : Int} {m : Nat} {am : OA} {mn : Nat} {mod : LI} (h : rT w P m am mn mod) (hb : JA w w') : rT w' P m am mn mod:=⟨h.rf,h.mods.aa hb⟩
theorem RF.gZ {P : Int} {m : Nat} (h : RF P m) {x : Int} (hx : ef P m x) : gZ (aH P m) x=true:=by unfold Proofs.YtjfiflldinnhmaaGreat.gZ;rw [h.order];simp [hx.1,hx.2]
theorem RF.el {P : Int} {m : Nat} (h : RF P m) {x : Int} (hx : Proofs.YtjfiflldinnhmaaGreat.gZ (aH P m) x=true) : ef P m x:=by unfold Proofs.YtjfiflldinnhmaaGreat.gZ at hx;rw [h.order] at hx;simp at hx;exact hx
theorem rJ {P : Int} {m : Nat} (h : RF P m) (mod : LI) (x y : Int) : ef P m (mulR P m mod x y):=by
 have hP : 0<P:=by have:=h.p2;omega
 have:=kR hP (mulL P m mod (bg x P m) (bg y P m)) (tq hP m mod _ _);rwa [uJ P mod _ _ h.m1] at this
def gd (f : Int->Int) : Nat->Int->Int
 | 0,_=>0
 | n+1,y=>if f y=1 then y else gd f n (y+1)
def fE (P : Int) (m : Nat) (mod : LI) (x : Int) : Int:=gd (mulR P m mod x) ((aH P m).toNat - 1) 1
def kn (P : Int) (m : Nat) (mod : LI) : aL:=⟨du P m,mulR P m mod,eQ P m,fE P m mod⟩
theorem tz (f : Int->Int) : ∀(n : Nat) (y : Int),0<=y->0<=gd f n y/\(gd f n y<y+n\/gd f n y=0)
 | 0,y,h=>by simp [gd]
 | n+1,y,h=>by
  unfold gd;split
  ·omega
  ·have:=tz f n (y+1) (by omega);omega
theorem xq {P : Int} {m : Nat} (h : RF P m) (mod : LI) (x : Int) : ef P m (fE P m mod x):=by have h1:=tz (mulR P m mod x) ((aH P m).toNat - 1) 1 (by omega);have h2:=h.order;have h3:=one_lt_pow h.res;unfold fE ef;omega
theorem EB {P : Int} {m : Nat} (h : RF P m) (mod : LI) : pz (kn P m mod) (ef P m) :=
 ⟨λx y _ _=>fP h.res x y,λx y _ _=>rJ h mod x y,λx _=>su h.res x,λx _ _=>xq h mod x⟩
theorem zS (P : Int) (m : Nat) (am : OA) (mn cm : Nat) (mod : LI) (x : Int) (w : World) (hf : rT w P m am mn mod) (hx : ef P m x) :
  Calls prog 240 #[.agg #[.int .i64 P,.int .i64 m,.slice am mn cm],.int .i64 x] w λe w'=>e = .returned (.int .i64 (fE P m mod x))/\JA w w':=by
 have hrf:=hf.rf;have Hq:=Z5 (hrf.gZ hx);have hord:=hrf.order;have h256:=hrf.pw;obtain ⟨q,hq⟩ : ∃q : Nat,P ^ m=q:=⟨(P ^ m).toNat,by have:=one_lt_pow hrf.res;omega⟩
 have hq2 : 2<=q:=by have:=one_lt_pow hrf.res;omega
 have hord2 : aH P m=q:=by rw [hord,hq]
 have Hord:=Z5 hord2;have HI : Hid (fE P m mod x=gd (mulR P m mod x) (q - 1) 1):=by show _=_;rw [fE,hord2];simp
 have Hel : Hid (∀k : Nat,k<q->gZ (aH P m) k=true):=λk hk=>hrf.gZ ⟨by omega,by rw [hq];omega⟩;have hq256 : q<=256:=by omega
 clear hord hq hord2 h256;go_enter func240,ntmps240;go_wp2_with fail;obtain ⟨W,hW⟩ : ∃W : World,W=w.alloc (.cells #[.int .i64 P,.int .i64 m,.slice am mn cm] 24):=⟨_,rfl⟩
 rw [<- hW];have hbW : JA w W:=by rw [hW];exact aA _ _
 have x0 : ba W w.heap.size [.int .i64 P,.int .i64 m,.slice am mn cm]:=by rw [hW];exact Ja _ _ _ rfl
 have HX:=Z5 x0;clear hW x0;have hfW:=hf.aa hbW;go_loopw [5] (λyv wr=>∃y : Nat,1<=y/\y<=q/\yv = .int .i64 y/\Hid (fE P m mod x=gd (mulR P m mod x) (q - y) y)/\JA W wr) (λyv _=>q - (intOf yv).toNat);case atStart=>exact ⟨1,by omega,by omega,rfl,by show _=_;rw [HI.out];rfl,EI _ _⟩
 case round =>
  obtain ⟨y,hy1,hyq,rfl,hinv,hbr⟩:=hrel
  have x1:=HX.out.aa hbr
  have d0:=x1.cell 0 rfl
  have d1:=x1.cell 1 rfl
  have d2:=x1.cell 2 rfl
  clear x1
  go_wp2_with fail
  refine (kD P m am mn cm wr).mono ?_
  rintro e w1 ⟨rfl,hb1⟩
  rw [Hord.out]
  have hbr1:=I8 hbr hb1
  have x1:=HX.out.aa hbr1
  have d0:=x1.cell 0 rfl
  have d1:=x1.cell 1 rfl
  have d2:=x1.cell 2 rfl
  clear x1
  by_cases hlt : y<q
  ·have hlt' : (y : Int)<q:=by omega
   have hst : gd (mulR P m mod x) (q - y) y=if mulR P m mod x y=1 then (y : Int) else gd (mulR P m mod x) (q - (y+1)) (y+1):=by rw [show q - y=(q - (y+1))+1 by omega,gd]
   have Hst:=Z5 hst
   clear hst
   go_wp2_with fail
   refine (o7 P m am mn cm mod x y w1 hrf ((hfW.aa hbr1).mods) Hq.out (Hel.out y hlt)).mono ?_
   rintro e w2 ⟨rfl,hb2⟩
   have hbr2:=I8 hbr1 hb2
   by_cases h1 : mulR P m mod x y=1
   ·have Hf : Hid (fE P m mod x=y):=by show _=_;rw [hinv.out,Hst.out,EH h1]
    rw [h1]
    clear h1
    go_wp2_with fail
    go_ret
    exact ⟨aF Hf.out.symm,I8 hbW hbr2⟩
   ·have Hf : Hid (fE P m mod x=gd (mulR P m mod x) (q - (y+1)) ((y+1 : Nat) : Int)):=by show _=_;rw [hinv.out,Hst.out,EG h1];rfl
    have h1' : (mulR P m mod x y == 1)=false:=by simpa using h1
    clear h1
    go_wp2_with fail
    go_roundw
    case rel=>exact ⟨y+1,by omega,by omega,by go_num,Hf.out,hbr2⟩
    case measure=>simp [intOf] <;> omega
  ·obtain rfl : y=q:=by omega
   have Hf : Hid (fE P m mod x=0):=by show _=_;rw [hinv.out,Ge];rfl
   go_wp2_with fail
   go_ret
   exact ⟨aF Hf.out.symm,I8 hbW hbr1⟩
theorem vR (P : Int) (m : Nat) (am : OA) (mn cm : Nat) (mod : LI) (s : Int) (a : OA) (n c : Nat) (l : LI) (w : World) (hf : rT w P m am mn mod) (hs : ef P m s) (hi : Ints w a n l) (hl : ∀x ∈ l,ef P m x) (hn : n<=1000000) :
  Calls prog 239 #[.agg #[.int .i64 P,.int .i64 m,.slice am mn cm],.int .i64 s,.slice a n c] w (cB w (l.map (mulR P m mod s))):=by
 have hrf:=hf.rf;have Hs:=Z5 (hrf.gZ hs);have Hlen:=Z5 hi.len;have hpl:=hi.pl;have Hl : Hid (∀k,k<n->gZ (aH P m) (nth l k)=true):=λk hk=>hrf.gZ (hl _ (aO (by rw [hi.len];exact hk)));clear hl;go_enter func239,ntmps239;go_wp2_with (at_make;refine bZ rfl _ _ 22 3 rfl (.int .i64 0) 8 underlying22 bh rfl n rfl rfl (by omega) (by unfold maxLen;omega) ?_;intro a1 w1 hown hbel hge hlt);obtain ⟨W,hW⟩ : ∃W : World,W=w.alloc (.cells #[.int .i64 P,.int .i64 m,.slice am mn cm] 24):=⟨_,rfl⟩
 rw [<- hW] at hown hbel hge;have hbW : JA w W:=by rw [hW];exact aA _ _
 have x0 : ba W w.heap.size [.int .i64 P,.int .i64 m,.slice am mn cm]:=by rw [hW];exact Ja _ _ _ rfl
 have hfW:=hf.aa hbW;have hiW:=hi.aa hbW;have hS : ∀k,k<n->∀V,JA W V->V.cell? ⟨w.heap.size,0,none⟩=some (.int .i64 P)/\V.cell? ⟨w.heap.size,1,none⟩=some (.int .i64 m)/\V.cell? ⟨w.heap.size,2,none⟩=some (.slice am mn cm) /\
   V.cell? ⟨ah a,aG a+k,none⟩=some (.int .i64 (nth l k))/\JA W V:=by intro k hk V hV;have x1:=x0.aa hV;exact ⟨x1.cell 0 rfl,x1.cell 1 rfl,x1.cell 2 rfl,(hiW.aa hV).cell k hk,hV⟩
 have HS:=Z5 hS;clear hW x0 hS;go_loopw [8] (λiv wr=>∃k : Nat,k<=n/\iv = .int .i64 k /\
   wr.ownsRow W.heap.size 3 1 (.slice a1 n n) n ((cH ((l.take k).map (mulR P m mod s)) k n).map (Value.int .i64))/\JA W wr)
  (λi _=>n - (intOf i).toNat)
 case atStart=>exact ⟨0,EL _,rfl,by simpa [cH] using hown,hbel⟩
 case round =>
  obtain ⟨k,hk,rfl,hown,hbel⟩:=hrel
  obtain ⟨hints,hmine⟩:=I9 hown
  have hpl1:=hints.pl
  by_cases hlt : k<n
  ·have HSk : Hid (∀V, JA W V -> V.cell? ⟨w.heap.size, 0, none⟩ = some (.int .i64 P) /\ V.cell? ⟨w.heap.size, 1, none⟩ = some (.int .i64 m) /\ V.cell? ⟨w.heap.size, 2, none⟩ = some (.slice am mn cm) /\
     V.cell? ⟨ah a,aG a+k,none⟩=some (.int .i64 (nth l k))/\JA W V):=HS.out k hlt
   have hB:=(hmine (by omega)).1
   have HB:=Z5 hB
   have Hbel:=Z5 hbel
   have HK : Hid (∀V,Below wr.drew.heap.size wr.drew V->(∃v,V.cell? ⟨ah a1,aG a1+k,none⟩=some v)/\V.frozen? ⟨ah a1,aG a1+k,none⟩=false/\JA wr V):=λV hV=>by have hV' : JA wr V:=I8 (EI _ _).drew hV;have ho:=aY hown hV';exact ⟨⟨_,(I9 ho).1.cell k hlt⟩,((I9 ho).2 (by omega)).2 k hlt,hV'⟩
   have hmd:=(hfW.aa hbel).mods
   have Hmd : Hid (tY wr.drew P m am mn mod):=hmd.aa (EI _ _).drew
   clear hB hbel hmd
   go_wp2_with fail
   go_region_held3 (λV=>V.cell? ⟨w.heap.size,0,none⟩=some (.int .i64 P)/\V.cell? ⟨w.heap.size,1,none⟩=some (.int .i64 m)/\V.cell? ⟨w.heap.size,2,none⟩=some (.slice am mn cm) /\
     V.cell? ⟨ah a,aG a+k,none⟩=some (.int .i64 (nth l k))/\JA W V)
    ((refine HSk.out _ ?_;first | exact Hbel.out.drew | exact I8 Hbel.out hb9 | exact (I8 Hbel.out hb9).setCell HB.out _))
    (first
     | (go_at_call 149;((with_reducible refine (o7 P m am mn cm mod s (nth l k) _ hrf Hmd.out Hs.out (Hl.out k hlt)).mono ?_);rintro e w4 ⟨rfl,hb4⟩;obtain ⟨⟨v9,k9⟩,f9,hb9⟩:=HK.out w4 hb4)))
   clear k9 f9
   go_wp2_with fail
   go_roundw
   case rel =>
    refine ⟨k+1,by omega,by go_num,?_,(I8 Hbel.out hb9).setCell HB.out _⟩
    have h:=bz (aY hown hb9) k hlt (.int .i64 (mulR P m mod s (nth l k)))
    rw [<- Ff,en _ _ _ _ (by simp [Hlen.out];omega) hlt] at h
    rw [EV (by rw [Hlen.out];omega),FD]
    rw [ai (by rw [Hlen.out];omega)] at h ⊢
    exact h
   case measure=>simp [intOf] <;> omega
  ·obtain rfl : k=n:=by omega
   have hfin : cH ((l.take k).map (mulR P m mod s)) k k=l.map (mulR P m mod s):=by rw [eZ,ES (by rw [Hlen.out];exact EF _)]
   rw [hfin] at hown
   have Hl2 : Hid ((l.map (mulR P m mod s)).length=k):=by show _=_;simp [Hlen.out]
   clear hfin
   go_wp2_with fail
   go_ret
   exact ⟨a1,k,by rw [Hl2.out];rfl,by rw [Hl2.out];exact aW hown hbW.size,I8 hbW hbel⟩
section
structure C0 (O O' : aL) (El : Int->Prop) : Prop where
 add : ∀x y,El x->El y->O.add x y=O'.add x y
 mul : ∀x y,El x->El y->O.mul x y=O'.mul x y
 neg : ∀x,El x->O.neg x=O'.neg x
 inv : ∀x,El x->x ≠ 0->O.inv x=O'.inv x
variable {O O' : aL} {El : Int->Prop}
theorem oB (h : C0 O O' El) (hO : pz O El) : ∀(v u : LI) (s : Int),(∀x ∈ v,El x)->(∀x ∈ u,El x)->El s->cw O v s u=cw O' v s u
 | [],_,_,_,_,_=>by simp [cw]
 | _ :: _,[],_,_,_,_=>by simp [cw]
 | x :: v,y :: u,s,hv,hu,hs=>by have ih:=oB h hO v u s (λz hz=>hv z (by simp [hz])) (λz hz=>hu z (by simp [hz])) hs;unfold cw at ih ⊢;have hx:=hv x (by simp);have hy:=hu y (by simp);simp only [H9,ih];rw [h.mul s y hs hy,h.add x _ hx (by rw [<- h.mul s y hs hy];exact hO.mul s y hs hy)]
theorem sd (h : C0 O O' El) (hO : pz O El) {pv r : LI} {c m : Nat} (hc : c<m) (hp : pv.length=m/\∀x ∈ pv,El x) (hr : r.length=m/\∀x ∈ r,El x) : bW O pv c r=bW O' pv c r:=by
 have hel : El (nth r c):=hr.2 _ (aO (by omega));unfold bW;rw [h.neg _ hel];split
 ·rfl
 ·exact oB h hO _ _ _ hr.2 hp.2 (by rw [<- h.neg _ hel];exact hO.neg _ hel)
theorem mP (h : C0 O O' El) (hO : pz O El) {m : Nat} {L : LL} (hL : bx El m L) {t c : Nat} (ht : t<L.length) (hc : c<m) : ∀i,i<=L.length->aT O t c L i=aT O' t c L i
 | 0,_=>rfl
 | i+1,hi=>by
  have ih:=mP h hO hL ht hc i (by omega);have hR:=Jm hO hL ht hc i (by omega);have hl:=cR O t c L i;unfold aT;rw [<- ih];split
  ·rfl
  ·rw [sd h hO hc (hR.row (by omega)) (hR.row (by omega))]
theorem tk (h : C0 O O' El) (hO : pz O El) {m : Nat} {L : LL} (hL : bx El m L) {t c : Nat} (ht : t<L.length) (hc : c<m) (h0 : nth (af L t) c ≠ 0) : bw O L t c=bw O' L t c:=by
 have hr:=hL.row ht;have hel : El (nth (af L t) c):=hr.2 _ (aO (by omega));unfold bw;rw [h.inv _ hel h0];split
 ·rfl
 ·congr 1;refine GV λx hx=>?_;exact h.mul _ _ (by rw [<- h.inv _ hel h0];exact hO.inv _ hel h0) (hr.2 x hx)
theorem wL (h : C0 O O' El) (hO : pz O El) {m : Nat} {L : LL} (hL : bx El m L) {t k c : Nat} (ht : t<L.length) (hk : k<L.length) (hc : c<m) (h0 : nth (af L k) c ≠ 0) (htk : t<=k) :
  et O L t k c=et O' L t k c/\bx El m (et O L t k c):=by
 have hL1 : bx El m (if k=t then L else bm L t k):=by split;exact hL;exact hL.swap ht hk
 have hl1 : (if k=t then L else bm L t k).length=L.length:=by split;rfl;exact dc _ _ _
 have hn1 : nth (af (if k=t then L else bm L t k) t) c ≠ 0:=by
  split
  ·rename_i e;subst e;exact h0
  ·rename_i e;have : af (bm L t k) t=af L k:=by unfold bm;rw [eg _ _ _ _ (by simpa using hk),EG (by omega),eg _ _ _ _ ht,EH rfl]
   rw [this];exact h0
 rw [gH,gH,<- tk h hO hL1 (by omega) hc hn1];have hL2:=hL1.norm hO (t:=t) (c:=c) (by omega) hc hn1;have hl2 : (bw O (if k=t then L else bm L t k) t c).length=L.length:=by rw [cP,hl1]
 exact ⟨mP h hO hL2 (by omega) hc _ (by omega),Jm hO hL2 (by omega) hc _ (by omega)⟩
theorem kC (h : C0 O O' El) (hO : pz O El) {m : Nat} {L : LL} (hL : bx El m L) : ∀k,k<=m->aB O L k=aB O' L k/\bx El m (aB O L k).1
 | 0,_=>⟨rfl,hL⟩
 | k+1,hk=>by
  obtain ⟨h1,h2⟩:=kC h hO hL k (by omega);obtain ⟨Lk,P,hLP⟩ : ∃Lk P,aB O L k=(Lk,P):=⟨_,_,rfl⟩
  rw [hLP] at h1 h2;have hlen : Lk.length=L.length:=by have:=cN O L k;rw [hLP] at this;exact this
  by_cases hlt : P.length<Lk.length
  ·rw [dn hLP.symm hlt,dn h1 hlt];by_cases hf : aM Lk k P.length=Lk.length
   ·rw [EH hf,EH hf];exact ⟨rfl,h2⟩
   ·rw [EG hf,EG hf];have hb:=jf (L:=Lk) (c:=k) (k:=P.length) (by omega);have hne : nth (af Lk (aM Lk k P.length)) k ≠ 0:=eB Lk k (Lk.length - P.length) P.length (by have : dJ Lk k P.length (Lk.length - P.length)=aM Lk k P.length:=rfl;omega);have hlt2 : aM Lk k P.length<Lk.length:=by omega
    have:=wL h hO (L:=Lk) h2 (t:=P.length) (k:=aM Lk k P.length) (c:=k) hlt hlt2 (by omega) hne hb.1;exact ⟨by rw [this.1],this.2⟩
  ·have e : ∀(O : aL),aB O L k=(Lk,P)->aB O L (k+1)=(Lk,P):=λO he=>by rw [aB];simp only [he];rw [EG hlt]
   rw [e O hLP,e O' h1.symm];exact ⟨rfl,h2⟩
end
section
variable {P : Int} {M : Nat} {low : Nat->Int}
def vX (M : Nat) (low : Nat->Int) (n : Nat) (c : LI) : Nat->Int:=λi=>sm n (λk=>nth c k * ee M low k (eV 0) i)
theorem C3 {n k : Nat} {c : LI} {z : Int} (f : Nat->Int) (hk : k<n) (hl : k<c.length) : sm n (λj=>nth (c.set k z) j * f j)=sm n (λj=>nth c j * f j)+(z - nth c k) * f k:=by
 have h1 : sm n (λj=>nth (c.set k z) j * f j)=sm n (λj=>nth c j * f j+(if j=k then (z - nth c k) * f k else 0)):=bC λj _=>by
  rw [cX _ _ _ _ hl];by_cases e : j=k
  ·subst e;rw [EH rfl,EH rfl,Il];omega
  ·rw [EG e,EG e];omega
 rw [h1,sH];congr 1;rw [jc hk λi _ hne=>EG hne,EH rfl]
theorem tC {n k : Nat} {c : LI} {d : Int} (hk : k<n) (hl : k<c.length) :
  Cg P (vX M low n (c.set k ((nth c k+d) % P))) (λi=>vX M low n c i+d * ee M low k (eV 0) i):=λi=>by
 simp only [vX];rw [C3 (λj=>ee M low j (eV 0) i) hk hl];obtain ⟨e,he⟩:=mb P (nth c k+d);refine ⟨e * ee M low k (eV 0) i,?_⟩;have h1 : (nth c k+d) % P - nth c k=d+P * e:=by omega
 rw [h1,Ij,FB];omega
theorem zT {a b : LI} {i n : Nat} {c : LI} (hl : c.length=n) : ∀j,i+j<=n ->
  Cg P (vX M low n (u9 P a b i c j)) (λs=>vX M low n c s+sm j (λj=>nth a i * nth b j * ee M low (i+j) (eV 0) s))
 | 0,_=>Jn (by funext s;simp [u9,sm])
 | j+1,hj=>by have ih:=zT (a:=a) (b:=b) (i:=i) hl j (by omega);rw [u9];refine (tC (by omega) (by rw [rQ];omega)).trans ((Cg.add ih (Ju P _)).trans (Jn ?_));funext s;simp only [sm];omega
theorem AY {a b : LI} {n : Nat} (hn : 2 * M - 1<=n) (hM : 1<=M) : ∀i,i<=M ->
  Cg P (vX M low n (sl P a b M n i)) (λs=>sm i (λi=>sm M (λj=>nth a i * nth b j * ee M low (i+j) (eV 0) s)))
 | 0,_=>Jn (by
  funext s;simp only [vX,sl,sm];rw [bC (g:=λ_=>0) λk _=>by
   have : nth (List.replicate n 0) k=0:=by simp only [nth,EJ,E9];split <;> rfl
   rw [this,Int.zero_mul],ik])
 | i+1,hi=>by have ih:=AY (a:=a) (b:=b) hn hM i (by omega);rw [sl];refine (zT (iy P a b M n i) M (by omega)).trans ((Cg.add ih (Ju P _)).trans (Jn ?_));funext s;simp only [sm]
theorem DR (hM : 1<=M) : ee M low M (eV 0)=λi=>if i<M then - low i else 0:=by
 obtain ⟨m,rfl⟩ : ∃m,M=m+1:=⟨M - 1,by omega⟩
 rw [ee,xK m (by omega)];funext i;simp only [pR,eV];by_cases h : i<m+1
 ·rw [EH h,EH h,GZ];by_cases h0 : i=0
  ·rw [EH h0,EH rfl];omega
  ·rw [EG h0,EG (by omega),EH rfl];omega
 ·rw [EG h,EG h]
theorem Di (hM : 1<=M) (t : Nat) : (λs=>sm M (λj=>low j * ee M low (t+j) (eV 0) s))=λs=>- ee M low (t+M) (eV 0) s:=by
 have h1 : (λs=>sm M (λj=>low j * ee M low (t+j) (eV 0) s))=ee M low t (λs=>sm M (λj=>low j * ee M low j (eV 0) s)):=by rw [ry];funext s;refine bC λj _=>?_;rw [iS,lG]
 have h2 : (λs=>sm M (λj=>low j * ee M low j (eV 0) s))=λs=>(-1) * ee M low M (eV 0) s:=by
  funext s;rw [congrFun (DR (low:=low) hM) s];have h3 : sm M (λj=>low j * ee M low j (eV 0) s)=sm M (λj=>low j * eV j s):=bC λj hj=>by rw [xK j hj]
  rw [h3];by_cases hs : s<M
  ·rw [jc hs λi _ hne=>by simp only [eV];rw [EG (by omega)];omega];rw [EH hs];simp [eV]
  ·rw [EG hs,bC (g:=λ_=>0) λj hj=>by simp only [eV];rw [EG (by omega)];omega,ik];rfl
 rw [h1,h2,iS];funext s;rw [<- lG];omega
theorem xT {mod : LI} {i : Nat} {c : LI} (hi : M<=i) (hl : i<c.length) : ∀j,j<=M->nth (qT P M mod i c j) i=nth c i
 | 0,_=>rfl
 | j+1,hj=>by rw [qT,cX _ _ _ _ (by rw [nF];omega),EG (by omega)];exact xT hi hl j (by omega)
theorem Bu {mod : LI} {i : Nat} {c : LI} (hi : M<=i) (hl : i<c.length) : ∀j,j<=M ->
  Cg P (vX M low i (qT P M mod i c j)) (λs=>vX M low i c s+(- nth c i) * sm j (λj=>nth mod j * ee M low (i - M+j) (eV 0) s))
 | 0,_=>Jn (by funext s;simp [qT,sm])
 | j+1,hj=>by have ih:=Bu (mod:=mod) hi hl j (by omega);rw [qT,xT hi hl j (by omega)];refine (tC (by omega) (by rw [nF];omega)).trans ?_;refine (Cg.add ih (Ju P _)).trans ?_;intro s;simp only [sm];generalize sm j (λj=>nth mod j * ee M low (i - M+j) (eV 0) s)=X;generalize ee M low (i - M+j) (eV 0) s=Y;refine ⟨nth mod j * Y,?_⟩;simp only [FO,Il,Int.neg_mul,FB];omega
theorem Ai {mod : LI} (hM : 1<=M) (hlow : ∀j,low j=nth mod j) {c : LI} (hl : c.length=2 * M - 1) : ∀k,k<=M - 1 ->
  Cg P (vX M low (2 * M - 1 - k) (qz P M mod c k)) (vX M low (2 * M - 1) c)
 | 0,_=>Ju P _
 | k+1,hk=>by
  have ih:=Ai hM hlow hl k (by omega);rw [qz];refine Jz ?_ ih;obtain ⟨i,hi⟩ : ∃i,2 * M - 2 - k=i:=⟨_,rfl⟩
  rw [hi,show 2 * M - 1 - (k+1)=i by omega,show 2 * M - 1 - k=i+1 by omega];refine (Bu (low:=low) (by omega) (by rw [jm];omega) M (EF _)).trans (Jn ?_);funext s;have h1 : sm M (λj=>low j * ee M low (i - M+j) (eV 0) s) = - ee M low (i - M+M) (eV 0) s:=congrFun (Di (low:=low) hM (i - M)) s;rw [bC (g:=λj=>low j * ee M low (i - M+j) (eV 0) s) λj _=>by rw [hlow],h1,show i - M+M=i by omega];simp only [vX,sm];rw [Int.neg_mul,Ik];omega
theorem tX (c : LI) (hl : M<=c.length) : vX M low M c=nth (c.take M):=by
 funext s;simp only [vX];rw [bC (g:=λj=>nth c j * eV j s) λj hj=>by rw [xK j hj]];by_cases hs : s<M
 ·rw [jc hs λi _ hne=>by simp only [eV];rw [EG (by omega)];omega,sX hs];simp [eV]
 ·rw [ia (by rw [Fg];omega),bC (g:=λ_=>0) λj hj=>by simp only [eV];rw [EG (by omega)];omega,ik]
end
theorem Bx {P : Int} {m : Nat} (hf : RF P m) (mod : LI) (x y : Int) : mulR P m mod x y=cF P m mod x y:=by
 have hres:=hf.res;have hP:=hres.pos;have hm1:=hf.m1;refine (rJ hf mod x y).ext hres (eF hres x y) (Jz ?_ (eS hP m mod x y).symm);have hd : dV P m (mulR P m mod x y)=nth (mulL P m mod (bg x P m) (bg y P m)):=by unfold dV mulR;have:=j8 (P:=P) (mulL P m mod (bg x P m) (bg y P m)) (tq hP m mod _ _);rw [uJ P mod _ _ hm1] at this;rw [this]
 rw [hd];have hc:=AY (P:=P) (M:=m) (low:=nth (kj m mod)) (a:=bg x P m) (b:=bg y P m) (n:=2 * m - 1) (EF _) hm1 m (EF _);have hx : Cg P (vX m (nth (kj m mod)) (2 * m - 1) (sl P (bg x P m) (bg y P m) m (2 * m - 1) m)) (fp m (nth (kj m mod)) (dV P m x) (dV P m y)):=by rw [jA (lF P m y)];exact hc
 refine Jz ?_ hx;unfold mulL;by_cases h1 : 1<m
 ·have hlow : ∀j,nth (kj m mod) j=nth mod j:=λj=>by rw [kj,EH h1]
  have hr:=Ai (P:=P) hm1 hlow (iy P (bg x P m) (bg y P m) m (2 * m - 1) m) (m - 1) (EF _);rw [show 2 * m - 1 - (m - 1)=m by omega,tX _ (by rw [jm,iy];omega)] at hr;exact hr
 ·obtain rfl : m=1:=by omega
  rw [<- tX (M:=1) (low:=nth (kj 1 mod)) _ (by rw [jm,iy];omega)];exact Ju P _
section
open Go.RowKit Go.Shelf
attribute [local go_sem] IZ
theorem oZ (l : LI) {k : Nat} (h : k<l.length) : l.take (k+1)=l.take k ++ [nth l k]:=by rw [EV h,ai h]
theorem qU (F : Fence) (n : Nat) (hF : F.fn 294) (hro : F.round=none) (hn : 1<=n) (l Bs n₀ : Nat) (a : OA) (len cap : Nat) (zs : LI) (hreach : len * 8<=140737488351232) (J Jx : LI->World->Prop)
  (hY : ∀pre x W,J pre W->pre.length<len->YieldAt F (n - 1) prog l #[.int .i64 x] W λe W' =>
   (e = .returned (.bool true)/\J (pre ++ [x]) W'/\Below n₀ W W')\/(e = .returned (.bool false)/\Jx (pre ++ [x]) W'))
  (W : World) (hBs : W.cell? ⟨Bs,0,none⟩=some (.slice a len cap)) (hc : Ints W a len zs) (hb : 0<len->ah a<n₀) (h0 : J [] W) :
  CallsIn F n prog 294 #[.func (.yield l) #[] #[],.pointer (some ⟨Bs,0,none⟩)] W λe W'=>(∃v,e = .returned v) /\
   ((∃ys,ys=zs/\J ys W')\/(∃pre,(∃k,k<=len/\pre=zs.take k)/\Jx pre W')):=by
 have hpl:=hc.pl;have Hlen:=Z5 hc.len;refine callsIn_of_wp func294 rfl hF ?_ hro;simp only [ntmps294,GD,FF,GR,Nat.reduceAdd,Nat.reduceSub,Gm,Gn,GG,Gq,FV,Gd];gi_wp2;gi_loopw [7] (λi wr=>∃k : Nat,k<=len/\i = .int .i64 k/\J (zs.take k) wr/\Below n₀ W wr)
  (λi _=>len - (intOf i).toNat)
 case atStart=>exact ⟨0,EL _,rfl,h0,EI _ _⟩
 case round =>
  obtain ⟨k,hk,rfl,hJs,hnx⟩:=hrel
  by_cases hlt : k<len
  ·have hcx:=(hc.below hnx hb).cell k hlt
   have htk:=oZ zs (k:=k) (by rw [Hlen.out];exact hlt)
   have Htk:=Z5 htk
   obtain ⟨fn,tmps,assign,body,hy,hR⟩:=hY _ (nth zs k) wr hJs (by rw [Fg,Hlen.out];omega)
   rw [<- htk] at hR
   clear htk
   gi_wp2
   refine hR.mono ?_
   rintro e W3 (⟨rfl,hJ3,hk3⟩ | ⟨rfl,hJx3⟩)
   ·gi_wp2
    go_roundw
    case rel=>exact ⟨k+1,by omega,by simp,hJ3,hnx.trans hk3⟩
    case measure=>simp [intOf];omega
   ·gi_wp2
    refine bodyPost_ret (results_none rfl _ _ _) rfl ?_
    exact ⟨⟨_,rfl⟩,.inr ⟨_,⟨k+1,by omega,rfl⟩,hJx3⟩⟩
  ·obtain rfl : k=len:=by omega
   rw [ES (by rw [Hlen.out];exact EF _)] at hJs
   gi_wp2
   go_end0
   exact ⟨⟨_,rfl⟩,.inl ⟨_,rfl,hJs⟩⟩
theorem uu (F : Fence) (n : Nat) (hF : F.fn 285) (hro : F.round=none) (a : OA) (len cap : Nat) (w : World) :
  CallsIn F n prog 285 #[.slice a len cap] w λe w'=>e = .returned (.func (.func 294) #[] #[.pointer (some ⟨w.heap.size,0,none⟩)])/\w'=w.alloc (.cells #[.slice a len cap] 22):=by refine callsIn_of_wp func285 rfl hF ?_ hro;simp only [ntmps285,GD,FF,GR,Nat.reduceAdd,Nat.reduceSub,Gm,Gn,GG,Gq,FV,Gd];gi_wp2;go_ret;exact ⟨rfl,rfl⟩
theorem nU (F : Fence) (n : Nat) (hF : F.fn 294) (hro : F.round=none) (hn : 1<=n) (Bs n₀ : Nat) (a : OA) (len cap : Nat) (zs : LI) (hreach : len * 8<=140737488351232) (w : World) (hBs : Bs<w.heap.size) (hn₀ : n₀<=w.heap.size)
  (hc : w.cell? ⟨Bs,0,none⟩=some (.slice a len cap)) (hI : Ints w a len zs) (hb : 0<len->ah a<n₀) :
  SeqStopsK F n prog 294 #[.pointer (some ⟨Bs,0,none⟩)] (λx : Int=>#[Value.int .i64 x]) (Below n₀) (λys=>ys=zs) (λpre=>pre <+: zs) len w:=λl J Jx W hW _ _ hY h0=>by
 have hc':=(hW.cell (p:=⟨Bs,0,none⟩) hBs).trans hc;refine (qU F n hF hro hn l Bs n₀ a len cap zs hreach J Jx hY W hc' (hI.below (hW.mono hn₀) hb) hb h0).mono ?_;rintro e W' ⟨he,⟨ys,rfl,hj⟩ | ⟨pre,⟨k,hk,rfl⟩,hj⟩⟩
 ·exact ⟨he,.inl ⟨_,rfl,hj⟩⟩
 ·exact ⟨he,.inr ⟨_,List.take_prefix _ _,hj⟩⟩
theorem sC (F : Fence) (n : Nat) (hA : F.fn 296) (hV : F.fn 294) (hro : F.round=none) (hn : 3<=n) (Bs : Nat) (a : OA) (len cap : Nat) (zs : LI) (hlen : len<=1000000) (w : World) (hBs : Bs<w.heap.size)
  (hc : w.cell? ⟨Bs,0,none⟩=some (.slice a len cap)) (hI : Ints w a len zs) :
  CallsIn F n prog 296 #[.slice none 0 0,.func (.func 294) #[] #[.pointer (some ⟨Bs,0,none⟩)]] w λe W' =>
   ∃v,e = .returned v/\W'.ownsRow w.heap.size 3 1 v len (zs.map (Value.int .i64))/\JA w W':=by
 have h1 : 1<=n:=by omega
 have Hlen:=Z5 hI.len;obtain ⟨i0,hi,hz0,hz1,hz2⟩:=info_parts bh;refine callsIn_of_wp_marks func296 rfl hA ?_ hro;simp only [ntmps296,GD,FF,GR,Nat.reduceAdd,Nat.reduceSub,Gm,Gn,GG,Gq,FV,Gd];gi_wp2;have bO:=Boxed.new w 22 (.slice none 0 0);have hB0 : JA w (w.alloc (.cells #[.slice none 0 0] 22)):=(EI _ w).alloc (EF _) _;refine wpIn_rangeFunc_ownG hro h1 (gf:=294) (lb:=#[.pointer (some ⟨Bs,0,none⟩)]) rfl hV (enters_of func294 (by kernel_rfl) rfl)
  (nU F (n - 1) hV hro (by omega) Bs w.heap.size a len cap zs (by omega) w hBs (EF _) hc hI (λh=>hI.lt h)) belowK_t (belowK_b (by simp)) hB0 (λ_=>rfl)
  (λpre W=>(∃v,Boxed W w.heap.size 22 v/\W.ownsRow w.heap.size 3 1 v pre.length (pre.map (Value.int .i64))/\True)/\JA w W)
  (λ_ _ _=>False)
  (OwnFrom.and (Own.from (holdsRow_own w.heap.size w.heap.size 22 3 1 (λpre : LI=>pre.length) (λpre=>pre.map (Value.int .i64)) (λ_ _=>True)) _) (ownFrom_below (EF _) (by simp)))
  (λ_ _ _ _ _ hs _ _=>hs)
  ⟨⟨_,bO,Iy _ _ _ _,trivial⟩,hB0⟩
  (λx=>{ tmps:=#[.slice none 0 0,.func (.func 294) #[] #[.pointer (some ⟨Bs,0,none⟩)],.pointer (some ⟨w.heap.size,0,none⟩),undef,.slice none 0 0,.int .i64 x,.func (.func 294) #[] #[.pointer (some ⟨Bs,0,none⟩)],.int .i64 x,undef,undef,undef,undef,undef],defers:=[] }) ?assign ?body ?done ?stop
 case assign =>
  intro l x W K hK
  gi_wp2
  exact hK
 case body =>
  rintro l pre x W ⟨⟨v,hv,hrow,_⟩,hB⟩ hlt
  have hcv:=hv.cell
  gi_wp2_with (gi_at_builtin;refine wpListIn_append_own _ rfl _ _ 22 rfl w.heap.size 3 i0 (.int .i64 0) 1 8 underlying22 hi hz0 hz1 hz2 rfl (by decide) _ _ _ rfl (hrow.alloc _) ⟨W.heap.size,0,none⟩ 1 1 [.int .i64 x] rfl rfl (cell_one_new _ _ _) (by simp [Value.oneCell']) (by unfold maxLen;omega) (by omega) (by have:=hB.size;simp;omega) ?_;intro v' w1 hown' hgrow _;obtain ⟨g',cap',rfl⟩:=ownsRow_succ hown';obtain ⟨hv1,hv2,hr2,hk2,hb2⟩:=hv.appended (by decide) hrow hB.size (EF _) hown' hgrow;have hc1:=hv1.cell;have hf1:=hv1.frozen)
  exact ⟨hk2.from _,hb2,⟨_,hv2,by simpa using hr2,trivial⟩,hB.trans hb2⟩
 case done =>
  rintro D ys W hD rfl ⟨⟨v,hv,hrow,_⟩,hB⟩ hK
  have hcv:=hv.cell
  gi_wp2
  refine ⟨by simp,.inl ⟨_,_,rfl,run_takeDeferred hK,?_⟩⟩
  exact ⟨_,results_tmp rfl _ _ _,v,rfl,by have:=ownsRow_putObj hrow (.deferred none) hK rfl;rw [Hlen.out] at this;exact this,hB.trans (belowK_b (w:=w) (EF _) W D _ _ (by simp at hD;omega) hK rfl rfl)⟩
 case stop =>
  rintro D c pre W _ _ h _
  exact h.elim
theorem wj (F : Fence) (n : Nat) (hC : F.fn 293) (hA : F.fn 296) (hV : F.fn 294) (hro : F.round=none) (hn : 4<=n) (Bs : Nat) (a : OA) (len cap : Nat) (zs : LI) (hlen : len<=1000000) (w : World) (hBs : Bs<w.heap.size)
  (hc : w.cell? ⟨Bs,0,none⟩=some (.slice a len cap)) (hI : Ints w a len zs) :
  CallsIn F n prog 293 #[.func (.func 294) #[] #[.pointer (some ⟨Bs,0,none⟩)]] w λe W' =>
   ∃v,e = .returned v/\W'.ownsRow w.heap.size 3 1 v len (zs.map (Value.int .i64))/\JA w W':=by refine callsIn_of_wp func293 rfl hC ?_ hro;simp only [ntmps293,GD,FF,GR,Nat.reduceAdd,Nat.reduceSub,Gm,Gn,GG,Gq,FV,Gd];gi_wp2;refine ⟨λ_=>by omega,?_⟩;refine (sC F (n - 1) hA hV hro (by omega) Bs a len cap zs hlen _ hBs hc hI).mono ?_;rintro e W' ⟨v,rfl,hown,hb⟩;gi_wp2;go_ret;exact ⟨v,rfl,hown,hb⟩
theorem wE (a : OA) (len cap : Nat) (w : World) :
  Calls prog 285 #[.slice a len cap] w λe w'=>e = .returned (.func (.func 294) #[] #[.pointer (some ⟨w.heap.size,0,none⟩)])/\w'=w.alloc (.cells #[.slice a len cap] 22) :=
 callsIn_wide.1 (uu Fence.wide 8 trivial rfl a len cap w)
theorem uq (Bs : Nat) (a : OA) (len cap : Nat) (zs : LI) (hlen : len<=1000000) (w : World) (hBs : Bs<w.heap.size) (hc : w.cell? ⟨Bs,0,none⟩=some (.slice a len cap)) (hI : Ints w a len zs) :
  Calls prog 293 #[.func (.func 294) #[] #[.pointer (some ⟨Bs,0,none⟩)]] w λe W' =>
   ∃v,e = .returned v/\W'.ownsRow w.heap.size 3 1 v len (zs.map (Value.int .i64))/\JA w W' :=
 callsIn_wide.1 (wj Fence.wide 8 trivial trivial trivial rfl (by omega) Bs a len cap zs hlen w hBs hc hI)
end
section
open Go.RowKit
end
end Go.Proofs.YtjfiflldinnhmaaGreat
