import Derived.Test.YthglbncgemdcbaaGreatS5
import Derived.RangeFuncBox
import Derived.RangeFuncLeaves
import Derived.Shelf.Abstract
import Derived.OwnWalkIn
import Derived.TacticsInMore
import Derived.LoopNIn
import Derived.LoopIn
namespace Go.Proofs.YthglbncgemdcbaaGreat
set_option linter.all false
set_option maxRecDepth 100000
set_option maxHeartbeats 4000000
open Go.RowKit Go.Proofs.Tryz
structure RF (P : Int) (m : Nat) : Prop where
 p2 : 2<=P
 p256 : P<=256
 m1 : 1<=m
 m8 : m<=8
 pw : P ^ m<=256
theorem RF.res {P : Int} {m : Nat} (h : RF P m) : oL P m:=⟨h.p2,h.m1⟩
theorem RF.order {P : Int} {m : Nat} (h : RF P m) : aJ P m=P ^ m:=by have:=h.p2;have:=h.p256;have:=h.m1;have:=h.m8;have e:=qg (p:=P) (m:=m) (by omega) (by simpa using h.pw);rwa [Nb] at e
theorem RF.of {P M : Int} (h : aJ P M ≠ 0) : ∃m : Nat,M=m/\RF P m:=by obtain ⟨h1,h2,h3,h4,h5,h6⟩:=gX h;exact ⟨M.toNat,by omega,⟨h1,h2,by omega,by omega,h5⟩⟩
theorem gK (P M : Int) (am : OA) (mn cm : Nat) (w : World) :
  Calls prog 24 #[.agg #[.int .i64 P,.int .i64 M,.slice am mn cm]] w λe w'=>e = .returned (.int .i64 (aJ P M))/\SW w w':=by
 have Hal:=Z5 (an w (.cells #[.int .i64 P,.int .i64 M,.slice am mn cm] 24));by_cases h1 : P<2
 ·have Ho:=Z5 (lD (p:=P) (m:=M) (.inl h1));go_enter func24,ntmps24;go_wp2;go_ret;exact ⟨aP Ho.out.symm,Hal.out⟩
 have h1' : decide (P<2)=false:=by simpa using h1
 by_cases h2 : M<1
 ·have Ho:=Z5 (lD (p:=P) (m:=M) (.inr (.inr (.inl h2))));go_enter func24,ntmps24;go_wp2;go_ret;exact ⟨aP Ho.out.symm,Hal.out⟩
 have h2' : decide (M<1)=false:=by simpa using h2
 by_cases h3 : 8<M
 ·have Ho:=Z5 (lD (p:=P) (m:=M) (.inr (.inr (.inr h3))));go_enter func24,ntmps24;go_wp2;go_ret;exact ⟨aP Ho.out.symm,Hal.out⟩
 have h3' : decide (8<M)=false:=by simpa using h3
 obtain ⟨n,rfl⟩ : ∃n : Nat,M=n:=⟨M.toNat,by omega⟩
 go_enter func24,ntmps24;go_wp2_with fail;obtain ⟨W,hW⟩ : ∃W : World,W=w.alloc (.cells #[.int .i64 P,.int .i64 n,.slice am mn cm] 24):=⟨_,rfl⟩
 rw [<- hW];have hbW : SW w W:=by rw [hW];exact an _ _
 have c0 : W.cell? ⟨w.heap.size,0,none⟩=some (.int .i64 P):=by rw [hW];exact aI _ _ _ rfl 0
 have c1 : W.cell? ⟨w.heap.size,1,none⟩=some (.int .i64 n):=by rw [hW];exact aI _ _ _ rfl 1
 clear hW;go_loop [3,4] (λqv iv=>∃k : Nat,k<=n/\iv = .int .i64 k/\qv = .int .i64 (P ^ k)/\P ^ k<=256/\1<=P ^ k) (λ_ i=>n - (intOf i).toNat);case atStart=>exact ⟨0,Ni _,rfl,by simp,by simp,by simp⟩
 case round =>
  obtain ⟨k,hk,rfl,rfl,hb,hb1⟩:=hrel
  have hP0 : P ≠ 0:=by omega
  by_cases hlt : k<n
  ·have e1 : P ^ (k+1)=P ^ k * P:=N4 _ _
   have hd0 : (0 : Int)<=256 / P:=OB (by omega) (by omega)
   have hd1 : 256 / P<=256:=OC _ (by omega)
   by_cases h5 : 256 / P<P ^ k
   ·have hbig : aJ P n=0:=rh (by intro h;have h6:=dy (show 1<=P by omega) (show k+1<=n by omega);rw [Nb] at h;have h7 : 256<P ^ k * P:=OZ (by omega) h5;omega)
    have Hb:=Z5 hbig
    clear e1 hbig
    generalize P ^ k=q at *
    go_wp2
    go_ret
    exact ⟨aP Hb.out.symm,hbW⟩
   ·have h7 : P ^ k * P<=256:=by have h8:=Int.mul_le_mul_of_nonneg_right (show P ^ k<=256 / P by omega) (show 0<=P by omega);have h9:=Int.ediv_mul_le 256 hP0;omega
    have e3 : 1 * 1<=P ^ k * P:=OR hb1 (by omega) (by omega) (by omega)
    have E1:=Z5 e1
    clear e1
    generalize P ^ k=q at *
    go_wp2
    go_round
    case rel=>exact ⟨k+1,by omega,by go_num,by rw [E1.out],by rw [E1.out];exact h7,by rw [E1.out];omega⟩
    case measure=>simp [intOf] <;> omega
  ·obtain rfl : k=n:=by omega
   by_cases h256 : 256<P
   ·have hk1 : 1<=k:=by omega
    have h6:=dy (show 1<=P by omega) hk1
    have h8 : P ^ 1=P:=by rw [N4,OT,Pq]
    omega
   ·have Hb:=Z5 (qg (p:=P) (m:=k) (by omega) (by simpa using hb))
    go_wp2
    go_ret
    exact ⟨aP (by rw [Hb.out];simp),hbW⟩
theorem vR (n : Nat) (w : World) (h2 : 2<=n) (h256 : n<=256) :
  Calls prog 95 #[.int .i64 n] w λe w'=>e = .returned (.bool (js n))/\w=w':=by
 go_enter func95,ntmps95;go_wp2;go_loop [3] (λdv=>∃d : Nat,2<=d/\d<=n/\dv = .int .i64 d/\Hid (∀e,2<=e->e<d->n % e ≠ 0)) (λd=>n+1 - (intOf d).toNat);case atStart=>exact ⟨2,Na _,h2,rfl,λe he he2=>by omega⟩
 case round =>
  obtain ⟨d,hd2,hdn,rfl,hno⟩:=hrel
  have hd0 : (d : Int) ≠ 0:=by omega
  by_cases hs : d<n
  ·by_cases hm : n % d=0
   ·have hm' : ((n : Int) % d == 0)=true:=by simp;exact_mod_cast hm
    have Hf:=Z5 (yX hd2 hs hm)
    clear hm
    go_wp2
    go_ret
    exact ⟨aZ Hf.out.symm,rfl⟩
   ·have hm' : ((n : Int) % d == 0)=false:=by simp;exact_mod_cast hm
    have Hm:=Z5 hm
    clear hm
    go_wp2
    go_round
    case rel =>
     refine ⟨d+1,by omega,by omega,by go_num,λe he he2=>?_⟩
     rcases N3 e d with h | h
     ·exact hno.out e he h
     ·rw [show e=d from by omega];exact Hm.out
    case measure=>simp [intOf] <;> omega
  ·have Hf:=Z5 (xB (n:=n) λe he he2=>hno.out e he (by omega))
   go_wp2
   go_ret
   exact ⟨aZ (by rw [Hf.out]),rfl⟩
theorem uf (x p : Int) (m : Nat) (w : World) (hx : 0<=x) (hx2 : x<=9223372036854775807) (hp : 1<=p) (hm : m<=256) :
  Calls prog 151 #[.int .i64 x,.int .i64 p,.int .i64 m] w (b8 w (digs x p m)):=by
 go_enter func151,ntmps151;go_wp2_with (at_make;refine bS rfl _ _ 22 3 rfl (.int .i64 0) 8 underlying22 aU rfl m rfl rfl (by omega) (by unfold maxLen;omega) ?_;intro a w1 hown hbel hge hlt);go_loopw [0,8] (λxv iv wr=>∃k : Nat,k<=m/\iv = .int .i64 k/\xv = .int .i64 (l7 x p k) /\
   wr.ownsRow w.heap.size 3 1 (.slice a m m) m ((dC (digs x p k) k m).map (Value.int .i64))/\SW w wr)
  (λ_ i _=>m - (intOf i).toNat)
 case atStart=>exact ⟨0,Ni _,rfl,rfl,by simpa [dC,digs] using hown,hbel⟩
 case round =>
  obtain ⟨k,hk,rfl,rfl,hown,hbel⟩:=hrel
  obtain ⟨hints,hmine⟩:=R6 hown
  have hq:=AL x p hx hp k
  have hpl:=hints.pl
  by_cases hlt : k<m
  ·have hc:=hints.cell k hlt
   have hf:=(hmine (by omega)).2 k hlt
   have hB:=(hmine (by omega)).1
   go_wp2
   go_roundw
   case rel =>
    refine ⟨k+1,by omega,by go_num,rfl,?_,hbel.setCell hB _⟩
    have h:=bK hown k hlt (.int .i64 (l7 x p k % p))
    rw [<- NF,fW _ _ _ _ (cO p k x) hlt,<- tA] at h
    exact h
   case measure=>simp [intOf] <;> omega
  ·obtain rfl : k=m:=by omega
   have Hl:=Z5 (cO p k x)
   rw [gS] at hown
   go_wp2
   go_ret
   exact ⟨a,k,by rw [Hl.out];rfl,by rw [Hl.out];exact hown,hbel⟩
theorem FE (P M : Int) (am : OA) (mn cm : Nat) (x : Int) (w : World) :
  Calls prog 141 #[.agg #[.int .i64 P,.int .i64 M,.slice am mn cm],.int .i64 x] w λe w'=>e = .returned (.bool (jR (aJ P M) x))/\SW w w':=by
 have Hal:=Z5 (an w (.cells #[.int .i64 P,.int .i64 M,.slice am mn cm] 24));by_cases h0 : 0<=x
 ·have h0' : decide (0<=x)=true:=by simpa using h0
  have Hq : Hid (jR (aJ P M) x=decide (x<aJ P M)):=by show _=_;rw [jR,h0'];simp
  clear h0;go_enter func141,ntmps141;go_wp2_with (go_at_call 24;refine (gK P M am mn cm _).mono ?_;rintro e w2 ⟨rfl,hb2⟩);go_ret;exact ⟨aZ (by rw [Hq.out]),RZ Hal.out hb2⟩
 ·have h0' : decide (0<=x)=false:=by simpa using h0
  have Hq : Hid (jR (aJ P M) x=false):=by show _=_;rw [jR,h0'];simp
  clear h0;go_enter func141,ntmps141;go_wp2_with fail;go_ret;exact ⟨aZ (by rw [Hq.out]),Hal.out⟩
theorem Ka (P M : Int) (am : OA) (mn cm : Nat) (x : Int) (w : World) (hx : jR (aJ P M) x=true) :
  Calls prog 123 #[.agg #[.int .i64 P,.int .i64 M,.slice am mn cm],.int .i64 x] w λe w'=>e = .returned (.int .i64 x)/\SW w w':=by have Hal:=Z5 (an w (.cells #[.int .i64 P,.int .i64 M,.slice am mn cm] 24));have Hx:=Z5 hx;clear hx;go_enter func123,ntmps123;go_wp2_with fail;refine (FE P M am mn cm x _).mono ?_;rintro e w2 ⟨rfl,hb2⟩;rw [Hx.out];go_wp2_with fail;go_ret;exact ⟨rfl,RZ Hal.out hb2⟩
theorem kD (P : Int) (m : Nat) (am : OA) (mn cm : Nat) (x : Int) (w : World) (hf : RF P m) (hx : jR (aJ P m) x=true) :
  Calls prog 161 #[.agg #[.int .i64 P,.int .i64 m,.slice am mn cm],.int .i64 x] w (b8 w (digs x P m)):=by
 have hx0 : 0<=x/\x<256:=by have h1:=hf.order;have h2:=hf.pw;unfold jR at hx;simp only [NK,N8] at hx;omega
 have hp1 : 1<=P:=by have:=hf.p2;omega
 have hm:=hf.m8;have Hx:=Z5 hx;clear hx;go_enter func161,ntmps161;go_wp2_with fail;obtain ⟨W,hW⟩ : ∃W : World,W=w.alloc (.cells #[.int .i64 P,.int .i64 m,.slice am mn cm] 24):=⟨_,rfl⟩
 rw [<- hW];have hbW : SW w W:=by rw [hW];exact an _ _
 have x0 : aN W w.heap.size [.int .i64 P,.int .i64 m,.slice am mn cm]:=by rw [hW];exact R9 _ _ _ rfl
 have HX:=Z5 x0;clear hW x0;have hS : ∀V,SW W V->V.cell? ⟨w.heap.size,0,none⟩=some (.int .i64 P)/\V.cell? ⟨w.heap.size,1,none⟩=some (.int .i64 m)/\V.cell? ⟨w.heap.size,2,none⟩=some (.slice am mn cm)/\SW W V:=by intro V hV;have x1:=HX.out.ah hV;exact ⟨x1.cell 0 rfl,x1.cell 1 rfl,x1.cell 2 rfl,hV⟩
 have HS:=Z5 hS;have HbW:=Z5 hbW;clear hS hbW;go_region_held3 (λV=>V.cell? ⟨w.heap.size,0,none⟩=some (.int .i64 P)/\V.cell? ⟨w.heap.size,1,none⟩=some (.int .i64 m)/\V.cell? ⟨w.heap.size,2,none⟩=some (.slice am mn cm)/\SW W V)
  ((refine HS.out _ ?_;first | exact (Nc _ _).drew | (go_split_ands;exact RZ (by assumption) (by assumption))))
  (first
   | (go_at_call 123;((with_reducible refine (Ka P m am mn cm x _ Hx.out).mono ?_);rintro e w4 ⟨rfl,hb4⟩))
   | (go_at_call 151;((with_reducible refine (uf x P m _ hx0.1 (by omega) hp1 (by omega)).mono ?_);rintro e w5 ⟨a5,c5,rfl,hown5,hb5⟩)))
 all_goals (
  have hsz : w.heap.size<=w4.heap.size:=by have h1:=HbW.out.size;have h2:=hb4.size;have h3 : W.drew.heap.size=W.heap.size:=rfl;omega
  have Hown:=Z5 (aX hown5 hsz)
  clear hown5
  go_wp2_with fail
  go_ret
  exact ⟨a5,c5,rfl,Hown.out,RZ HbW.out (by go_split_ands;assumption)⟩)
theorem rC (P : Int) (M : Int) (am : OA) (mn cm : Nat) (a : OA) (n c : Nat) (l : Lz) (w : World) (h : Ints w a n l) (hn : n<=1000) (hP1 : 0<=P) (hP : P<=256)
  (hb : ∀k,0<=valu P (l.drop k) * P/\valu P (l.drop k) * P<=1000000000/\0<=nth l k/\nth l k<=1000000000) :
  Calls prog 162 #[.agg #[.int .i64 P,.int .i64 M,.slice am mn cm],.slice a n c] w λe w'=>e = .returned (.int .i64 (valu P l))/\SW w w':=by
 have HB:=Z5 hb;have Hlen:=Z5 h.len;clear hb;go_enter func162,ntmps162;go_wp2_with fail;obtain ⟨W,hW⟩ : ∃W : World,W=w.alloc (.cells #[.int .i64 P,.int .i64 M,.slice am mn cm] 24):=⟨_,rfl⟩
 rw [<- hW];have hbW : SW w W:=by rw [hW];exact an _ _
 have x0 : W.cell? ⟨w.heap.size,0,none⟩=some (.int .i64 P):=by rw [hW];exact aI _ _ _ rfl 0
 clear hW;have hW:=h.ah hbW;have hpl:=hW.pl;go_loopw [5,6] (λxv iv wr=>∃k : Nat,k<=n/\iv = .int .i64 ((k : Int) - 1)/\xv = .int .i64 (valu P (l.drop k))/\bf W wr) (λ_ i _=>(intOf i+1).toNat);case atStart=>exact ⟨n,Na _,rfl,by rw [Ob (by rw [Hlen.out];exact Na _)];rfl,Sf _⟩
 case round =>
  obtain ⟨k,hk,rfl,rfl,hd⟩:=hrel
  by_cases hlt : 0<k
  ·obtain ⟨j,rfl⟩ : ∃j,k=j+1:=⟨k - 1,by omega⟩
   have hc:=(hW.drawn hd).cell j (by omega)
   have c0:=hd.cell x0
   have hjl : j<l.length:=by rw [Hlen.out];omega
   obtain ⟨b1,b2,b3,b4⟩ : 0<=valu P (l.drop (j+1)) * P/\valu P (l.drop (j+1)) * P<=1000000000/\0<=nth l j/\nth l j<=1000000000:=⟨(HB.out (j+1)).1,(HB.out (j+1)).2.1,(HB.out j).2.2⟩
   have e1 : ((j+1 : Nat) : Int) - 1=(j : Int):=by omega
   rw [e1]
   clear e1 hlt
   have hfin : valu P (l.drop (j+1)) * P+nth l j=valu P (l.drop j):=by rw [CD l j hjl];simp only [valu];rw [OV P,Int.add_comm]
   generalize valu P (l.drop (j+1))=X at *
   generalize nth l j=Y at *
   have Hfin:=Z5 hfin
   clear hfin
   have e1 : (0 : Int)<=j:=by omega
   have e2 : (j : Int)<n:=by omega
   have r1 : IntKind.i64.wrap (X * P)=X * P:=Ns _ (by omega)
   have r2 : IntKind.i64.wrap (X * P+Y)=X * P+Y:=Ns _ (by omega)
   go_wp2_with fail
   go_quiet (fail)
   clear r1 r2
   go_wp2
   go_roundw
   case rel=>exact ⟨j,by omega,by go_num,by rw [<- Hfin.out],hd.drewN _⟩
   case measure=>simp [intOf] <;> omega
  ·obtain rfl : k=0:=by omega
   go_wp2_with fail
   go_ret
   exact ⟨by simp,RZ hbW hd.below⟩
def zK (P : Int) (a b : Lz) : Lz:=List.zipWith (λu v=>(u+v) % P) a b
theorem yM {P : Int} : ∀(m : Nat) (x y : Int),valu P (zK P (digs x P m) (digs y P m))=fsum P m x y
 | 0,_,_=>rfl
 | m+1,x,y=>by simp only [digs,zK,QV,valu,fsum];have:=yM (P:=P) m (x / P) (y / P);unfold zK at this;rw [this,Int.add_emod x y]
def yd (P : Int) (a : Lz) : Lz:=a.map λu=>(P - u) % P
theorem yL {P : Int} : ∀(m : Nat) (x : Int),valu P (yd P (digs x P m))=fneg P m x
 | 0,_=>rfl
 | m+1,x=>by simp only [digs,yd,Qj,valu,fneg];have:=yL (P:=P) m (x / P);unfold yd at this;rw [this]
theorem eD.zip {P : Int} (hP : 0<P) (f : Int->Int->Int) (a b : Lz) : eD P (List.zipWith (λu v=>(f u v) % P) a b):=by refine SI hP λx hx=>?_;rw [Qm] at hx;obtain ⟨i,hi,rfl⟩:=hx;rw [PV];exact ⟨Oa _ (by omega),N0 _ hP⟩
theorem eD.MQ {P : Int} (hP : 0<P) (a : Lz) : eD P (yd P a):=by refine SI hP λx hx=>?_;unfold yd at hx;obtain ⟨y,_,rfl⟩:=List.mem_map.1 hx;exact ⟨Oa _ (by omega),N0 _ hP⟩
theorem eD.MP {P : Int} {m : Nat} (hf : RF P m) {l : Lz} (h : eD P l) (hl : l.length=m) : ∀k,0<=valu P (l.drop k) * P/\valu P (l.drop k) * P<=1000000000/\0<=nth l k/\nth l k<=1000000000:=by
 intro k;have hP : 0<P:=by have:=hf.p2;omega
 have hP2:=hf.p256;have h1:=h.EN hP hl hf.pw k;have h2:=h k;have h3:=pX h1.1 (show valu P (l.drop k)<=256 by omega) (show 0<=P by omega) hP2;exact ⟨h3.1,by omega,h2.1,by omega⟩
theorem wM {P : Int} {m : Nat} (hf : RF P m) (x : Int) (i : Nat) : 0<=nth (digs x P m) i/\nth (digs x P m) i<P:=SM (by have:=hf.p2;omega) m x i
theorem J2 (P : Int) (m : Nat) (am : OA) (mn cm : Nat) (x y : Int) (w : World) (hf : RF P m) (hx : jR (aJ P m) x=true) (hy : jR (aJ P m) y=true) :
  Calls prog 113 #[.agg #[.int .i64 P,.int .i64 m,.slice am mn cm],.int .i64 x,.int .i64 y] w λe w'=>e = .returned (.int .i64 (fsum P m x y))/\SW w w':=by
 have hp2:=hf.p2;have hp256:=hf.p256;have hm8:=hf.m8;have Hx:=Z5 hx;have Hy:=Z5 hy;have Hdx:=Z5 (cO P m x);have Hdy:=Z5 (cO P m y);have Hbx:=Z5 (wM hf x);have Hby:=Z5 (wM hf y);have hNl : (zK P (digs x P m) (digs y P m)).length=m:=by simp [zK,cO]
 have hNn : ∀i,i<m->nth (zK P (digs x P m) (digs y P m)) i=(nth (digs x P m) i+nth (digs y P m) i) % P:=λi hi=>by rw [aj (by rw [hNl];exact hi),aj (by rw [cO];exact hi),aj (by rw [cO];exact hi)];simp [zK]
 have hNg : eD P (zK P (digs x P m) (digs y P m)):=eD.zip (by omega) (λu v=>u+v) (digs x P m) (digs y P m);have hNd:=eD.MP hf hNg hNl;have HNl:=Z5 hNl;have HNn:=Z5 hNn;have HNd:=Z5 hNd;have HNv:=Z5 (yM (P:=P) m x y);clear hx hy hNl hNn hNd hNg;go_enter func113,ntmps113;go_wp2_with fail;obtain ⟨W,hW⟩ : ∃W : World,W=w.alloc (.cells #[.int .i64 P,.int .i64 m,.slice am mn cm] 24):=⟨_,rfl⟩
 rw [<- hW];have hbW : SW w W:=by rw [hW];exact an _ _
 have x0 : aN W w.heap.size [.int .i64 P,.int .i64 m,.slice am mn cm]:=by rw [hW];exact R9 _ _ _ rfl
 have HX:=Z5 x0;have hsW : w.heap.size<W.heap.size:=x0.1;clear hW x0;refine (kD P m am mn cm x W hf Hx.out).mono ?_;rintro e w1 ⟨a1,c1,rfl,hown1,hb1⟩;have x1:=HX.out.ah hb1;have d0:=x1.cell 0 rfl;have d1:=x1.cell 1 rfl;have d2:=x1.cell 2 rfl;rw [Hdx.out] at hown1 ⊢;clear x1;go_wp2_with fail;refine (kD P m am mn cm y w1 hf Hy.out).mono ?_;rintro e w2 ⟨a2,c2,rfl,hown2,hb2⟩;rw [Hdy.out] at hown2 ⊢;have hs1:=hb1.size;have hown1':=bd hown1 hb2;have hap : a1 ≠ none->ablk a1<w1.heap.size:=λh0=>(aY hown1 h0).2;have hi2:=(R6 hown2).1;have hlo2 : 0<m->w1.heap.size<=ablk a2:=λh0=>(eA hown2 h0).1;have hap1 : a1 ≠ none->W.heap.size<=ablk a1:=λh0=>(aY hown1 h0).1;have hb12:=RZ hb1 hb2;have hpl2:=hi2.pl;obtain ⟨D,hD⟩ : ∃D,digs x P m=D:=⟨_,rfl⟩
 obtain ⟨E,hE⟩ : ∃E,digs y P m=E:=⟨_,rfl⟩
 rw [hD] at hown1' Hdx Hbx HNl HNn HNd HNv;rw [hE] at hi2 Hdy Hby HNl HNn HNd HNv;obtain ⟨NN,hNN⟩ : ∃NN,zK P D E=NN:=⟨_,rfl⟩
 rw [hNN] at HNl HNn HNd HNv;clear hD hE hNN hown1 hown2;go_wp2_with fail;go_loopw [9] (λiv wr=>∃k : Nat,k<=m/\iv = .int .i64 k/\wr.ownsRow W.heap.size 3 1 (.slice a1 m c1) m ((jk NN D k).map (Value.int .i64))/\dp a1 w2 wr) (λiv _=>m - (intOf iv).toNat);case atStart=>exact ⟨0,Ni _,rfl,by rw [gR];exact hown1',Sq _ _⟩
 case round =>
  obtain ⟨k,hk,rfl,hown,honly⟩:=hrel
  have hbr : SW W wr:=hb12.trans (honly.below hap1 (by have:=hb2.size;omega))
  by_cases hlt : k<m
  ·obtain ⟨hi1,hm1⟩:=R6 hown
   have hi2r:=honly.ints hi2 (by
    by_cases h0 : a1=none
    ·exact .inl h0
    ·exact .inr (.inr (by have h1:=hap h0;have h2:=hlo2 (by omega);omega)))
   have ca:=hi1.cell k hlt
   have cb:=hi2r.cell k hlt
   have fa:=(hm1 (by omega)).2 k hlt
   have hpl1:=hi1.pl
   have hkN : NN.length=D.length:=by rw [HNl.out,Hdx.out]
   have hkD : k<D.length:=by rw [Hdx.out];exact hlt
   have hmix:=fI NN D k k hkN (by omega)
   rw [Nf (by omega)] at hmix
   rw [hmix] at ca
   have hset:=gD NN D k hkN hkD
   have Hset:=Z5 hset
   have x1:=HX.out.ah hbr
   have d0:=x1.cell 0 rfl
   have b1:=Hbx.out k
   have b2:=Hby.out k
   have hP0 : P ≠ 0:=by omega
   have r5 : IntKind.i64.wrap (nth D k+nth E k)=nth D k+nth E k:=Ns _ (by omega)
   have r6 : (nth D k+nth E k).tmod P=(nth D k+nth E k) % P:=Ox _ _ (by omega)
   have R7:=Z5 (HNn.out k hlt)
   clear hmix hset hkN hkD x1
   go_wp2_with fail
   go_still_tail 15,(by kernel_rfl)
   change wpList _ _ _ _ _ wr.drew
   generalize hwd : wr.drew=wd
   have fd : wd.frozen? ⟨ablk a1,aK a1+k,none⟩=false:=by rw [<- hwd];exact fa
   have cd : wd.cell? ⟨ablk a1,aK a1+k,none⟩=some (.int .i64 (nth D k)):=by rw [<- hwd];exact ca
   have Hwd:=Z5 hwd
   clear hwd r5 r6
   go_wp2_with fail
   go_roundw
   case rel =>
    obtain rfl:=Hwd.out
    have hdr : bf wr wr.drew:=(Sf wr).drew
    refine ⟨k+1,by omega,by go_num,?_,honly.trans ((Sm hdr).trans (St _ k _ (by intro e;have:=hpl1 (by omega);rw [e] at this;cases this)))⟩
    have h1:=bK (w:=wr.drew) hown k hlt (.int .i64 ((nth D k+nth E k) % P))
    rw [<- NF,<- R7.out,Hset.out] at h1
    rw [<- R7.out]
    exact h1
   case measure=>simp [intOf] <;> omega
  ·obtain rfl : k=m:=by omega
   rw [iW NN D k HNl.out Hdx.out] at hown
   have hi1:=(R6 hown).1
   have x1:=HX.out.ah hbr
   have d0:=x1.cell 0 rfl
   have d1:=x1.cell 1 rfl
   have d2:=x1.cell 2 rfl
   clear x1
   go_wp2_with fail
   refine (rC P k am mn cm a1 k c1 NN wr hi1 (by omega) (by omega) (by omega) HNd.out).mono ?_
   rintro e w4 ⟨rfl,hb4⟩
   go_wp2_with fail
   go_ret
   exact ⟨aP HNv.out,RZ (RZ hbW hbr) hb4⟩
theorem qf (P : Int) (m : Nat) (am : OA) (mn cm : Nat) (x : Int) (w : World) (hf : RF P m) (hx : jR (aJ P m) x=true) :
  Calls prog 107 #[.agg #[.int .i64 P,.int .i64 m,.slice am mn cm],.int .i64 x] w λe w'=>e = .returned (.int .i64 (fneg P m x))/\SW w w':=by
 have hp2:=hf.p2;have hp256:=hf.p256;have hm8:=hf.m8;have Hx:=Z5 hx;have Hdx:=Z5 (cO P m x);have Hbx:=Z5 (wM hf x);have hNl : (yd P (digs x P m)).length=m:=by simp [yd,cO]
 have hNn : ∀i,i<m->nth (yd P (digs x P m)) i=(P - nth (digs x P m) i) % P:=λi hi=>by rw [aj (by rw [hNl];exact hi),aj (by rw [cO];exact hi)];simp [yd]
 have hNd:=eD.MP hf (eD.MQ (by omega) (digs x P m)) hNl;have HNl:=Z5 hNl;have HNn:=Z5 hNn;have HNd:=Z5 hNd;have HNv:=Z5 (yL (P:=P) m x);clear hx hNl hNn hNd;go_enter func107,ntmps107;go_wp2_with fail;obtain ⟨W,hW⟩ : ∃W : World,W=w.alloc (.cells #[.int .i64 P,.int .i64 m,.slice am mn cm] 24):=⟨_,rfl⟩
 rw [<- hW];have hbW : SW w W:=by rw [hW];exact an _ _
 have x0 : aN W w.heap.size [.int .i64 P,.int .i64 m,.slice am mn cm]:=by rw [hW];exact R9 _ _ _ rfl
 have HX:=Z5 x0;have hsW : w.heap.size<W.heap.size:=x0.1;clear hW x0;refine (kD P m am mn cm x W hf Hx.out).mono ?_;rintro e w2 ⟨a1,c1,rfl,hown1,hb1⟩;rw [Hdx.out] at hown1 ⊢;have hs1:=hb1.size;have hap1 : a1 ≠ none->W.heap.size<=ablk a1:=λh0=>(aY hown1 h0).1;obtain ⟨D,hD⟩ : ∃D,digs x P m=D:=⟨_,rfl⟩
 rw [hD] at hown1 Hdx Hbx HNl HNn HNd HNv;obtain ⟨NN,hNN⟩ : ∃NN,yd P D=NN:=⟨_,rfl⟩
 rw [hNN] at HNl HNn HNd HNv;clear hD hNN;go_wp2_with fail;go_loopw [6] (λiv wr=>∃k : Nat,k<=m/\iv = .int .i64 k/\wr.ownsRow W.heap.size 3 1 (.slice a1 m c1) m ((jk NN D k).map (Value.int .i64))/\dp a1 w2 wr) (λiv _=>m - (intOf iv).toNat);case atStart=>exact ⟨0,Ni _,rfl,by rw [gR];exact hown1,Sq _ _⟩
 case round =>
  obtain ⟨k,hk,rfl,hown,honly⟩:=hrel
  have hbr : SW W wr:=hb1.trans (honly.below hap1 (by omega))
  by_cases hlt : k<m
  ·obtain ⟨hi1,hm1⟩:=R6 hown
   have ca:=hi1.cell k hlt
   have fa:=(hm1 (by omega)).2 k hlt
   have hpl1:=hi1.pl
   have hkN : NN.length=D.length:=by rw [HNl.out,Hdx.out]
   have hkD : k<D.length:=by rw [Hdx.out];exact hlt
   have hmix:=fI NN D k k hkN (by omega)
   rw [Nf (by omega)] at hmix
   rw [hmix] at ca
   have hset:=gD NN D k hkN hkD
   have Hset:=Z5 hset
   have x1:=HX.out.ah hbr
   have d0:=x1.cell 0 rfl
   have b1:=Hbx.out k
   have hP0 : P ≠ 0:=by omega
   have r5 : IntKind.i64.wrap (P - nth D k)=P - nth D k:=Ns _ (by omega)
   obtain ⟨Z,hZ⟩ : ∃Z,(P - nth D k) % P=Z:=⟨_,rfl⟩
   have r6 : (P - nth D k).tmod P=Z:=by rw [<- hZ];exact Ox _ _ (by omega)
   have R7 : Hid (nth NN k=Z):=by show _=_;rw [<- hZ];exact HNn.out k hlt
   clear hZ
   clear hmix hset hkN hkD x1
   go_wp2_with fail
   go_still_tail 13,(by kernel_rfl)
   change wpList _ _ _ _ _ wr.drew
   generalize hwd : wr.drew=wd
   have fd : wd.frozen? ⟨ablk a1,aK a1+k,none⟩=false:=by rw [<- hwd];exact fa
   have cd : wd.cell? ⟨ablk a1,aK a1+k,none⟩=some (.int .i64 (nth D k)):=by rw [<- hwd];exact ca
   have Hwd:=Z5 hwd
   clear hwd r5 r6
   go_wp2_with fail
   go_roundw
   case rel =>
    obtain rfl:=Hwd.out
    have hdr : bf wr wr.drew:=(Sf wr).drew
    refine ⟨k+1,by omega,by go_num,?_,honly.trans ((Sm hdr).trans (St _ k _ (by intro e;have:=hpl1 (by omega);rw [e] at this;cases this)))⟩
    have h1:=bK (w:=wr.drew) hown k hlt (.int .i64 Z)
    rw [<- NF,<- R7.out,Hset.out] at h1
    rw [<- R7.out]
    exact h1
   case measure=>simp [intOf] <;> omega
  ·obtain rfl : k=m:=by omega
   rw [iW NN D k HNl.out Hdx.out] at hown
   have hi1:=(R6 hown).1
   have x1:=HX.out.ah hbr
   have d0:=x1.cell 0 rfl
   have d1:=x1.cell 1 rfl
   have d2:=x1.cell 2 rfl
   clear x1
   go_wp2_with fail
   refine (rC P k am mn cm a1 k c1 NN wr hi1 (by omega) (by omega) (by omega) HNd.out).mono ?_
   rintro e w4 ⟨rfl,hb4⟩
   go_wp2_with fail
   go_ret
   exact ⟨aP HNv.out,RZ (RZ hbW hbr) hb4⟩
def cvJ (P : Int) (a b : Lz) (i : Nat) (c : Lz) : Nat->Lz
 | 0=>c
 | j+1=>(cvJ P a b i c j).set (i+j) ((nth (cvJ P a b i c j) (i+j)+nth a i * nth b j) % P)
def A6 (P : Int) (a b : Lz) (M n : Nat) : Nat->Lz
 | 0=>List.replicate n 0
 | i+1=>cvJ P a b i (A6 P a b M n i) M
def yj (P : Int) (M : Nat) (mod : Lz) (i : Nat) (c : Lz) : Nat->Lz
 | 0=>c
 | j+1=>(yj P M mod i c j).set (i - M+j) ((nth (yj P M mod i c j) (i - M+j)+(P - nth (yj P M mod i c j) i) * nth mod j) % P)
def yU (P : Int) (M : Nat) (mod : Lz) (c : Lz) : Nat->Lz
 | 0=>c
 | k+1=>yj P M mod (2 * M - 2 - k) (yU P M mod c k) M
def mulL (P : Int) (M : Nat) (mod : Lz) (a b : Lz) : Lz:=(yU P M mod (A6 P a b M (2 * M - 1) M) (M - 1)).take M
def mulR (P : Int) (M : Nat) (mod : Lz) (x y : Int) : Int:=valu P (mulL P M mod (digs x P M) (digs y P M))
theorem eD.set {P : Int} {l : Lz} (h : eD P l) (i : Nat) {x : Int} (h0 : 0<=x) (h1 : x<P) : eD P (l.set i x):=by
 intro j;by_cases hi : i<l.length
 ·rw [eh _ _ _ _ hi];split
  ·exact ⟨h0,h1⟩
  ·exact h j
 ·rw [Pw (by omega)];exact h j
theorem eD.D1 {P : Int} (hP : 0<P) {l : Lz} (h : eD P l) (i : Nat) (x : Int) : eD P (l.set i (x % P)):=h.set i (Oa _ (by omega)) (N0 _ hP)
theorem zp (P : Int) (a b : Lz) (i : Nat) (c : Lz) : ∀j,(cvJ P a b i c j).length=c.length
 | 0=>rfl
 | j+1=>by rw [cvJ,N9,zp P a b i c j]
theorem zC {P : Int} (hP : 0<P) (a b : Lz) (i : Nat) {c : Lz} (h : eD P c) : ∀j,eD P (cvJ P a b i c j)
 | 0=>h
 | j+1=>eD.D1 hP (zC hP a b i h j) _ _
theorem mf (P : Int) (a b : Lz) (M n : Nat) : ∀i,(A6 P a b M n i).length=n
 | 0=>by simp [A6]
 | i+1=>by rw [A6,zp,mf P a b M n i]
theorem uX {P : Int} (hP : 0<P) (a b : Lz) (M n : Nat) : ∀i,eD P (A6 P a b M n i)
 | 0=>eD.replicate hP n
 | i+1=>zC hP a b i (uX hP a b M n i) M
theorem uZ (P : Int) (M : Nat) (mod : Lz) (i : Nat) (c : Lz) : ∀j,(yj P M mod i c j).length=c.length
 | 0=>rfl
 | j+1=>by rw [yj,N9,uZ P M mod i c j]
theorem Aa {P : Int} (hP : 0<P) (M : Nat) (mod : Lz) (i : Nat) {c : Lz} (h : eD P c) : ∀j,eD P (yj P M mod i c j)
 | 0=>h
 | j+1=>eD.D1 hP (Aa hP M mod i h j) _ _
theorem oh (P : Int) (M : Nat) (mod : Lz) (c : Lz) : ∀k,(yU P M mod c k).length=c.length
 | 0=>rfl
 | k+1=>by rw [yU,uZ,oh P M mod c k]
theorem u4 {P : Int} (hP : 0<P) (M : Nat) (mod : Lz) {c : Lz} (h : eD P c) : ∀k,eD P (yU P M mod c k)
 | 0=>h
 | k+1=>Aa hP M mod _ (u4 hP M mod h k) M
theorem eD.take {P : Int} (hP : 0<P) {l : Lz} (h : eD P l) (k : Nat) : eD P (l.take k):=by
 intro i;have e : nth (l.take k) i=if i<k then nth l i else 0:=by simp only [nth,Ng,OE];split <;> rfl
 rw [e];split
 ·exact h i
 ·omega
theorem Bd (P : Int) {M : Nat} (mod : Lz) (a b : Lz) (hM : 1<=M) : (mulL P M mod a b).length=M:=by unfold mulL;rw [NG,oh,mf];omega
theorem BY {P : Int} (hP : 0<P) (M : Nat) (mod : Lz) (a b : Lz) : eD P (mulL P M mod a b):=eD.take hP (u4 hP M mod (uX hP a b M _ M) _) M
structure B7 (w : World) (P : Int) (m : Nat) (am : OA) (mn : Nat) (mod : Lz) : Prop where
 ints : Ints w am mn mod
 low : 1<m->mn=m
 dig : eD P mod
theorem B7.ah {w w' : World} {P : Int} {m : Nat} {am : OA} {mn : Nat} {mod : Lz} (h : B7 w P m am mn mod) (hb : SW w w') : B7 w' P m am mn mod:=⟨h.ints.ah hb,h.low,h.dig⟩
theorem Cc {l : Lz} {k i : Nat} (h : i<k) : nth (l.take k) i=nth l i:=by simp only [nth,Ng,OE,Nd h]
theorem Ints.take {w : World} {a : OA} {n : Nat} {l : Lz} (h : Ints w a n l) {k : Nat} (hk : k<=n) : Ints w a k (l.take k) :=
 ⟨by rw [NG,h.len];omega,λh0=>h.pl (by omega),Nr hk h.max,λi hi=>by rw [Cc hi];exact h.cell i (by omega)⟩
theorem vJ (P : Int) (m : Nat) (am : OA) (mn cm : Nat) (mod : Lz) (x y : Int) (w : World) (hf : RF P m) (hmod : B7 w P m am mn mod) (hx : jR (aJ P m) x=true) (hy : jR (aJ P m) y=true) :
  Calls prog 114 #[.agg #[.int .i64 P,.int .i64 m,.slice am mn cm],.int .i64 x,.int .i64 y] w λe w'=>e = .returned (.int .i64 (mulR P m mod x y))/\SW w w':=by
 have hp2:=hf.p2;have hp256:=hf.p256;have hm1:=hf.m1;have hm8:=hf.m8;have Hx:=Z5 hx;have Hy:=Z5 hy;have Hdx:=Z5 (cO P m x);have Hdy:=Z5 (cO P m y);have Hbx:=Z5 (wM hf x);have Hby:=Z5 (wM hf y);have Hbm:=Z5 hmod.dig;have hplm:=hmod.ints.pl;have Hlow:=Z5 hmod.low;obtain ⟨n,hn⟩ : ∃n : Nat,2 * m - 1=n:=⟨_,rfl⟩
 have hn1 : m<=n:=by omega
 have hn2 : n<=15:=by omega
 have Hn:=Z5 hn;have hnv : 2 * (m : Int) - 1=n:=by omega
 have hnv2 : 2 * (m : Int) - 2=(n : Int) - 1:=by omega
 have Hnv2:=Z5 hnv2;clear hx hy hn hnv2;go_enter func114,ntmps114;go_wp2_with fail;obtain ⟨W,hW⟩ : ∃W : World,W=w.alloc (.cells #[.int .i64 P,.int .i64 m,.slice am mn cm] 24):=⟨_,rfl⟩
 rw [<- hW];have hbW : SW w W:=by rw [hW];exact an _ _
 have x0 : aN W w.heap.size [.int .i64 P,.int .i64 m,.slice am mn cm]:=by rw [hW];exact R9 _ _ _ rfl
 have HX:=Z5 x0;clear hW x0;have hmW:=hmod.ah hbW;refine (kD P m am mn cm x W hf Hx.out).mono ?_;rintro e w1 ⟨a1,c1,rfl,hown1,hb1⟩;have x1:=HX.out.ah hb1;have d0:=x1.cell 0 rfl;have d1:=x1.cell 1 rfl;have d2:=x1.cell 2 rfl;rw [Hdx.out] at hown1 ⊢;clear x1;go_wp2_with fail;refine (kD P m am mn cm y w1 hf Hy.out).mono ?_;rintro e w2 ⟨a2,c2,rfl,hown2,hb2⟩;rw [Hdy.out] at hown2 ⊢;have hb12:=RZ hb1 hb2;have x1:=HX.out.ah hb12;have d0:=x1.cell 0 rfl;have d1:=x1.cell 1 rfl;have d2:=x1.cell 2 rfl;have hi1:=((R6 hown1).1).ah hb2;have hi2:=(R6 hown2).1;have hpl1:=hi1.pl;have hpl2:=hi2.pl;have hm2:=hmW.ah hb12;obtain ⟨D,hD⟩ : ∃D,digs x P m=D:=⟨_,rfl⟩
 obtain ⟨E,hE⟩ : ∃E,digs y P m=E:=⟨_,rfl⟩
 have HR : Hid (mulR P m mod x y=valu P (mulL P m mod D E)):=by show _=_;rw [mulR,hD,hE]
 rw [hD] at hi1 Hdx Hbx;rw [hE] at hi2 Hdy Hby;clear hD hE hown1 hown2 x1;go_wp2_with (at_make;refine bS rfl _ _ 22 3 rfl (.int .i64 0) 8 underlying22 aU rfl n rfl rfl (by omega) (by unfold maxLen;omega) ?_;intro a3 w3 hown3 hb3 hge3 hlt3;have d0:=aB hb3 d0;have d1:=aB hb3 d1;have d2:=aB hb3 d2);have hP : 0<P:=by omega
 have hS : ∀V,SW w2 V->V.cell? ⟨w.heap.size,0,none⟩=some (.int .i64 P)/\V.cell? ⟨w.heap.size,1,none⟩=some (.int .i64 m)/\V.cell? ⟨w.heap.size,2,none⟩=some (.slice am mn cm)/\Ints V a1 m D/\Ints V a2 m E/\Ints V am mn mod:=by intro V hV;have x1:=(HX.out.ah hb12).ah hV;exact ⟨x1.cell 0 rfl,x1.cell 1 rfl,x1.cell 2 rfl,hi1.ah hV,hi2.ah hV,hm2.ints.ah hV⟩
 have HS:=Z5 hS;have HC : Hid (List.replicate n (Value.int .i64 0)=(A6 P D E m n 0).map (Value.int .i64)):=by show _=_;simp [A6]
 rw [HC.out] at hown3;have ha3 : a3 ≠ none->w2.heap.size<=ablk a3:=λ_=>hge3;have hb23:=hb12.trans (hb3.mono hb12.size);clear hS d0 d1 d2 hi1 hi2 hm2;go_loopw [10] (λiv wr=>∃i : Nat,i<=m/\iv = .int .i64 i/\wr.ownsRow w2.heap.size 3 1 (.slice a3 n n) n ((A6 P D E m n i).map (Value.int .i64))/\dp a3 w3 wr) (λiv _=>m - (intOf iv).toNat);case atStart=>exact ⟨0,Ni _,rfl,hown3,Sq _ _⟩
 case round =>
  obtain ⟨i,hi,rfl,hown,honly⟩:=hrel
  have hbr : SW w2 wr:=hb3.trans (honly.below ha3 hb3.size)
  obtain ⟨d0,d1,d2,j1,j2,j3⟩:=HS.out wr hbr
  by_cases hlt : i<m
  ·have Hci : Hid (A6 P D E m n (i+1)=cvJ P D E i (A6 P D E m n i) m):=rfl
   have Hcd : Hid (eD P (A6 P D E m n i)):=uX hP D E m n i
   have Hcl : Hid ((A6 P D E m n i).length=n):=mf P D E m n i
   obtain ⟨C,hC⟩ : ∃C,A6 P D E m n i=C:=⟨_,rfl⟩
   rw [hC] at hown Hci Hcd Hcl
   clear hC
   go_wp2_with fail
   go_loopw [11] (λiv wr=>∃j : Nat,j<=m/\iv = .int .i64 j/\wr.ownsRow w2.heap.size 3 1 (.slice a3 n n) n ((cvJ P D E i C j).map (Value.int .i64))/\dp a3 w3 wr) (λiv _=>m - (intOf iv).toNat)
   case atStart=>exact ⟨0,Ni _,rfl,hown,honly⟩
   case round =>
    obtain ⟨j,hj,rfl,hown2,honly2⟩:=hrel
    have hbr2 : SW w2 wr:=hb3.trans (honly2.below ha3 hb3.size)
    obtain ⟨d0,d1,d2,j1,j2,j3⟩:=HS.out wr hbr2
    by_cases hlt2 : j<m
    ·have Hcj : Hid (cvJ P D E i C (j+1)=(cvJ P D E i C j).set (i+j) ((nth (cvJ P D E i C j) (i+j)+nth D i * nth E j) % P)):=rfl
     have hcd:=zC hP D E i Hcd.out j (i+j)
     obtain ⟨T,hT⟩ : ∃T,cvJ P D E i C j=T:=⟨_,rfl⟩
     rw [hT] at hown2 Hcj hcd
     clear hT
     have hij : i+j<n:=by have:=Hn.out;omega
     obtain ⟨it,mt⟩:=R6 hown2
     have ct:=it.cell (i+j) hij
     have ft:=(mt (by omega)).2 (i+j) hij
     have hplt:=it.pl
     have cD:=j1.cell i hlt
     have cE:=j2.cell j hlt2
     have bD:=Hbx.out i
     have bE:=Hby.out j
     have hme:=pX bD.1 (show nth D i<=256 by omega) bE.1 (show nth E j<=256 by omega)
     have hP0 : P ≠ 0:=by omega
     obtain ⟨k,hk⟩ : ∃k,i+j=k:=⟨_,rfl⟩
     rw [hk] at ct ft Hcj hcd hij
     obtain ⟨Z,hZ⟩ : ∃Z,(nth T k+nth D i * nth E j) % P=Z:=⟨_,rfl⟩
     have Hcj2 : Hid (cvJ P D E i C (j+1)=T.set k Z):=by show _=_;rw [Hcj.out,hZ]
     have r1 : IntKind.i64.wrap ((i : Int)+j)=(k : Int):=by rw [Ns _ (by omega)];omega
     have r2 : IntKind.i64.wrap (nth D i * nth E j)=nth D i * nth E j:=Ns _ (by omega)
     have r3 : IntKind.i64.wrap (nth T k+nth D i * nth E j)=nth T k+nth D i * nth E j:=Ns _ (by omega)
     have r4 : (nth T k+nth D i * nth E j).tmod P=Z:=by rw [<- hZ];exact Ox _ _ (by omega)
     have q1 : (0 : Int)<=k:=by omega
     have q2 : (k : Int)<n:=by omega
     clear hZ hk Hcj
     go_wp2_with fail
     go_still_tail 24,(by kernel_rfl)
     change wpList _ _ _ _ _ wr.drew
     generalize hwd : wr.drew=wd
     have fd : wd.frozen? ⟨ablk a3,aK a3+k,none⟩=false:=by rw [<- hwd];exact ft
     have cd : wd.cell? ⟨ablk a3,aK a3+k,none⟩=some (.int .i64 (nth T k)):=by rw [<- hwd];exact ct
     have Hwd:=Z5 hwd
     clear hwd r1 r2 r3 r4
     go_wp2_with fail
     go_roundw
     case rel =>
      obtain rfl:=Hwd.out
      have hdr : bf wr wr.drew:=(Sf wr).drew
      refine ⟨j+1,by omega,by go_num,?_,honly2.trans ((Sm hdr).trans (St _ k _ (by intro e;have:=hplt (by omega);rw [e] at this;cases this)))⟩
      have h1:=bK (w:=wr.drew) hown2 k hij (.int .i64 Z)
      rw [<- NF,<- Hcj2.out] at h1
      exact h1
     case measure=>simp [intOf] <;> omega
    ·obtain rfl : j=m:=by omega
     go_wp2_with fail
     go_roundw
     case rel=>exact ⟨i+1,by omega,by go_num,by rw [Hci.out];exact hown2,honly2⟩
     case measure=>simp [intOf] <;> omega
  ·obtain rfl : i=m:=by omega
   have hw2:=Hnv2.out
   obtain ⟨C,hC⟩ : ∃C,A6 P D E i n i=C:=⟨_,rfl⟩
   have Hcd : Hid (eD P C):=by show eD P C;rw [<- hC];exact uX hP D E i n i
   have Hcl : Hid (C.length=n):=by show _=_;rw [<- hC];exact mf P D E i n i
   have HL : Hid (mulL P i mod D E=(yU P i mod C (i - 1)).take i):=by show _=_;rw [mulL,Hn.out,hC]
   rw [hC] at hown
   clear hC
   go_wp2_with fail
   clear hw2 hnv
   go_loopw [12] (λiv wr=>∃k t : Nat,t+k+1=n/\k<=i - 1/\iv = .int .i64 t/\wr.ownsRow w2.heap.size 3 1 (.slice a3 n n) n ((yU P i mod C k).map (Value.int .i64))/\dp a3 w3 wr) (λiv _=>(intOf iv).toNat)
   case atStart=>exact ⟨0,n - 1,by omega,by omega,by congr 1;omega,hown,honly⟩
   case round =>
    obtain ⟨k,t,htk,hk,rfl,hownk,honlyk⟩:=hrel
    have hbk : SW w2 wr:=hb3.trans (honlyk.below ha3 hb3.size)
    obtain ⟨d0,d1,d2,j1,j2,j3⟩:=HS.out wr hbk
    by_cases hti : i<=t
    ·have hn':=Hn.out
     have hi1 : 1<i:=by omega
     have hmn:=Hlow.out hi1
     have Hrk : Hid (yU P i mod C (k+1)=yj P i mod t (yU P i mod C k) i):=by show _=_;rw [yU,show 2 * i - 2 - k=t by omega]
     have Hrd : Hid (eD P (yU P i mod C k)):=u4 hP i mod Hcd.out k
     have Hrl : Hid ((yU P i mod C k).length=n):=by show _=_;rw [oh];exact Hcl.out
     obtain ⟨C2,hC2⟩ : ∃C2,yU P i mod C k=C2:=⟨_,rfl⟩
     rw [hC2] at hownk Hrk Hrd Hrl
     have Htk:=Z5 htk
     clear hC2 hn'
     go_wp2_with fail
     go_loopw [13] (λiv wr=>∃j : Nat,j<=i/\iv = .int .i64 j/\wr.ownsRow w2.heap.size 3 1 (.slice a3 n n) n ((yj P i mod t C2 j).map (Value.int .i64))/\dp a3 w3 wr) (λiv _=>i - (intOf iv).toNat)
     case atStart=>exact ⟨0,Ni _,rfl,hownk,honlyk⟩
     case round =>
      obtain ⟨j,hj,rfl,hown2,honly2⟩:=hrel
      have hbr2 : SW w2 wr:=hb3.trans (honly2.below ha3 hb3.size)
      obtain ⟨d0,d1,d2,j1,j2,j3⟩:=HS.out wr hbr2
      by_cases hlt2 : j<i
      ·have Hcj : Hid (yj P i mod t C2 (j+1)=(yj P i mod t C2 j).set (t - i+j) ((nth (yj P i mod t C2 j) (t - i+j)+(P - nth (yj P i mod t C2 j) t) * nth mod j) % P)):=rfl
       have hcd:=Aa hP i mod t Hrd.out j
       obtain ⟨T,hT⟩ : ∃T,yj P i mod t C2 j=T:=⟨_,rfl⟩
       rw [hT] at hown2 Hcj hcd
       clear hT
       obtain ⟨it,mt⟩:=R6 hown2
       obtain ⟨u,hu⟩ : ∃u,t - i+j=u:=⟨_,rfl⟩
       have hun : u<n:=by omega
       have htn : t<n:=by omega
       have hjmn : j<mn:=by omega
       have ct:=it.cell u hun
       have ctt:=it.cell t htn
       have cM:=j3.cell j hjmn
       have ft:=(mt (by omega)).2 u hun
       have hplt:=it.pl
       have b1:=hcd u
       have b2:=hcd t
       have b3:=Hbm.out j
       have hme:=pX (show 0<=P - nth T t by omega) (show P - nth T t<=256 by omega) b3.1 (show nth mod j<=256 by omega)
       have hP0 : P ≠ 0:=by omega
       rw [hu] at Hcj
       obtain ⟨Z,hZ⟩ : ∃Z,(nth T u+(P - nth T t) * nth mod j) % P=Z:=⟨_,rfl⟩
       have Hcj2 : Hid (yj P i mod t C2 (j+1)=T.set u Z):=by show _=_;rw [Hcj.out,hZ]
       obtain ⟨v,hv⟩ : ∃v,t - i=v:=⟨_,rfl⟩
       have r0 : IntKind.i64.wrap ((t : Int) - i)=(v : Int):=by rw [Ns _ (by omega)];omega
       have r1 : IntKind.i64.wrap ((v : Int)+j)=(u : Int):=by rw [Ns _ (by omega)];omega
       have r2 : IntKind.i64.wrap (P - nth T t)=P - nth T t:=Ns _ (by omega)
       have r3 : IntKind.i64.wrap ((P - nth T t) * nth mod j)=(P - nth T t) * nth mod j:=Ns _ (by omega)
       have r4 : IntKind.i64.wrap (nth T u+(P - nth T t) * nth mod j)=nth T u+(P - nth T t) * nth mod j:=Ns _ (by omega)
       have r5 : (nth T u+(P - nth T t) * nth mod j).tmod P=Z:=by rw [<- hZ];exact Ox _ _ (by omega)
       have q1 : (0 : Int)<=u:=by omega
       have q2 : (u : Int)<n:=by omega
       have q3 : (t : Int)<n:=by omega
       have q4 : (j : Int)<mn:=by omega
       clear hZ hu hv Hcj htk hmn
       go_wp2_with fail
       go_still_tail 34,(by kernel_rfl)
       change wpList _ _ _ _ _ wr.drew
       generalize hwd : wr.drew=wd
       have fd : wd.frozen? ⟨ablk a3,aK a3+u,none⟩=false:=by rw [<- hwd];exact ft
       have cd : wd.cell? ⟨ablk a3,aK a3+u,none⟩=some (.int .i64 (nth T u)):=by rw [<- hwd];exact ct
       have Hwd:=Z5 hwd
       clear hwd r0 r1 r2 r3 r4 r5
       go_wp2_with fail
       go_roundw
       case rel =>
        obtain rfl:=Hwd.out
        have hdr : bf wr wr.drew:=(Sf wr).drew
        refine ⟨j+1,by omega,by go_num,?_,honly2.trans ((Sm hdr).trans (St _ u _ (by intro e;have:=hplt (by omega);rw [e] at this;cases this)))⟩
        have h1:=bK (w:=wr.drew) hown2 u hun (.int .i64 Z)
        rw [<- NF,<- Hcj2.out] at h1
        exact h1
       case measure=>simp [intOf] <;> omega
      ·obtain rfl : j=i:=by omega
       go_wp2_with fail
       go_roundw
       case rel=>exact ⟨k+1,t - 1,by have:=Htk.out;omega,by have:=Htk.out;have:=Hn.out;omega,by congr 1;omega,by rw [Hrk.out];exact hown2,honly2⟩
       case measure=>simp [intOf] <;> omega
    ·have hki : k=i - 1:=by have:=Hn.out;omega
     have hfin : Hid (valu P ((yU P i mod C k).take i)=mulR P i mod x y):=by show _=_;rw [HR.out,HL.out,hki]
     have hdig : eD P ((yU P i mod C k).take i):=eD.take hP (u4 hP i mod Hcd.out k) i
     have hlen : ((yU P i mod C k).take i).length=i:=by rw [NG,oh,Hcl.out];omega
     have hbd:=eD.MP hf hdig hlen
     have hit:=(R6 hownk).1
     have hin : i<=n:=hn1
     have hit2 : Ints wr a3 i ((yU P i mod C k).take i):=hit.take hin
     have Hbd:=Z5 hbd
     have hin' : (i : Int)<=n:=by omega
     have hbwr : SW w wr:=(RZ hbW hb12).trans (hbk.mono (by have h1:=hb12.size;have h2:=hbW.size;omega))
     have hS2 : ∀V,SW wr V->V.cell? ⟨w.heap.size,0,none⟩=some (.int .i64 P)/\V.cell? ⟨w.heap.size,1,none⟩=some (.int .i64 i)/\V.cell? ⟨w.heap.size,2,none⟩=some (.slice am mn cm)/\SW wr V :=
      λV hV=>⟨aB hV d0,aB hV d1,aB hV d2,hV⟩
     have HS2:=Z5 hS2
     have Hit2 : Hid (∀V,SW wr V->Ints V a3 i ((yU P i mod C k).take i)):=λV hV=>hit2.ah hV
     clear hki hlen hdig hbd hS2 hit hit2 htk
     go_wp2_with fail
     go_region_held3 (λV=>V.cell? ⟨w.heap.size,0,none⟩=some (.int .i64 P)/\V.cell? ⟨w.heap.size,1,none⟩=some (.int .i64 i)/\V.cell? ⟨w.heap.size,2,none⟩=some (.slice am mn cm)/\SW wr V)
      ((refine HS2.out _ ?_;first | exact (Nc _ _).drew | (go_split_ands;exact RZ (by assumption) (by assumption))))
      (first
       | (go_at_call 162;((with_reducible refine (rC P i am mn cm a3 i n _ _ (Hit2.out _ (Nc _ _).drew) (by omega) (by omega) (by omega) Hbd.out).mono ?_);rintro e w4 ⟨rfl,hb4⟩)))
     go_wp2_with fail
     go_ret
     exact ⟨aP hfin.out,RZ hbwr (by go_split_ands;assumption)⟩
structure uM (w : World) (P : Int) (m : Nat) (am : OA) (mn : Nat) (mod : Lz) : Prop where
 rf : RF P m
 mods : B7 w P m am mn mod
theorem uM.ah {w w' : World} {P : Int} {m : Nat} {am : OA} {mn : Nat} {mod : Lz} (h : uM w P m am mn mod) (hb : SW w w') : uM w' P m am mn mod:=⟨h.rf,h.mods.ah hb⟩
theorem RF.jR {P : Int} {m : Nat} (h : RF P m) {x : Int} (hx : gq P m x) : jR (aJ P m) x=true:=by unfold Proofs.YthglbncgemdcbaaGreat.jR;rw [h.order];simp [hx.1,hx.2]
theorem AX {P : Int} {m : Nat} (h : RF P m) (mod : Lz) (x y : Int) : gq P m (mulR P m mod x y):=by
 have hP : 0<P:=by have:=h.p2;omega
 have:=si hP (mulL P m mod (digs x P m) (digs y P m)) (BY hP m mod _ _);rwa [Bd P mod _ _ h.m1] at this
def invTo (f : Int->Int) : Nat->Int->Int
 | 0,_=>0
 | n+1,y=>if f y=1 then y else invTo f n (y+1)
def jS (P : Int) (m : Nat) (mod : Lz) (x : Int) : Int:=invTo (mulR P m mod x) ((aJ P m).toNat - 1) 1
def kM (P : Int) (m : Nat) (mod : Lz) : aL:=⟨fsum P m,mulR P m mod,fneg P m,jS P m mod⟩
theorem BN (f : Int->Int) : ∀(n : Nat) (y : Int),0<=y->0<=invTo f n y/\(invTo f n y<y+n\/invTo f n y=0)
 | 0,y,h=>by simp [invTo]
 | n+1,y,h=>by
  unfold invTo;split
  ·omega
  ·have:=BN f n (y+1) (by omega);omega
theorem EJ {P : Int} {m : Nat} (h : RF P m) (mod : Lz) (x : Int) : gq P m (jS P m mod x):=by have h1:=BN (mulR P m mod x) ((aJ P m).toNat - 1) 1 (by omega);have h2:=h.order;have h3:=one_lt_pow h.res;unfold jS gq;omega
theorem M8 {P : Int} {m : Nat} (h : RF P m) (mod : Lz) : uT (kM P m mod) (gq P m) :=
 ⟨λx y _ _=>ki h.res x y,λx y _ _=>AX h mod x y,λx _=>Ai h.res x,λx _ _=>EJ h mod x⟩
theorem JQ (P : Int) (m : Nat) (am : OA) (mn cm : Nat) (mod : Lz) (x : Int) (w : World) (hf : uM w P m am mn mod) (hx : gq P m x) :
  Calls prog 226 #[.agg #[.int .i64 P,.int .i64 m,.slice am mn cm],.int .i64 x] w λe w'=>e = .returned (.int .i64 (jS P m mod x))/\SW w w':=by
 have hrf:=hf.rf;have Hq:=Z5 (hrf.jR hx);have hord:=hrf.order;have h256:=hrf.pw;obtain ⟨q,hq⟩ : ∃q : Nat,P ^ m=q:=⟨(P ^ m).toNat,by have:=one_lt_pow hrf.res;omega⟩
 have hq2 : 2<=q:=by have:=one_lt_pow hrf.res;omega
 have hord2 : aJ P m=q:=by rw [hord,hq]
 have Hord:=Z5 hord2;have HI : Hid (jS P m mod x=invTo (mulR P m mod x) (q - 1) 1):=by show _=_;rw [jS,hord2];simp
 have Hel : Hid (∀k : Nat,k<q->jR (aJ P m) k=true):=λk hk=>hrf.jR ⟨by omega,by rw [hq];omega⟩;have hq256 : q<=256:=by omega
 clear hord hq hord2 h256;go_enter func226,ntmps226;go_wp2_with fail;obtain ⟨W,hW⟩ : ∃W : World,W=w.alloc (.cells #[.int .i64 P,.int .i64 m,.slice am mn cm] 24):=⟨_,rfl⟩
 rw [<- hW];have hbW : SW w W:=by rw [hW];exact an _ _
 have x0 : aN W w.heap.size [.int .i64 P,.int .i64 m,.slice am mn cm]:=by rw [hW];exact R9 _ _ _ rfl
 have HX:=Z5 x0;clear hW x0;have hfW:=hf.ah hbW;go_loopw [5] (λyv wr=>∃y : Nat,1<=y/\y<=q/\yv = .int .i64 y/\Hid (jS P m mod x=invTo (mulR P m mod x) (q - y) y)/\SW W wr) (λyv _=>q - (intOf yv).toNat);case atStart=>exact ⟨1,by omega,by omega,rfl,by show _=_;rw [HI.out];rfl,Nc _ _⟩
 case round =>
  obtain ⟨y,hy1,hyq,rfl,hinv,hbr⟩:=hrel
  have x1:=HX.out.ah hbr
  have d0:=x1.cell 0 rfl
  have d1:=x1.cell 1 rfl
  have d2:=x1.cell 2 rfl
  clear x1
  go_wp2_with fail
  refine (gK P m am mn cm wr).mono ?_
  rintro e w1 ⟨rfl,hb1⟩
  rw [Hord.out]
  have hbr1:=RZ hbr hb1
  have x1:=HX.out.ah hbr1
  have d0:=x1.cell 0 rfl
  have d1:=x1.cell 1 rfl
  have d2:=x1.cell 2 rfl
  clear x1
  by_cases hlt : y<q
  ·have hlt' : (y : Int)<q:=by omega
   have hst : invTo (mulR P m mod x) (q - y) y=if mulR P m mod x y=1 then (y : Int) else invTo (mulR P m mod x) (q - (y+1)) (y+1):=by rw [show q - y=(q - (y+1))+1 by omega,invTo]
   have Hst:=Z5 hst
   clear hst
   go_wp2_with fail
   refine (vJ P m am mn cm mod x y w1 hrf ((hfW.ah hbr1).mods) Hq.out (Hel.out y hlt)).mono ?_
   rintro e w2 ⟨rfl,hb2⟩
   have hbr2:=RZ hbr1 hb2
   by_cases h1 : mulR P m mod x y=1
   ·have Hf : Hid (jS P m mod x=y):=by show _=_;rw [hinv.out,Hst.out,Nd h1]
    rw [h1]
    clear h1
    go_wp2_with fail
    go_ret
    exact ⟨aP Hf.out.symm,RZ hbW hbr2⟩
   ·have Hf : Hid (jS P m mod x=invTo (mulR P m mod x) (q - (y+1)) ((y+1 : Nat) : Int)):=by show _=_;rw [hinv.out,Hst.out,Nf h1];rfl
    have h1' : (mulR P m mod x y == 1)=false:=by simpa using h1
    clear h1
    go_wp2_with fail
    go_roundw
    case rel=>exact ⟨y+1,by omega,by omega,by go_num,Hf.out,hbr2⟩
    case measure=>simp [intOf] <;> omega
  ·obtain rfl : y=q:=by omega
   have Hf : Hid (jS P m mod x=0):=by show _=_;rw [hinv.out,P9];rfl
   go_wp2_with fail
   go_ret
   exact ⟨aP Hf.out.symm,RZ hbW hbr1⟩
theorem DW (P : Int) (m : Nat) (am : OA) (mn cm : Nat) (mod : Lz) (s : Int) (a : OA) (n c : Nat) (l : Lz) (w : World) (hf : uM w P m am mn mod) (hs : gq P m s) (hi : Ints w a n l) (hl : ∀x ∈ l,gq P m x) (hn : n<=1000000) :
  Calls prog 225 #[.agg #[.int .i64 P,.int .i64 m,.slice am mn cm],.int .i64 s,.slice a n c] w (b8 w (l.map (mulR P m mod s))):=by
 have hrf:=hf.rf;have Hs:=Z5 (hrf.jR hs);have Hlen:=Z5 hi.len;have hpl:=hi.pl;have Hl : Hid (∀k,k<n->jR (aJ P m) (nth l k)=true):=λk hk=>hrf.jR (hl _ (aH (by rw [hi.len];exact hk)));clear hl;go_enter func225,ntmps225;go_wp2_with (at_make;refine bS rfl _ _ 22 3 rfl (.int .i64 0) 8 underlying22 aU rfl n rfl rfl (by omega) (by unfold maxLen;omega) ?_;intro a1 w1 hown hbel hge hlt);obtain ⟨W,hW⟩ : ∃W : World,W=w.alloc (.cells #[.int .i64 P,.int .i64 m,.slice am mn cm] 24):=⟨_,rfl⟩
 rw [<- hW] at hown hbel hge;have hbW : SW w W:=by rw [hW];exact an _ _
 have x0 : aN W w.heap.size [.int .i64 P,.int .i64 m,.slice am mn cm]:=by rw [hW];exact R9 _ _ _ rfl
 have hfW:=hf.ah hbW;have hiW:=hi.ah hbW;have hS : ∀k,k<n->∀V,SW W V->V.cell? ⟨w.heap.size,0,none⟩=some (.int .i64 P)/\V.cell? ⟨w.heap.size,1,none⟩=some (.int .i64 m)/\V.cell? ⟨w.heap.size,2,none⟩=some (.slice am mn cm) /\
   V.cell? ⟨ablk a,aK a+k,none⟩=some (.int .i64 (nth l k))/\SW W V:=by intro k hk V hV;have x1:=x0.ah hV;exact ⟨x1.cell 0 rfl,x1.cell 1 rfl,x1.cell 2 rfl,(hiW.ah hV).cell k hk,hV⟩
 have HS:=Z5 hS;clear hW x0 hS;go_loopw [8] (λiv wr=>∃k : Nat,k<=n/\iv = .int .i64 k /\
   wr.ownsRow W.heap.size 3 1 (.slice a1 n n) n ((dC ((l.take k).map (mulR P m mod s)) k n).map (Value.int .i64))/\SW W wr)
  (λi _=>n - (intOf i).toNat)
 case atStart=>exact ⟨0,Ni _,rfl,by simpa [dC] using hown,hbel⟩
 case round =>
  obtain ⟨k,hk,rfl,hown,hbel⟩:=hrel
  obtain ⟨hints,hmine⟩:=R6 hown
  have hpl1:=hints.pl
  by_cases hlt : k<n
  ·have HSk : Hid (∀V, SW W V -> V.cell? ⟨w.heap.size, 0, none⟩ = some (.int .i64 P) /\ V.cell? ⟨w.heap.size, 1, none⟩ = some (.int .i64 m) /\ V.cell? ⟨w.heap.size, 2, none⟩ = some (.slice am mn cm) /\
     V.cell? ⟨ablk a,aK a+k,none⟩=some (.int .i64 (nth l k))/\SW W V):=HS.out k hlt
   have hB:=(hmine (by omega)).1
   have HB:=Z5 hB
   have Hbel:=Z5 hbel
   have HK : Hid (∀V,Below wr.drew.heap.size wr.drew V->(∃v,V.cell? ⟨ablk a1,aK a1+k,none⟩=some v)/\V.frozen? ⟨ablk a1,aK a1+k,none⟩=false/\SW wr V):=λV hV=>by have hV' : SW wr V:=RZ (Nc _ _).drew hV;have ho:=bd hown hV';exact ⟨⟨_,(R6 ho).1.cell k hlt⟩,((R6 ho).2 (by omega)).2 k hlt,hV'⟩
   have hmd:=(hfW.ah hbel).mods
   have Hmd : Hid (B7 wr.drew P m am mn mod):=hmd.ah (Nc _ _).drew
   clear hB hbel hmd
   go_wp2_with fail
   go_region_held3 (λV=>V.cell? ⟨w.heap.size,0,none⟩=some (.int .i64 P)/\V.cell? ⟨w.heap.size,1,none⟩=some (.int .i64 m)/\V.cell? ⟨w.heap.size,2,none⟩=some (.slice am mn cm) /\
     V.cell? ⟨ablk a,aK a+k,none⟩=some (.int .i64 (nth l k))/\SW W V)
    ((refine HSk.out _ ?_;first | exact Hbel.out.drew | exact RZ Hbel.out hb9 | exact (RZ Hbel.out hb9).setCell HB.out _))
    (first
     | (go_at_call 114;((with_reducible refine (vJ P m am mn cm mod s (nth l k) _ hrf Hmd.out Hs.out (Hl.out k hlt)).mono ?_);rintro e w4 ⟨rfl,hb4⟩;obtain ⟨⟨v9,k9⟩,f9,hb9⟩:=HK.out w4 hb4)))
   clear k9 f9
   go_wp2_with fail
   go_roundw
   case rel =>
    refine ⟨k+1,by omega,by go_num,?_,(RZ Hbel.out hb9).setCell HB.out _⟩
    have h:=bK (bd hown hb9) k hlt (.int .i64 (mulR P m mod s (nth l k)))
    rw [<- NF,fW _ _ _ _ (by simp [Hlen.out];omega) hlt] at h
    rw [Nj (by rw [Hlen.out];omega),NM]
    rw [aj (by rw [Hlen.out];omega)] at h ⊢
    exact h
   case measure=>simp [intOf] <;> omega
  ·obtain rfl : k=n:=by omega
   have hfin : dC ((l.take k).map (mulR P m mod s)) k k=l.map (mulR P m mod s):=by rw [gS,No (by rw [Hlen.out];exact Na _)]
   rw [hfin] at hown
   have Hl2 : Hid ((l.map (mulR P m mod s)).length=k):=by show _=_;simp [Hlen.out]
   clear hfin
   go_wp2_with fail
   go_ret
   exact ⟨a1,k,by rw [Hl2.out];rfl,by rw [Hl2.out];exact aX hown hbW.size,RZ hbW hbel⟩
section
structure J4 (O O' : aL) (El : Int->Prop) : Prop where
 add : ∀x y,El x->El y->O.add x y=O'.add x y
 mul : ∀x y,El x->El y->O.mul x y=O'.mul x y
 neg : ∀x,El x->O.neg x=O'.neg x
 inv : ∀x,El x->x ≠ 0->O.inv x=O'.inv x
variable {O O' : aL} {El : Int->Prop}
theorem jo (h : J4 O O' El) (hO : uT O El) : ∀(v u : Lz) (s : Int),(∀x ∈ v,El x)->(∀x ∈ u,El x)->El s->bR O v s u=bR O' v s u
 | [],_,_,_,_,_=>by simp [bR]
 | _ :: _,[],_,_,_,_=>by simp [bR]
 | x :: v,y :: u,s,hv,hu,hs=>by have ih:=jo h hO v u s (λz hz=>hv z (by simp [hz])) (λz hz=>hu z (by simp [hz])) hs;unfold bR at ih ⊢;have hx:=hv x (by simp);have hy:=hu y (by simp);simp only [QV,ih];rw [h.mul s y hs hy,h.add x _ hx (by rw [<- h.mul s y hs hy];exact hO.mul s y hs hy)]
theorem Ak (h : J4 O O' El) (hO : uT O El) {pv r : Lz} {c m : Nat} (hc : c<m) (hp : pv.length=m/\∀x ∈ pv,El x) (hr : r.length=m/\∀x ∈ r,El x) : di O pv c r=di O' pv c r:=by
 have hel : El (nth r c):=hr.2 _ (aH (by omega));unfold di;rw [h.neg _ hel];split
 ·rfl
 ·exact jo h hO _ _ _ hr.2 hp.2 (by rw [<- h.neg _ hel];exact hO.neg _ hel)
theorem ui (h : J4 O O' El) (hO : uT O El) {m : Nat} {L : ZZ} (hL : bp El m L) {t c : Nat} (ht : t<L.length) (hc : c<m) : ∀i,i<=L.length->clearTo O t c L i=clearTo O' t c L i
 | 0,_=>rfl
 | i+1,hi=>by
  have ih:=ui h hO hL ht hc i (by omega);have hR:=Sy hO hL ht hc i (by omega);have hl:=en O t c L i;unfold clearTo;rw [<- ih];split
  ·rfl
  ·rw [Ak h hO hc (hR.row (by omega)) (hR.row (by omega))]
theorem Bv (h : J4 O O' El) (hO : uT O El) {m : Nat} {L : ZZ} (hL : bp El m L) {t c : Nat} (ht : t<L.length) (hc : c<m) (h0 : nth (ai L t) c ≠ 0) : bH O L t c=bH O' L t c:=by
 have hr:=hL.row ht;have hel : El (nth (ai L t) c):=hr.2 _ (aH (by omega));unfold bH;rw [h.inv _ hel h0];split
 ·rfl
 ·congr 1;refine OK λx hx=>?_;exact h.mul _ _ (by rw [<- h.inv _ hel h0];exact hO.inv _ hel h0) (hr.2 x hx)
theorem D4 (h : J4 O O' El) (hO : uT O El) {m : Nat} {L : ZZ} (hL : bp El m L) {t k c : Nat} (ht : t<L.length) (hk : k<L.length) (hc : c<m) (h0 : nth (ai L k) c ≠ 0) (htk : t<=k) :
  fo O L t k c=fo O' L t k c/\bp El m (fo O L t k c):=by
 have hL1 : bp El m (if k=t then L else bt L t k):=by split;exact hL;exact hL.swap ht hk
 have hl1 : (if k=t then L else bt L t k).length=L.length:=by split;rfl;exact bM _ _ _
 have hn1 : nth (ai (if k=t then L else bt L t k) t) c ≠ 0:=by
  split
  ·rename_i e;subst e;exact h0
  ·rename_i e;have : ai (bt L t k) t=ai L k:=by unfold bt;rw [eH _ _ _ _ (by simpa using hk),Nf (by omega),eH _ _ _ _ ht,Nd rfl]
   rw [this];exact h0
 rw [lf,lf,<- Bv h hO hL1 (by omega) hc hn1];have hL2:=hL1.norm hO (t:=t) (c:=c) (by omega) hc hn1;have hl2 : (bH O (if k=t then L else bt L t k) t c).length=L.length:=by rw [ek,hl1]
 exact ⟨ui h hO hL2 (by omega) hc _ (by omega),Sy hO hL2 (by omega) hc _ (by omega)⟩
theorem iN (h : J4 O O' El) (hO : uT O El) {m : Nat} {L : ZZ} (hL : bp El m L) : ∀k,k<=m->aD O L k=aD O' L k/\bp El m (aD O L k).1
 | 0,_=>⟨rfl,hL⟩
 | k+1,hk=>by
  obtain ⟨h1,h2⟩:=iN h hO hL k (by omega);obtain ⟨Lk,P,hLP⟩ : ∃Lk P,aD O L k=(Lk,P):=⟨_,_,rfl⟩
  rw [hLP] at h1 h2;have hlen : Lk.length=L.length:=by have:=bX O L k;rw [hLP] at this;exact this
  by_cases hlt : P.length<Lk.length
  ·rw [fR hLP.symm hlt,fR h1 hlt];by_cases hf : bh Lk k P.length=Lk.length
   ·rw [Nd hf,Nd hf];exact ⟨rfl,h2⟩
   ·rw [Nf hf,Nf hf];have hb:=n8 (L:=Lk) (c:=k) (k:=P.length) (by omega);have hne : nth (ai Lk (bh Lk k P.length)) k ≠ 0:=ky Lk k (Lk.length - P.length) P.length (by have : findTo Lk k P.length (Lk.length - P.length)=bh Lk k P.length:=rfl;omega);have hlt2 : bh Lk k P.length<Lk.length:=by omega
    have:=D4 h hO (L:=Lk) h2 (t:=P.length) (k:=bh Lk k P.length) (c:=k) hlt hlt2 (by omega) hne hb.1;exact ⟨by rw [this.1],this.2⟩
  ·have e : ∀(O : aL),aD O L k=(Lk,P)->aD O L (k+1)=(Lk,P):=λO he=>by rw [aD];simp only [he];rw [Nf hlt]
   rw [e O hLP,e O' h1.symm];exact ⟨rfl,h2⟩
end
section
variable {P : Int} {M : Nat} {low : Nat->Int}
def Df (M : Nat) (low : Nat->Int) (n : Nat) (c : Lz) : Nat->Int:=λi=>sm n (λk=>nth c k * iD M low k (eV 0) i)
theorem L5 {n k : Nat} {c : Lz} {z : Int} (f : Nat->Int) (hk : k<n) (hl : k<c.length) : sm n (λj=>nth (c.set k z) j * f j)=sm n (λj=>nth c j * f j)+(z - nth c k) * f k:=by
 have h1 : sm n (λj=>nth (c.set k z) j * f j)=sm n (λj=>nth c j * f j+(if j=k then (z - nth c k) * f k else 0)):=dh λj _=>by
  rw [eh _ _ _ _ hl];by_cases e : j=k
  ·subst e;rw [Nd rfl,Nd rfl,Rb];omega
  ·rw [Nf e,Nf e];omega
 rw [h1,AH];congr 1;rw [nu hk λi _ hne=>Nf hne,Nd rfl]
theorem Bj {n k : Nat} {c : Lz} {d : Int} (hk : k<n) (hl : k<c.length) :
  Cg P (Df M low n (c.set k ((nth c k+d) % P))) (λi=>Df M low n c i+d * iD M low k (eV 0) i):=λi=>by
 simp only [Df];rw [L5 (λj=>iD M low j (eV 0) i) hk hl];obtain ⟨e,he⟩:=tP P (nth c k+d);refine ⟨e * iD M low k (eV 0) i,?_⟩;have h1 : (nth c k+d) % P - nth c k=d+P * e:=by omega
 rw [h1,Q9,OH];omega
theorem JI {a b : Lz} {i n : Nat} {c : Lz} (hl : c.length=n) : ∀j,i+j<=n ->
  Cg P (Df M low n (cvJ P a b i c j)) (λs=>Df M low n c s+sm j (λj=>nth a i * nth b j * iD M low (i+j) (eV 0) s))
 | 0,_=>Sz (by funext s;simp [cvJ,sm])
 | j+1,hj=>by have ih:=JI (a:=a) (b:=b) (i:=i) hl j (by omega);rw [cvJ];refine (Bj (by omega) (by rw [zp];omega)).trans ((Cg.add ih (SF P _)).trans (Sz ?_));funext s;simp only [sm];omega
theorem IS {a b : Lz} {n : Nat} (hn : 2 * M - 1<=n) (hM : 1<=M) : ∀i,i<=M ->
  Cg P (Df M low n (A6 P a b M n i)) (λs=>sm i (λi=>sm M (λj=>nth a i * nth b j * iD M low (i+j) (eV 0) s)))
 | 0,_=>Sz (by
  funext s;simp only [Df,A6,sm];rw [dh (g:=λ_=>0) λk _=>by
   have : nth (List.replicate n 0) k=0:=by simp only [nth,Ng,NI];split <;> rfl
   rw [this,Int.zero_mul],mi])
 | i+1,hi=>by have ih:=IS (a:=a) (b:=b) hn hM i (by omega);rw [A6];refine (JI (mf P a b M n i) M (by omega)).trans ((Cg.add ih (SF P _)).trans (Sz ?_));funext s;simp only [sm]
theorem Ms (hM : 1<=M) : iD M low M (eV 0)=λi=>if i<M then - low i else 0:=by
 obtain ⟨m,rfl⟩ : ∃m,M=m+1:=⟨M - 1,by omega⟩
 rw [iD,EP m (by omega)];funext i;simp only [xS,eV];by_cases h : i<m+1
 ·rw [Nd h,Nd h,PB];by_cases h0 : i=0
  ·rw [Nd h0,Nd rfl];omega
  ·rw [Nf h0,Nf (by omega),Nd rfl];omega
 ·rw [Nf h,Nf h]
theorem Mc (hM : 1<=M) (t : Nat) : (λs=>sm M (λj=>low j * iD M low (t+j) (eV 0) s))=λs=>- iD M low (t+M) (eV 0) s:=by
 have h1 : (λs=>sm M (λj=>low j * iD M low (t+j) (eV 0) s))=iD M low t (λs=>sm M (λj=>low j * iD M low j (eV 0) s)):=by rw [zr];funext s;refine dh λj _=>?_;rw [mL,sQ]
 have h2 : (λs=>sm M (λj=>low j * iD M low j (eV 0) s))=λs=>(-1) * iD M low M (eV 0) s:=by
  funext s;rw [congrFun (Ms (low:=low) hM) s];have h3 : sm M (λj=>low j * iD M low j (eV 0) s)=sm M (λj=>low j * eV j s):=dh λj hj=>by rw [EP j hj]
  rw [h3];by_cases hs : s<M
  ·rw [nu hs λi _ hne=>by simp only [eV];rw [Nf (by omega)];omega];rw [Nd hs];simp [eV]
  ·rw [Nf hs,dh (g:=λ_=>0) λj hj=>by simp only [eV];rw [Nf (by omega)];omega,mi];rfl
 rw [h1,h2,mL];funext s;rw [<- sQ];omega
theorem EL {mod : Lz} {i : Nat} {c : Lz} (hi : M<=i) (hl : i<c.length) : ∀j,j<=M->nth (yj P M mod i c j) i=nth c i
 | 0,_=>rfl
 | j+1,hj=>by rw [yj,eh _ _ _ _ (by rw [uZ];omega),Nf (by omega)];exact EL hi hl j (by omega)
theorem JH {mod : Lz} {i : Nat} {c : Lz} (hi : M<=i) (hl : i<c.length) : ∀j,j<=M ->
  Cg P (Df M low i (yj P M mod i c j)) (λs=>Df M low i c s+(- nth c i) * sm j (λj=>nth mod j * iD M low (i - M+j) (eV 0) s))
 | 0,_=>Sz (by funext s;simp [yj,sm])
 | j+1,hj=>by have ih:=JH (mod:=mod) hi hl j (by omega);rw [yj,EL hi hl j (by omega)];refine (Bj (by omega) (by rw [uZ];omega)).trans ?_;refine (Cg.add ih (SF P _)).trans ?_;intro s;simp only [sm];generalize sm j (λj=>nth mod j * iD M low (i - M+j) (eV 0) s)=X;generalize iD M low (i - M+j) (eV 0) s=Y;refine ⟨nth mod j * Y,?_⟩;simp only [O2,Rb,Int.neg_mul,OH];omega
theorem Ji {mod : Lz} (hM : 1<=M) (hlow : ∀j,low j=nth mod j) {c : Lz} (hl : c.length=2 * M - 1) : ∀k,k<=M - 1 ->
  Cg P (Df M low (2 * M - 1 - k) (yU P M mod c k)) (Df M low (2 * M - 1) c)
 | 0,_=>SF P _
 | k+1,hk=>by
  have ih:=Ji hM hlow hl k (by omega);rw [yU];refine SN ?_ ih;obtain ⟨i,hi⟩ : ∃i,2 * M - 2 - k=i:=⟨_,rfl⟩
  rw [hi,show 2 * M - 1 - (k+1)=i by omega,show 2 * M - 1 - k=i+1 by omega];refine (JH (low:=low) (by omega) (by rw [oh];omega) M (Na _)).trans (Sz ?_);funext s;have h1 : sm M (λj=>low j * iD M low (i - M+j) (eV 0) s) = - iD M low (i - M+M) (eV 0) s:=congrFun (Mc (low:=low) hM (i - M)) s;rw [dh (g:=λj=>low j * iD M low (i - M+j) (eV 0) s) λj _=>by rw [hlow],h1,show i - M+M=i by omega];simp only [Df,sm];rw [Int.neg_mul,Ra];omega
theorem CX (c : Lz) (hl : M<=c.length) : Df M low M c=nth (c.take M):=by
 funext s;simp only [Df];rw [dh (g:=λj=>nth c j * eV j s) λj hj=>by rw [EP j hj]];by_cases hs : s<M
 ·rw [nu hs λi _ hne=>by simp only [eV];rw [Nf (by omega)];omega,Cc hs];simp [eV]
 ·rw [l9 (by rw [NG];omega),dh (g:=λ_=>0) λj hj=>by simp only [eV];rw [Nf (by omega)];omega,mi]
end
theorem K2 {P : Int} {m : Nat} (hf : RF P m) (mod : Lz) (x y : Int) : mulR P m mod x y=dQ P m mod x y:=by
 have hres:=hf.res;have hP:=hres.pos;have hm1:=hf.m1;refine (AX hf mod x y).ext hres (ja hres x y) (SN ?_ (jm hP m mod x y).symm);have hd : dV P m (mulR P m mod x y)=nth (mulL P m mod (digs x P m) (digs y P m)):=by unfold dV mulR;have:=qw (P:=P) (mulL P m mod (digs x P m) (digs y P m)) (BY hP m mod _ _);rw [Bd P mod _ _ hm1] at this;rw [this]
 rw [hd];have hc:=IS (P:=P) (M:=m) (low:=nth (qJ m mod)) (a:=digs x P m) (b:=digs y P m) (n:=2 * m - 1) (Na _) hm1 m (Na _);have hx : Cg P (Df m (nth (qJ m mod)) (2 * m - 1) (A6 P (digs x P m) (digs y P m) m (2 * m - 1) m)) (jA m (nth (qJ m mod)) (dV P m x) (dV P m y)):=by rw [pE (sj P m y)];exact hc
 refine SN ?_ hx;unfold mulL;by_cases h1 : 1<m
 ·have hlow : ∀j,nth (qJ m mod) j=nth mod j:=λj=>by rw [qJ,Nd h1]
  have hr:=Ji (P:=P) hm1 hlow (mf P (digs x P m) (digs y P m) m (2 * m - 1) m) (m - 1) (Na _);rw [show 2 * m - 1 - (m - 1)=m by omega,CX _ (by rw [oh,mf];omega)] at hr;exact hr
 ·obtain rfl : m=1:=by omega
  rw [<- CX (M:=1) (low:=nth (qJ 1 mod)) _ (by rw [oh,mf];omega)];exact SF P _
section
open Go.RowKit Go.Shelf
attribute [local go_sem] QX
theorem pM (l : Lz) {k : Nat} (h : k<l.length) : l.take (k+1)=l.take k ++ [nth l k]:=by rw [Nj h,aj h]
theorem zZ (F : Fence) (n : Nat) (hF : F.fn 269) (hro : F.round=none) (hn : 1<=n) (l Bs n₀ : Nat) (a : OA) (len cap : Nat) (zs : Lz) (hreach : len * 8<=140737488351232) (J Jx : Lz->World->Prop)
  (hY : ∀pre x W,J pre W->pre.length<len->YieldAt F (n - 1) prog l #[.int .i64 x] W λe W' =>
   (e = .returned (.bool true)/\J (pre ++ [x]) W'/\Below n₀ W W')\/(e = .returned (.bool false)/\Jx (pre ++ [x]) W'))
  (W : World) (hBs : W.cell? ⟨Bs,0,none⟩=some (.slice a len cap)) (hc : Ints W a len zs) (hb : 0<len->ablk a<n₀) (h0 : J [] W) :
  CallsIn F n prog 269 #[.func (.yield l) #[] #[],.pointer (some ⟨Bs,0,none⟩)] W λe W'=>(∃v,e = .returned v) /\
   ((∃ys,ys=zs/\J ys W')\/(∃pre,(∃k,k<=len/\pre=zs.take k)/\Jx pre W')):=by
 have hpl:=hc.pl;have Hlen:=Z5 hc.len;refine callsIn_of_wp func269 rfl hF ?_ hro;simp only [ntmps269,Ps,NP,Po,Nat.reduceAdd,Nat.reduceSub,O3,O4,Pt,O8,N5,O9];gi_wp2;gi_loopw [7] (λi wr=>∃k : Nat,k<=len/\i = .int .i64 k/\J (zs.take k) wr/\Below n₀ W wr)
  (λi _=>len - (intOf i).toNat)
 case atStart=>exact ⟨0,Ni _,rfl,h0,Nc _ _⟩
 case round =>
  obtain ⟨k,hk,rfl,hJs,hnx⟩:=hrel
  by_cases hlt : k<len
  ·have hcx:=(hc.below hnx hb).cell k hlt
   have htk:=pM zs (k:=k) (by rw [Hlen.out];exact hlt)
   have Htk:=Z5 htk
   obtain ⟨fn,tmps,assign,body,hy,hR⟩:=hY _ (nth zs k) wr hJs (by rw [NG,Hlen.out];omega)
   rw [<- htk] at hR
   clear htk
   gi_wp2
   refine hR.mono ?_
   rintro e W3 (⟨rfl,hJ3,hk3⟩ | ⟨rfl,hJx3⟩)
   ·gi_wp2
    go_roundw
    case rel=>exact ⟨k+1,by omega,by simp,hJ3,hnx.trans hk3⟩
    case measure=>simp [intOf];omega
   ·gi_wp2
    refine bodyPost_ret (results_none rfl _ _ _) rfl ?_
    exact ⟨⟨_,rfl⟩,.inr ⟨_,⟨k+1,by omega,rfl⟩,hJx3⟩⟩
  ·obtain rfl : k=len:=by omega
   rw [No (by rw [Hlen.out];exact Na _)] at hJs
   gi_wp2
   go_end0
   exact ⟨⟨_,rfl⟩,.inl ⟨_,rfl,hJs⟩⟩
theorem Cb (F : Fence) (n : Nat) (hF : F.fn 260) (hro : F.round=none) (a : OA) (len cap : Nat) (w : World) :
  CallsIn F n prog 260 #[.slice a len cap] w λe w'=>e = .returned (.func (.func 269) #[] #[.pointer (some ⟨w.heap.size,0,none⟩)])/\w'=w.alloc (.cells #[.slice a len cap] 22):=by refine callsIn_of_wp func260 rfl hF ?_ hro;simp only [ntmps260,Ps,NP,Po,Nat.reduceAdd,Nat.reduceSub,O3,O4,Pt,O8,N5,O9];gi_wp2;go_ret;exact ⟨rfl,rfl⟩
theorem vT (F : Fence) (n : Nat) (hF : F.fn 269) (hro : F.round=none) (hn : 1<=n) (Bs n₀ : Nat) (a : OA) (len cap : Nat) (zs : Lz) (hreach : len * 8<=140737488351232) (w : World) (hBs : Bs<w.heap.size) (hn₀ : n₀<=w.heap.size)
  (hc : w.cell? ⟨Bs,0,none⟩=some (.slice a len cap)) (hI : Ints w a len zs) (hb : 0<len->ablk a<n₀) :
  SeqStopsK F n prog 269 #[.pointer (some ⟨Bs,0,none⟩)] (λx : Int=>#[Value.int .i64 x]) (Below n₀) (λys=>ys=zs) (λpre=>pre <+: zs) len w:=λl J Jx W hW _ _ hY h0=>by
 have hc':=(hW.cell (p:=⟨Bs,0,none⟩) hBs).trans hc;refine (zZ F n hF hro hn l Bs n₀ a len cap zs hreach J Jx hY W hc' (hI.below (hW.mono hn₀) hb) hb h0).mono ?_;rintro e W' ⟨he,⟨ys,rfl,hj⟩ | ⟨pre,⟨k,hk,rfl⟩,hj⟩⟩
 ·exact ⟨he,.inl ⟨_,rfl,hj⟩⟩
 ·exact ⟨he,.inr ⟨_,List.take_prefix _ _,hj⟩⟩
theorem Av (F : Fence) (n : Nat) (hA : F.fn 272) (hV : F.fn 269) (hro : F.round=none) (hn : 3<=n) (Bs : Nat) (a : OA) (len cap : Nat) (zs : Lz) (hlen : len<=1000000) (w : World) (hBs : Bs<w.heap.size)
  (hc : w.cell? ⟨Bs,0,none⟩=some (.slice a len cap)) (hI : Ints w a len zs) :
  CallsIn F n prog 272 #[.slice none 0 0,.func (.func 269) #[] #[.pointer (some ⟨Bs,0,none⟩)]] w λe W' =>
   ∃v,e = .returned v/\W'.ownsRow w.heap.size 3 1 v len (zs.map (Value.int .i64))/\SW w W':=by
 have h1 : 1<=n:=by omega
 have Hlen:=Z5 hI.len;obtain ⟨i0,hi,hz0,hz1,hz2⟩:=info_parts aU;refine callsIn_of_wp_marks func272 rfl hA ?_ hro;simp only [ntmps272,Ps,NP,Po,Nat.reduceAdd,Nat.reduceSub,O3,O4,Pt,O8,N5,O9];gi_wp2;have bO:=Boxed.new w 22 (.slice none 0 0);have hB0 : SW w (w.alloc (.cells #[.slice none 0 0] 22)):=(Nc _ w).alloc (Na _) _;refine wpIn_rangeFunc_ownG hro h1 (gf:=269) (lb:=#[.pointer (some ⟨Bs,0,none⟩)]) rfl hV (enters_of func269 (by kernel_rfl) rfl)
  (vT F (n - 1) hV hro (by omega) Bs w.heap.size a len cap zs (by omega) w hBs (Na _) hc hI (λh=>hI.lt h)) belowK_t (belowK_b (by simp)) hB0 (λ_=>rfl)
  (λpre W=>(∃v,Boxed W w.heap.size 22 v/\W.ownsRow w.heap.size 3 1 v pre.length (pre.map (Value.int .i64))/\True)/\SW w W)
  (λ_ _ _=>False)
  (OwnFrom.and (Own.from (holdsRow_own w.heap.size w.heap.size 22 3 1 (λpre : Lz=>pre.length) (λpre=>pre.map (Value.int .i64)) (λ_ _=>True)) _) (ownFrom_below (Na _) (by simp)))
  (λ_ _ _ _ _ hs _ _=>hs)
  ⟨⟨_,bO,Rt _ _ _ _,trivial⟩,hB0⟩
  (λx=>{ tmps:=#[.slice none 0 0,.func (.func 269) #[] #[.pointer (some ⟨Bs,0,none⟩)],.pointer (some ⟨w.heap.size,0,none⟩),undef,.slice none 0 0,.int .i64 x,.func (.func 269) #[] #[.pointer (some ⟨Bs,0,none⟩)],.int .i64 x,undef,undef,undef,undef,undef],defers:=[] }) ?assign ?body ?done ?stop
 case assign =>
  intro l x W K hK
  gi_wp2
  exact hK
 case body =>
  rintro l pre x W ⟨⟨v,hv,hrow,_⟩,hB⟩ hlt
  have hcv:=hv.cell
  gi_wp2_with (gi_at_builtin;refine wpListIn_append_own _ rfl _ _ 22 rfl w.heap.size 3 i0 (.int .i64 0) 1 8 underlying22 hi hz0 hz1 hz2 rfl (by decide) _ _ _ rfl (hrow.alloc _) ⟨W.heap.size,0,none⟩ 1 1 [.int .i64 x] rfl rfl (cell_one_new _ _ _) (by simp [Value.oneCell']) (by unfold maxLen;omega) (by omega) (by have:=hB.size;simp;omega) ?_;intro v' w1 hown' hgrow _;obtain ⟨g',cap',rfl⟩:=ownsRow_succ hown';obtain ⟨hv1,hv2,hr2,hk2,hb2⟩:=hv.appended (by decide) hrow hB.size (Na _) hown' hgrow;have hc1:=hv1.cell;have hf1:=hv1.frozen)
  exact ⟨hk2.from _,hb2,⟨_,hv2,by simpa using hr2,trivial⟩,hB.trans hb2⟩
 case done =>
  rintro D ys W hD rfl ⟨⟨v,hv,hrow,_⟩,hB⟩ hK
  have hcv:=hv.cell
  gi_wp2
  refine ⟨by simp,.inl ⟨_,_,rfl,run_takeDeferred hK,?_⟩⟩
  exact ⟨_,results_tmp rfl _ _ _,v,rfl,by have:=ownsRow_putObj hrow (.deferred none) hK rfl;rw [Hlen.out] at this;exact this,hB.trans (belowK_b (w:=w) (Na _) W D _ _ (by simp at hD;omega) hK rfl rfl)⟩
 case stop =>
  rintro D c pre W _ _ h _
  exact h.elim
theorem D9 (F : Fence) (n : Nat) (hC : F.fn 268) (hA : F.fn 272) (hV : F.fn 269) (hro : F.round=none) (hn : 4<=n) (Bs : Nat) (a : OA) (len cap : Nat) (zs : Lz) (hlen : len<=1000000) (w : World) (hBs : Bs<w.heap.size)
  (hc : w.cell? ⟨Bs,0,none⟩=some (.slice a len cap)) (hI : Ints w a len zs) :
  CallsIn F n prog 268 #[.func (.func 269) #[] #[.pointer (some ⟨Bs,0,none⟩)]] w λe W' =>
   ∃v,e = .returned v/\W'.ownsRow w.heap.size 3 1 v len (zs.map (Value.int .i64))/\SW w W':=by refine callsIn_of_wp func268 rfl hC ?_ hro;simp only [ntmps268,Ps,NP,Po,Nat.reduceAdd,Nat.reduceSub,O3,O4,Pt,O8,N5,O9];gi_wp2;refine ⟨λ_=>by omega,?_⟩;refine (Av F (n - 1) hA hV hro (by omega) Bs a len cap zs hlen _ hBs hc hI).mono ?_;rintro e W' ⟨v,rfl,hown,hb⟩;gi_wp2;go_ret;exact ⟨v,rfl,hown,hb⟩
theorem Dz (a : OA) (len cap : Nat) (w : World) :
  Calls prog 260 #[.slice a len cap] w λe w'=>e = .returned (.func (.func 269) #[] #[.pointer (some ⟨w.heap.size,0,none⟩)])/\w'=w.alloc (.cells #[.slice a len cap] 22) :=
 callsIn_wide.1 (Cb Fence.wide 8 trivial rfl a len cap w)
theorem Ba (Bs : Nat) (a : OA) (len cap : Nat) (zs : Lz) (hlen : len<=1000000) (w : World) (hBs : Bs<w.heap.size) (hc : w.cell? ⟨Bs,0,none⟩=some (.slice a len cap)) (hI : Ints w a len zs) :
  Calls prog 268 #[.func (.func 269) #[] #[.pointer (some ⟨Bs,0,none⟩)]] w λe W' =>
   ∃v,e = .returned v/\W'.ownsRow w.heap.size 3 1 v len (zs.map (Value.int .i64))/\SW w W' :=
 callsIn_wide.1 (D9 Fence.wide 8 trivial trivial trivial rfl (by omega) Bs a len cap zs hlen w hBs hc hI)
end
end Go.Proofs.YthglbncgemdcbaaGreat
