import Derived.Test.YtcfmiocdlcapoaaGreatHBS5
import Derived.RangeFuncBox
import Derived.RangeFuncLeaves
import Derived.Shelf.Abstract
import Derived.OwnWalkIn
import Derived.TacticsInMore
import Derived.LoopNIn
import Derived.LoopIn
namespace Go.Proofs.YtcfmiocdlcapoaaGreat
set_option linter.all false
set_option maxRecDepth 100000
set_option maxHeartbeats 4000000
open Go.RowKit Tryz
structure RF (P : Int) (m : Nat) : Prop where
 p2 : 2<=P
 p256 : P<=256
 m1 : 1<=m
 m8 : m<=8
 pw : P ^ m<=256
theorem RF.res {P : Int} {m : Nat} (h : RF P m) : lJ P m:=⟨h.p2,h.m1⟩
theorem RF.order {P : Int} {m : Nat} (h : RF P m) : aU P m=P ^ m:=by have:=h.p2;have:=h.p256;have:=h.m1;have:=h.m8;have e:=mJ (p:=P) (m:=m) (by omega) (by simpa using h.pw);rwa [Mm] at e
theorem RF.of {P M : Int} (h : aU P M ≠ 0) : ∃m : Nat,M=m/\RF P m:=by obtain ⟨h1,h2,h3,h4,h5,h6⟩:=ik h;exact ⟨M.toNat,by omega,⟨h1,h2,by omega,by omega,h5⟩⟩
theorem jz (P M : Int) (am : OA) (mn cm : Nat) (w : World) :
  Calls prog 45 #[.agg #[.int .i64 P,.int .i64 M,.slice am mn cm]] w λe w'=>e = .returned (.int .i64 (aU P M))/\Rs w w':=by
 have Hal:=Z5 (aB w (.cells #[.int .i64 P,.int .i64 M,.slice am mn cm] 24));by_cases h1 : P<2
 ·have Ho:=Z5 (jG (p:=P) (m:=M) (.inl h1));go_enter func45,ntmps45;go_wp2;go_ret;exact ⟨aI Ho.out.symm,Hal.out⟩
 have h1' : decide (P<2)=false:=by simpa using h1
 by_cases h2 : M<1
 ·have Ho:=Z5 (jG (p:=P) (m:=M) (.inr (.inr (.inl h2))));go_enter func45,ntmps45;go_wp2;go_ret;exact ⟨aI Ho.out.symm,Hal.out⟩
 have h2' : decide (M<1)=false:=by simpa using h2
 by_cases h3 : 8<M
 ·have Ho:=Z5 (jG (p:=P) (m:=M) (.inr (.inr (.inr h3))));go_enter func45,ntmps45;go_wp2;go_ret;exact ⟨aI Ho.out.symm,Hal.out⟩
 have h3' : decide (8<M)=false:=by simpa using h3
 obtain ⟨n,rfl⟩ : ∃n : Nat,M=n:=⟨M.toNat,by omega⟩
 go_enter func45,ntmps45;go_wp2_with fail;obtain ⟨W,hW⟩ : ∃W : World,W=w.alloc (.cells #[.int .i64 P,.int .i64 n,.slice am mn cm] 24):=⟨_,rfl⟩
 rw [<- hW];have hbW : Rs w W:=by rw [hW];exact aB _ _
 have c0 : W.cell? ⟨w.heap.size,0,none⟩=some (.int .i64 P):=by rw [hW];exact aE _ _ _ rfl 0
 have c1 : W.cell? ⟨w.heap.size,1,none⟩=some (.int .i64 n):=by rw [hW];exact aE _ _ _ rfl 1
 clear hW;go_loop [3,4] (λqv iv=>∃k : Nat,k<=n/\iv = .int .i64 k/\qv = .int .i64 (P ^ k)/\P ^ k<=256/\1<=P ^ k) (λ_ i=>n - (intOf i).toNat);case atStart=>exact ⟨0,Mj _,rfl,by simp,by simp,by simp⟩
 case round =>
  obtain ⟨k,hk,rfl,rfl,hb,hb1⟩:=hrel
  have hP0 : P ≠ 0:=by omega
  by_cases hlt : k<n
  ·have e1 : P ^ (k+1)=P ^ k * P:=M6 _ _
   have hd0 : (0 : Int)<=256 / P:=ND (by omega) (by omega)
   have hd1 : 256 / P<=256:=NG _ (by omega)
   by_cases h5 : 256 / P<P ^ k
   ·have hbig : aU P n=0:=na (by intro h;have h6:=dF (show 1<=P by omega) (show k+1<=n by omega);rw [Mm] at h;have h7 : 256<P ^ k * P:=OY (by omega) h5;omega)
    have Hb:=Z5 hbig
    clear e1 hbig
    generalize P ^ k=q at *
    go_wp2
    go_ret
    exact ⟨aI Hb.out.symm,hbW⟩
   ·have h7 : P ^ k * P<=256:=by have h8:=Int.mul_le_mul_of_nonneg_right (show P ^ k<=256 / P by omega) (show 0<=P by omega);have h9:=Int.ediv_mul_le 256 hP0;omega
    have e3 : 1 * 1<=P ^ k * P:=Nh hb1 (by omega) (by omega) (by omega)
    have E1:=Z5 e1
    clear e1
    generalize P ^ k=q at *
    go_wp2
    go_round
    case rel=>exact ⟨k+1,by omega,by go_num,by rw [E1.out],by rw [E1.out];exact h7,by rw [E1.out];omega⟩
    case measure=>simp [intOf] <;> omega
  ·obtain rfl : k=n:=by omega
   by_cases h256 : 256<P
   ·have hk1 : 1<=k:=by omega
    have h6:=dF (show 1<=P by omega) hk1
    have h8 : P ^ 1=P:=by rw [M6,N0,OK]
    omega
   ·have Hb:=Z5 (mJ (p:=P) (m:=k) (by omega) (by simpa using hb))
    go_wp2
    go_ret
    exact ⟨aI (by rw [Hb.out];simp),hbW⟩
theorem tq (n : Nat) (w : World) (h2 : 2<=n) (h256 : n<=256) :
  Calls prog 117 #[.int .i64 n] w λe w'=>e = .returned (.bool (gE n))/\w=w':=by
 go_enter func117,ntmps117;go_wp2;go_loop [3] (λdv=>∃d : Nat,2<=d/\d<=n/\dv = .int .i64 d/\Hid (∀e,2<=e->e<d->n % e ≠ 0)) (λd=>n+1 - (intOf d).toNat);case atStart=>exact ⟨2,Mf _,h2,rfl,λe he he2=>by omega⟩
 case round =>
  obtain ⟨d,hd2,hdn,rfl,hno⟩:=hrel
  have hd0 : (d : Int) ≠ 0:=by omega
  by_cases hs : d<n
  ·by_cases hm : n % d=0
   ·have hm' : ((n : Int) % d == 0)=true:=by simp;exact_mod_cast hm
    have Hf:=Z5 (vK hd2 hs hm)
    clear hm
    go_wp2
    go_ret
    exact ⟨bz Hf.out.symm,rfl⟩
   ·have hm' : ((n : Int) % d == 0)=false:=by simp;exact_mod_cast hm
    have Hm:=Z5 hm
    clear hm
    go_wp2
    go_round
    case rel =>
     refine ⟨d+1,by omega,by omega,by go_num,λe he he2=>?_⟩
     rcases MU e d with h | h
     ·exact hno.out e he h
     ·rw [show e=d from by omega];exact Hm.out
    case measure=>simp [intOf] <;> omega
  ·have Hf:=Z5 (rM (n:=n) λe he he2=>hno.out e he (by omega))
   go_wp2
   go_ret
   exact ⟨bz (by rw [Hf.out]),rfl⟩
theorem qe (x p : Int) (m : Nat) (w : World) (hx : 0<=x) (hx2 : x<=9223372036854775807) (hp : 1<=p) (hm : m<=256) :
  Calls prog 182 #[.int .i64 x,.int .i64 p,.int .i64 m] w (cX w (bw x p m)):=by
 go_enter func182,ntmps182;go_wp2_with (at_make;refine b9 rfl _ _ 22 3 rfl (.int .i64 0) 8 underlying22 bt rfl m rfl rfl (by omega) (by unfold maxLen;omega) ?_;intro a w1 hown hbel hge hlt);go_loopw [0,8] (λxv iv wr=>∃k : Nat,k<=m/\iv = .int .i64 k/\xv = .int .i64 (jQ x p k) /\
   wr.ownsRow w.heap.size 3 1 (.slice a m m) m ((dn (bw x p k) k m).map (Value.int .i64))/\Rs w wr)
  (λ_ i _=>m - (intOf i).toNat)
 case atStart=>exact ⟨0,Mj _,rfl,rfl,by simpa [dn,bw] using hown,hbel⟩
 case round =>
  obtain ⟨k,hk,rfl,rfl,hown,hbel⟩:=hrel
  obtain ⟨hints,hmine⟩:=QR hown
  have hq:=wF x p hx hp k
  have hpl:=hints.pl
  by_cases hlt : k<m
  ·have hc:=hints.cell k hlt
   have hf:=(hmine (by omega)).2 k hlt
   have hB:=(hmine (by omega)).1
   go_wp2
   go_roundw
   case rel =>
    refine ⟨k+1,by omega,by go_num,rfl,?_,hbel.setCell hB _⟩
    have h:=bN hown k hlt (.int .i64 (jQ x p k % p))
    rw [<- MH,fK _ _ _ _ (bJ p k x) hlt,<- pB] at h
    exact h
   case measure=>simp [intOf] <;> omega
  ·obtain rfl : k=m:=by omega
   have Hl:=Z5 (bJ p k x)
   rw [gD] at hown
   go_wp2
   go_ret
   exact ⟨a,k,by rw [Hl.out];rfl,by rw [Hl.out];exact hown,hbel⟩
theorem C7 (P M : Int) (am : OA) (mn cm : Nat) (x : Int) (w : World) :
  Calls prog 145 #[.agg #[.int .i64 P,.int .i64 M,.slice am mn cm],.int .i64 x] w λe w'=>e = .returned (.bool (jO (aU P M) x))/\Rs w w':=by
 have Hal:=Z5 (aB w (.cells #[.int .i64 P,.int .i64 M,.slice am mn cm] 24));by_cases h0 : 0<=x
 ·have h0' : decide (0<=x)=true:=by simpa using h0
  have Hq : Hid (jO (aU P M) x=decide (x<aU P M)):=by show _=_;rw [jO,h0'];simp
  clear h0;go_enter func145,ntmps145;go_wp2_with (go_at_call 45;refine (jz P M am mn cm _).mono ?_;rintro e w2 ⟨rfl,hb2⟩);go_ret;exact ⟨bz (by rw [Hq.out]),QQ Hal.out hb2⟩
 ·have h0' : decide (0<=x)=false:=by simpa using h0
  have Hq : Hid (jO (aU P M) x=false):=by show _=_;rw [jO,h0'];simp
  clear h0;go_enter func145,ntmps145;go_wp2_with fail;go_ret;exact ⟨bz (by rw [Hq.out]),Hal.out⟩
theorem JE (P M : Int) (am : OA) (mn cm : Nat) (x : Int) (w : World) (hx : jO (aU P M) x=true) :
  Calls prog 260 #[.agg #[.int .i64 P,.int .i64 M,.slice am mn cm],.int .i64 x] w λe w'=>e = .returned (.int .i64 x)/\Rs w w':=by have Hal:=Z5 (aB w (.cells #[.int .i64 P,.int .i64 M,.slice am mn cm] 24));have Hx:=Z5 hx;clear hx;go_enter func260,ntmps260;go_wp2_with fail;refine (C7 P M am mn cm x _).mono ?_;rintro e w2 ⟨rfl,hb2⟩;rw [Hx.out];go_wp2_with fail;go_ret;exact ⟨rfl,QQ Hal.out hb2⟩
theorem iX (P : Int) (m : Nat) (am : OA) (mn cm : Nat) (x : Int) (w : World) (hf : RF P m) (hx : jO (aU P m) x=true) :
  Calls prog 229 #[.agg #[.int .i64 P,.int .i64 m,.slice am mn cm],.int .i64 x] w (cX w (bw x P m)):=by
 have hx0 : 0<=x/\x<256:=by have h1:=hf.order;have h2:=hf.pw;unfold jO at hx;simp only [MC,MG] at hx;omega
 have hp1 : 1<=P:=by have:=hf.p2;omega
 have hm:=hf.m8;have Hx:=Z5 hx;clear hx;go_enter func229,ntmps229;go_wp2_with fail;obtain ⟨W,hW⟩ : ∃W : World,W=w.alloc (.cells #[.int .i64 P,.int .i64 m,.slice am mn cm] 24):=⟨_,rfl⟩
 rw [<- hW];have hbW : Rs w W:=by rw [hW];exact aB _ _
 have x0 : bf W w.heap.size [.int .i64 P,.int .i64 m,.slice am mn cm]:=by rw [hW];exact QS _ _ _ rfl
 have HX:=Z5 x0;clear hW x0;have hS : ∀V,Rs W V->V.cell? ⟨w.heap.size,0,none⟩=some (.int .i64 P)/\V.cell? ⟨w.heap.size,1,none⟩=some (.int .i64 m)/\V.cell? ⟨w.heap.size,2,none⟩=some (.slice am mn cm)/\Rs W V:=by intro V hV;have x1:=HX.out.ah hV;exact ⟨x1.cell 0 rfl,x1.cell 1 rfl,x1.cell 2 rfl,hV⟩
 have HS:=Z5 hS;have HbW:=Z5 hbW;clear hS hbW;go_region_held3 (λV=>V.cell? ⟨w.heap.size,0,none⟩=some (.int .i64 P)/\V.cell? ⟨w.heap.size,1,none⟩=some (.int .i64 m)/\V.cell? ⟨w.heap.size,2,none⟩=some (.slice am mn cm)/\Rs W V)
  ((refine HS.out _ ?_;first | exact (Mi _ _).drew | (go_split_ands;exact QQ (by assumption) (by assumption))))
  (first
   | (go_at_call 260;((with_reducible refine (JE P m am mn cm x _ Hx.out).mono ?_);rintro e w4 ⟨rfl,hb4⟩))
   | (go_at_call 182;((with_reducible refine (qe x P m _ hx0.1 (by omega) hp1 (by omega)).mono ?_);rintro e w5 ⟨a5,c5,rfl,hown5,hb5⟩)))
 all_goals (
  have hsz : w.heap.size<=w4.heap.size:=by have h1:=HbW.out.size;have h2:=hb4.size;have h3 : W.drew.heap.size=W.heap.size:=rfl;omega
  have Hown:=Z5 (bg hown5 hsz)
  clear hown5
  go_wp2_with fail
  go_ret
  exact ⟨a5,c5,rfl,Hown.out,QQ HbW.out (by go_split_ands;assumption)⟩)
theorem nN (P : Int) (M : Int) (am : OA) (mn cm : Nat) (a : OA) (n c : Nat) (l : Lz) (w : World) (h : Ints w a n l) (hn : n<=1000) (hP1 : 0<=P) (hP : P<=256)
  (hb : ∀k,0<=dy P (l.drop k) * P/\dy P (l.drop k) * P<=1000000000/\0<=nth l k/\nth l k<=1000000000) :
  Calls prog 230 #[.agg #[.int .i64 P,.int .i64 M,.slice am mn cm],.slice a n c] w λe w'=>e = .returned (.int .i64 (dy P l))/\Rs w w':=by
 have HB:=Z5 hb;have Hlen:=Z5 h.len;clear hb;go_enter func230,ntmps230;go_wp2_with fail;obtain ⟨W,hW⟩ : ∃W : World,W=w.alloc (.cells #[.int .i64 P,.int .i64 M,.slice am mn cm] 24):=⟨_,rfl⟩
 rw [<- hW];have hbW : Rs w W:=by rw [hW];exact aB _ _
 have x0 : W.cell? ⟨w.heap.size,0,none⟩=some (.int .i64 P):=by rw [hW];exact aE _ _ _ rfl 0
 clear hW;have hW:=h.ah hbW;have hpl:=hW.pl;go_loopw [5,6] (λxv iv wr=>∃k : Nat,k<=n/\iv = .int .i64 ((k : Int) - 1)/\xv = .int .i64 (dy P (l.drop k))/\bs W wr) (λ_ i _=>(intOf i+1).toNat);case atStart=>exact ⟨n,Mf _,rfl,by rw [Nn (by rw [Hlen.out];exact Mf _)];rfl,QW _⟩
 case round =>
  obtain ⟨k,hk,rfl,rfl,hd⟩:=hrel
  by_cases hlt : 0<k
  ·obtain ⟨j,rfl⟩ : ∃j,k=j+1:=⟨k - 1,by omega⟩
   have hc:=(hW.drawn hd).cell j (by omega)
   have c0:=hd.cell x0
   have hjl : j<l.length:=by rw [Hlen.out];omega
   obtain ⟨b1,b2,b3,b4⟩ : 0<=dy P (l.drop (j+1)) * P/\dy P (l.drop (j+1)) * P<=1000000000/\0<=nth l j/\nth l j<=1000000000:=⟨(HB.out (j+1)).1,(HB.out (j+1)).2.1,(HB.out j).2.2⟩
   have e1 : ((j+1 : Nat) : Int) - 1=(j : Int):=by omega
   rw [e1]
   clear e1 hlt
   have hfin : dy P (l.drop (j+1)) * P+nth l j=dy P (l.drop j):=by rw [AA l j hjl];simp only [dy];rw [NF P,Int.add_comm]
   generalize dy P (l.drop (j+1))=X at *
   generalize nth l j=Y at *
   have Hfin:=Z5 hfin
   clear hfin
   have e1 : (0 : Int)<=j:=by omega
   have e2 : (j : Int)<n:=by omega
   have r1 : IntKind.i64.wrap (X * P)=X * P:=Mq _ (by omega)
   have r2 : IntKind.i64.wrap (X * P+Y)=X * P+Y:=Mq _ (by omega)
   go_wp2_with fail
   go_quiet (fail)
   clear r1 r2
   go_wp2
   go_roundw
   case rel=>exact ⟨j,by omega,by go_num,by rw [<- Hfin.out],hd.drewN _⟩
   case measure=>simp [intOf] <;> omega
  ·obtain rfl : k=0:=by omega
   go_wp2_with fail
   go_ret
   exact ⟨by simp,QQ hbW hd.below⟩
def xA (P : Int) (a b : Lz) : Lz:=List.zipWith (λu v=>(u+v) % P) a b
theorem vE {P : Int} : ∀(m : Nat) (x y : Int),dy P (xA P (bw x P m) (bw y P m))=eD P m x y
 | 0,_,_=>rfl
 | m+1,x,y=>by simp only [bw,xA,NX,dy,eD];have:=vE (P:=P) m (x / P) (y / P);unfold xA at this;rw [this,Int.add_emod x y]
def uj (P : Int) (a : Lz) : Lz:=a.map λu=>(P - u) % P
theorem vQ {P : Int} : ∀(m : Nat) (x : Int),dy P (uj P (bw x P m))=gu P m x
 | 0,_=>rfl
 | m+1,x=>by simp only [bw,uj,Nc,dy,gu];have:=vQ (P:=P) m (x / P);unfold uj at this;rw [this]
theorem dI.zip {P : Int} (hP : 0<P) (f : Int->Int->Int) (a b : Lz) : dI P (List.zipWith (λu v=>(f u v) % P) a b):=by refine Rh hP λx hx=>?_;rw [O7] at hx;obtain ⟨i,hi,rfl⟩:=hx;rw [O8];exact ⟨MZ _ (by omega),MR _ hP⟩
theorem dI.LM {P : Int} (hP : 0<P) (a : Lz) : dI P (uj P a):=by refine Rh hP λx hx=>?_;unfold uj at hx;obtain ⟨y,_,rfl⟩:=List.mem_map.1 hx;exact ⟨MZ _ (by omega),MR _ hP⟩
theorem dI.LW {P : Int} {m : Nat} (hf : RF P m) {l : Lz} (h : dI P l) (hl : l.length=m) : ∀k,0<=dy P (l.drop k) * P/\dy P (l.drop k) * P<=1000000000/\0<=nth l k/\nth l k<=1000000000:=by
 intro k;have hP : 0<P:=by have:=hf.p2;omega
 have hP2:=hf.p256;have h1:=h.CH hP hl hf.pw k;have h2:=h k;have h3:=lY h1.1 (show dy P (l.drop k)<=256 by omega) (show 0<=P by omega) hP2;exact ⟨h3.1,by omega,h2.1,by omega⟩
theorem sr {P : Int} {m : Nat} (hf : RF P m) (x : Int) (i : Nat) : 0<=nth (bw x P m) i/\nth (bw x P m) i<P:=dI.bw (by have:=hf.p2;omega) m x i
theorem Ib (P : Int) (m : Nat) (am : OA) (mn cm : Nat) (x y : Int) (w : World) (hf : RF P m) (hx : jO (aU P m) x=true) (hy : jO (aU P m) y=true) :
  Calls prog 179 #[.agg #[.int .i64 P,.int .i64 m,.slice am mn cm],.int .i64 x,.int .i64 y] w λe w'=>e = .returned (.int .i64 (eD P m x y))/\Rs w w':=by
 have hp2:=hf.p2;have hp256:=hf.p256;have hm8:=hf.m8;have Hx:=Z5 hx;have Hy:=Z5 hy;have Hdx:=Z5 (bJ P m x);have Hdy:=Z5 (bJ P m y);have Hbx:=Z5 (sr hf x);have Hby:=Z5 (sr hf y);have hNl : (xA P (bw x P m) (bw y P m)).length=m:=by simp [xA,bJ]
 have hNn : ∀i,i<m->nth (xA P (bw x P m) (bw y P m)) i=(nth (bw x P m) i+nth (bw y P m) i) % P:=λi hi=>by rw [aj (by rw [hNl];exact hi),aj (by rw [bJ];exact hi),aj (by rw [bJ];exact hi)];simp [xA]
 have hNg : dI P (xA P (bw x P m) (bw y P m)):=dI.zip (by omega) (λu v=>u+v) (bw x P m) (bw y P m);have hNd:=dI.LW hf hNg hNl;have HNl:=Z5 hNl;have HNn:=Z5 hNn;have HNd:=Z5 hNd;have HNv:=Z5 (vE (P:=P) m x y);clear hx hy hNl hNn hNd hNg;go_enter func179,ntmps179;go_wp2_with fail;obtain ⟨W,hW⟩ : ∃W : World,W=w.alloc (.cells #[.int .i64 P,.int .i64 m,.slice am mn cm] 24):=⟨_,rfl⟩
 rw [<- hW];have hbW : Rs w W:=by rw [hW];exact aB _ _
 have x0 : bf W w.heap.size [.int .i64 P,.int .i64 m,.slice am mn cm]:=by rw [hW];exact QS _ _ _ rfl
 have HX:=Z5 x0;have hsW : w.heap.size<W.heap.size:=x0.1;clear hW x0;refine (iX P m am mn cm x W hf Hx.out).mono ?_;rintro e w1 ⟨a1,c1,rfl,hown1,hb1⟩;have x1:=HX.out.ah hb1;have d0:=x1.cell 0 rfl;have d1:=x1.cell 1 rfl;have d2:=x1.cell 2 rfl;rw [Hdx.out] at hown1 ⊢;clear x1;go_wp2_with fail;refine (iX P m am mn cm y w1 hf Hy.out).mono ?_;rintro e w2 ⟨a2,c2,rfl,hown2,hb2⟩;rw [Hdy.out] at hown2 ⊢;have hs1:=hb1.size;have hown1':=ba hown1 hb2;have hap : a1 ≠ none->an a1<w1.heap.size:=λh0=>(aZ hown1 h0).2;have hi2:=(QR hown2).1;have hlo2 : 0<m->w1.heap.size<=an a2:=λh0=>(fG hown2 h0).1;have hap1 : a1 ≠ none->W.heap.size<=an a1:=λh0=>(aZ hown1 h0).1;have hb12:=QQ hb1 hb2;have hpl2:=hi2.pl;obtain ⟨D,hD⟩ : ∃D,bw x P m=D:=⟨_,rfl⟩
 obtain ⟨E,hE⟩ : ∃E,bw y P m=E:=⟨_,rfl⟩
 rw [hD] at hown1' Hdx Hbx HNl HNn HNd HNv;rw [hE] at hi2 Hdy Hby HNl HNn HNd HNv;obtain ⟨NN,hNN⟩ : ∃NN,xA P D E=NN:=⟨_,rfl⟩
 rw [hNN] at HNl HNn HNd HNv;clear hD hE hNN hown1 hown2;go_wp2_with fail;go_loopw [9] (λiv wr=>∃k : Nat,k<=m/\iv = .int .i64 k/\wr.ownsRow W.heap.size 3 1 (.slice a1 m c1) m ((fA NN D k).map (Value.int .i64))/\de a1 w2 wr) (λiv _=>m - (intOf iv).toNat);case atStart=>exact ⟨0,Mj _,rfl,by rw [eU];exact hown1',Rb _ _⟩
 case round =>
  obtain ⟨k,hk,rfl,hown,honly⟩:=hrel
  have hbr : Rs W wr:=hb12.trans (honly.below hap1 (by have:=hb2.size;omega))
  by_cases hlt : k<m
  ·obtain ⟨hi1,hm1⟩:=QR hown
   have hi2r:=honly.ints hi2 (by
    by_cases h0 : a1=none
    ·exact .inl h0
    ·exact .inr (.inr (by have h1:=hap h0;have h2:=hlo2 (by omega);omega)))
   have ca:=hi1.cell k hlt
   have cb:=hi2r.cell k hlt
   have fa:=(hm1 (by omega)).2 k hlt
   have hpl1:=hi1.pl
   have hkN : NN.length=D.length:=by rw [HNl.out,Hdx.out]
   have hkD : k<D.length:=by rw [Hdx.out];exact hlt
   have hmix:=eO NN D k k hkN (by omega)
   rw [Mh (by omega)] at hmix
   rw [hmix] at ca
   have hset:=eH NN D k hkN hkD
   have Hset:=Z5 hset
   have x1:=HX.out.ah hbr
   have d0:=x1.cell 0 rfl
   have b1:=Hbx.out k
   have b2:=Hby.out k
   have hP0 : P ≠ 0:=by omega
   have r5 : IntKind.i64.wrap (nth D k+nth E k)=nth D k+nth E k:=Mq _ (by omega)
   have r6 : (nth D k+nth E k).tmod P=(nth D k+nth E k) % P:=Ng _ _ (by omega)
   have R7:=Z5 (HNn.out k hlt)
   clear hmix hset hkN hkD x1
   go_wp2_with fail
   go_still_tail 15,(by kernel_rfl)
   change wpList _ _ _ _ _ wr.drew
   generalize hwd : wr.drew=wd
   have fd : wd.frozen? ⟨an a1,aP a1+k,none⟩=false:=by rw [<- hwd];exact fa
   have cd : wd.cell? ⟨an a1,aP a1+k,none⟩=some (.int .i64 (nth D k)):=by rw [<- hwd];exact ca
   have Hwd:=Z5 hwd
   clear hwd r5 r6
   go_wp2_with fail
   go_roundw
   case rel =>
    obtain rfl:=Hwd.out
    have hdr : bs wr wr.drew:=(QW wr).drew
    refine ⟨k+1,by omega,by go_num,?_,honly.trans ((Q2 hdr).trans (Ra _ k _ (by intro e;have:=hpl1 (by omega);rw [e] at this;cases this)))⟩
    have h1:=bN (w:=wr.drew) hown k hlt (.int .i64 ((nth D k+nth E k) % P))
    rw [<- MH,<- R7.out,Hset.out] at h1
    rw [<- R7.out]
    exact h1
   case measure=>simp [intOf] <;> omega
  ·obtain rfl : k=m:=by omega
   rw [fT NN D k HNl.out Hdx.out] at hown
   have hi1:=(QR hown).1
   have x1:=HX.out.ah hbr
   have d0:=x1.cell 0 rfl
   have d1:=x1.cell 1 rfl
   have d2:=x1.cell 2 rfl
   clear x1
   go_wp2_with fail
   refine (nN P k am mn cm a1 k c1 NN wr hi1 (by omega) (by omega) (by omega) HNd.out).mono ?_
   rintro e w4 ⟨rfl,hb4⟩
   go_wp2_with fail
   go_ret
   exact ⟨aI HNv.out,QQ (QQ hbW hbr) hb4⟩
theorem GW (P : Int) (m : Nat) (am : OA) (mn cm : Nat) (x : Int) (w : World) (hf : RF P m) (hx : jO (aU P m) x=true) :
  Calls prog 233 #[.agg #[.int .i64 P,.int .i64 m,.slice am mn cm],.int .i64 x] w λe w'=>e = .returned (.int .i64 (gu P m x))/\Rs w w':=by
 have hp2:=hf.p2;have hp256:=hf.p256;have hm8:=hf.m8;have Hx:=Z5 hx;have Hdx:=Z5 (bJ P m x);have Hbx:=Z5 (sr hf x);have hNl : (uj P (bw x P m)).length=m:=by simp [uj,bJ]
 have hNn : ∀i,i<m->nth (uj P (bw x P m)) i=(P - nth (bw x P m) i) % P:=λi hi=>by rw [aj (by rw [hNl];exact hi),aj (by rw [bJ];exact hi)];simp [uj]
 have hNd:=dI.LW hf (dI.LM (by omega) (bw x P m)) hNl;have HNl:=Z5 hNl;have HNn:=Z5 hNn;have HNd:=Z5 hNd;have HNv:=Z5 (vQ (P:=P) m x);clear hx hNl hNn hNd;go_enter func233,ntmps233;go_wp2_with fail;obtain ⟨W,hW⟩ : ∃W : World,W=w.alloc (.cells #[.int .i64 P,.int .i64 m,.slice am mn cm] 24):=⟨_,rfl⟩
 rw [<- hW];have hbW : Rs w W:=by rw [hW];exact aB _ _
 have x0 : bf W w.heap.size [.int .i64 P,.int .i64 m,.slice am mn cm]:=by rw [hW];exact QS _ _ _ rfl
 have HX:=Z5 x0;have hsW : w.heap.size<W.heap.size:=x0.1;clear hW x0;refine (iX P m am mn cm x W hf Hx.out).mono ?_;rintro e w2 ⟨a1,c1,rfl,hown1,hb1⟩;rw [Hdx.out] at hown1 ⊢;have hs1:=hb1.size;have hap1 : a1 ≠ none->W.heap.size<=an a1:=λh0=>(aZ hown1 h0).1;obtain ⟨D,hD⟩ : ∃D,bw x P m=D:=⟨_,rfl⟩
 rw [hD] at hown1 Hdx Hbx HNl HNn HNd HNv;obtain ⟨NN,hNN⟩ : ∃NN,uj P D=NN:=⟨_,rfl⟩
 rw [hNN] at HNl HNn HNd HNv;clear hD hNN;go_wp2_with fail;go_loopw [6] (λiv wr=>∃k : Nat,k<=m/\iv = .int .i64 k/\wr.ownsRow W.heap.size 3 1 (.slice a1 m c1) m ((fA NN D k).map (Value.int .i64))/\de a1 w2 wr) (λiv _=>m - (intOf iv).toNat);case atStart=>exact ⟨0,Mj _,rfl,by rw [eU];exact hown1,Rb _ _⟩
 case round =>
  obtain ⟨k,hk,rfl,hown,honly⟩:=hrel
  have hbr : Rs W wr:=hb1.trans (honly.below hap1 (by omega))
  by_cases hlt : k<m
  ·obtain ⟨hi1,hm1⟩:=QR hown
   have ca:=hi1.cell k hlt
   have fa:=(hm1 (by omega)).2 k hlt
   have hpl1:=hi1.pl
   have hkN : NN.length=D.length:=by rw [HNl.out,Hdx.out]
   have hkD : k<D.length:=by rw [Hdx.out];exact hlt
   have hmix:=eO NN D k k hkN (by omega)
   rw [Mh (by omega)] at hmix
   rw [hmix] at ca
   have hset:=eH NN D k hkN hkD
   have Hset:=Z5 hset
   have x1:=HX.out.ah hbr
   have d0:=x1.cell 0 rfl
   have b1:=Hbx.out k
   have hP0 : P ≠ 0:=by omega
   have r5 : IntKind.i64.wrap (P - nth D k)=P - nth D k:=Mq _ (by omega)
   obtain ⟨Z,hZ⟩ : ∃Z,(P - nth D k) % P=Z:=⟨_,rfl⟩
   have r6 : (P - nth D k).tmod P=Z:=by rw [<- hZ];exact Ng _ _ (by omega)
   have R7 : Hid (nth NN k=Z):=by show _=_;rw [<- hZ];exact HNn.out k hlt
   clear hZ
   clear hmix hset hkN hkD x1
   go_wp2_with fail
   go_still_tail 13,(by kernel_rfl)
   change wpList _ _ _ _ _ wr.drew
   generalize hwd : wr.drew=wd
   have fd : wd.frozen? ⟨an a1,aP a1+k,none⟩=false:=by rw [<- hwd];exact fa
   have cd : wd.cell? ⟨an a1,aP a1+k,none⟩=some (.int .i64 (nth D k)):=by rw [<- hwd];exact ca
   have Hwd:=Z5 hwd
   clear hwd r5 r6
   go_wp2_with fail
   go_roundw
   case rel =>
    obtain rfl:=Hwd.out
    have hdr : bs wr wr.drew:=(QW wr).drew
    refine ⟨k+1,by omega,by go_num,?_,honly.trans ((Q2 hdr).trans (Ra _ k _ (by intro e;have:=hpl1 (by omega);rw [e] at this;cases this)))⟩
    have h1:=bN (w:=wr.drew) hown k hlt (.int .i64 Z)
    rw [<- MH,<- R7.out,Hset.out] at h1
    rw [<- R7.out]
    exact h1
   case measure=>simp [intOf] <;> omega
  ·obtain rfl : k=m:=by omega
   rw [fT NN D k HNl.out Hdx.out] at hown
   have hi1:=(QR hown).1
   have x1:=HX.out.ah hbr
   have d0:=x1.cell 0 rfl
   have d1:=x1.cell 1 rfl
   have d2:=x1.cell 2 rfl
   clear x1
   go_wp2_with fail
   refine (nN P k am mn cm a1 k c1 NN wr hi1 (by omega) (by omega) (by omega) HNd.out).mono ?_
   rintro e w4 ⟨rfl,hb4⟩
   go_wp2_with fail
   go_ret
   exact ⟨aI HNv.out,QQ (QQ hbW hbr) hb4⟩
def AN (P : Int) (a b : Lz) (i : Nat) (c : Lz) : Nat->Lz
 | 0=>c
 | j+1=>(AN P a b i c j).set (i+j) ((nth (AN P a b i c j) (i+j)+nth a i * nth b j) % P)
def xP (P : Int) (a b : Lz) (M n : Nat) : Nat->Lz
 | 0=>List.replicate n 0
 | i+1=>AN P a b i (xP P a b M n i) M
def uQ (P : Int) (M : Nat) (mod : Lz) (i : Nat) (c : Lz) : Nat->Lz
 | 0=>c
 | j+1=>(uQ P M mod i c j).set (i - M+j) ((nth (uQ P M mod i c j) (i - M+j)+(P - nth (uQ P M mod i c j) i) * nth mod j) % P)
def uK (P : Int) (M : Nat) (mod : Lz) (c : Lz) : Nat->Lz
 | 0=>c
 | k+1=>uQ P M mod (2 * M - 2 - k) (uK P M mod c k) M
def mulL (P : Int) (M : Nat) (mod : Lz) (a b : Lz) : Lz:=(uK P M mod (xP P a b M (2 * M - 1) M) (M - 1)).take M
def mulR (P : Int) (M : Nat) (mod : Lz) (x y : Int) : Int:=dy P (mulL P M mod (bw x P M) (bw y P M))
theorem dI.set {P : Int} {l : Lz} (h : dI P l) (i : Nat) {x : Int} (h0 : 0<=x) (h1 : x<P) : dI P (l.set i x):=by
 intro j;by_cases hi : i<l.length
 ·rw [dD _ _ _ _ hi];split
  ·exact ⟨h0,h1⟩
  ·exact h j
 ·rw [NT (by omega)];exact h j
theorem dI.Cz {P : Int} (hP : 0<P) {l : Lz} (h : dI P l) (i : Nat) (x : Int) : dI P (l.set i (x % P)):=h.set i (MZ _ (by omega)) (MR _ hP)
theorem wa (P : Int) (a b : Lz) (i : Nat) (c : Lz) : ∀j,(AN P a b i c j).length=c.length
 | 0=>rfl
 | j+1=>by rw [AN,M9,wa P a b i c j]
theorem wH {P : Int} (hP : 0<P) (a b : Lz) (i : Nat) {c : Lz} (h : dI P c) : ∀j,dI P (AN P a b i c j)
 | 0=>h
 | j+1=>dI.Cz hP (wH hP a b i h j) _ _
theorem jS (P : Int) (a b : Lz) (M n : Nat) : ∀i,(xP P a b M n i).length=n
 | 0=>by simp [xP]
 | i+1=>by rw [xP,wa,jS P a b M n i]
theorem rj {P : Int} (hP : 0<P) (a b : Lz) (M n : Nat) : ∀i,dI P (xP P a b M n i)
 | 0=>dI.replicate hP n
 | i+1=>wH hP a b i (rj hP a b M n i) M
theorem qU (P : Int) (M : Nat) (mod : Lz) (i : Nat) (c : Lz) : ∀j,(uQ P M mod i c j).length=c.length
 | 0=>rfl
 | j+1=>by rw [uQ,M9,qU P M mod i c j]
theorem xQ {P : Int} (hP : 0<P) (M : Nat) (mod : Lz) (i : Nat) {c : Lz} (h : dI P c) : ∀j,dI P (uQ P M mod i c j)
 | 0=>h
 | j+1=>dI.Cz hP (xQ hP M mod i h j) _ _
theorem lr (P : Int) (M : Nat) (mod : Lz) (c : Lz) : ∀k,(uK P M mod c k).length=c.length
 | 0=>rfl
 | k+1=>by rw [uK,qU,lr P M mod c k]
theorem qX {P : Int} (hP : 0<P) (M : Nat) (mod : Lz) {c : Lz} (h : dI P c) : ∀k,dI P (uK P M mod c k)
 | 0=>h
 | k+1=>xQ hP M mod _ (qX hP M mod h k) M
theorem dI.take {P : Int} (hP : 0<P) {l : Lz} (h : dI P l) (k : Nat) : dI P (l.take k):=by
 intro i;have e : nth (l.take k) i=if i<k then nth l i else 0:=by simp only [nth,Mk,Nj];split <;> rfl
 rw [e];split
 ·exact h i
 ·omega
theorem Av (P : Int) {M : Nat} (mod : Lz) (a b : Lz) (hM : 1<=M) : (mulL P M mod a b).length=M:=by unfold mulL;rw [MJ,lr,jS];omega
theorem zD {P : Int} (hP : 0<P) (M : Nat) (mod : Lz) (a b : Lz) : dI P (mulL P M mod a b):=dI.take hP (qX hP M mod (rj hP a b M _ M) _) M
structure AD (w : World) (P : Int) (m : Nat) (am : OA) (mn : Nat) (mod : Lz) : Prop where
 ints : Ints w am mn mod
 low : 1<m->mn=m
 dig : dI P mod
theorem AD.ah {w w' : World} {P : Int} {m : Nat} {am : OA} {mn : Nat} {mod : Lz} (h : AD w P m am mn mod) (hb : Rs w w') : AD w' P m am mn mod:=⟨h.ints.ah hb,h.low,h.dig⟩
theorem oQ {l : Lz} {k i : Nat} (h : i<k) : nth (l.take k) i=nth l i:=by simp only [nth,Mk,Nj,Mg h]
theorem Ints.take {w : World} {a : OA} {n : Nat} {l : Lz} (h : Ints w a n l) {k : Nat} (hk : k<=n) : Ints w a k (l.take k) :=
 ⟨by rw [MJ,h.len];omega,λh0=>h.pl (by omega),Mt hk h.max,λi hi=>by rw [oQ hi];exact h.cell i (by omega)⟩
theorem tJ (P : Int) (m : Nat) (am : OA) (mn cm : Nat) (mod : Lz) (x y : Int) (w : World) (hf : RF P m) (hmod : AD w P m am mn mod) (hx : jO (aU P m) x=true) (hy : jO (aU P m) y=true) :
  Calls prog 180 #[.agg #[.int .i64 P,.int .i64 m,.slice am mn cm],.int .i64 x,.int .i64 y] w λe w'=>e = .returned (.int .i64 (mulR P m mod x y))/\Rs w w':=by
 have hp2:=hf.p2;have hp256:=hf.p256;have hm1:=hf.m1;have hm8:=hf.m8;have Hx:=Z5 hx;have Hy:=Z5 hy;have Hdx:=Z5 (bJ P m x);have Hdy:=Z5 (bJ P m y);have Hbx:=Z5 (sr hf x);have Hby:=Z5 (sr hf y);have Hbm:=Z5 hmod.dig;have hplm:=hmod.ints.pl;have Hlow:=Z5 hmod.low;obtain ⟨n,hn⟩ : ∃n : Nat,2 * m - 1=n:=⟨_,rfl⟩
 have hn1 : m<=n:=by omega
 have hn2 : n<=15:=by omega
 have Hn:=Z5 hn;have hnv : 2 * (m : Int) - 1=n:=by omega
 have hnv2 : 2 * (m : Int) - 2=(n : Int) - 1:=by omega
 have Hnv2:=Z5 hnv2;clear hx hy hn hnv2;go_enter func180,ntmps180;go_wp2_with fail;obtain ⟨W,hW⟩ : ∃W : World,W=w.alloc (.cells #[.int .i64 P,.int .i64 m,.slice am mn cm] 24):=⟨_,rfl⟩
 rw [<- hW];have hbW : Rs w W:=by rw [hW];exact aB _ _
 have x0 : bf W w.heap.size [.int .i64 P,.int .i64 m,.slice am mn cm]:=by rw [hW];exact QS _ _ _ rfl
 have HX:=Z5 x0;clear hW x0;have hmW:=hmod.ah hbW;refine (iX P m am mn cm x W hf Hx.out).mono ?_;rintro e w1 ⟨a1,c1,rfl,hown1,hb1⟩;have x1:=HX.out.ah hb1;have d0:=x1.cell 0 rfl;have d1:=x1.cell 1 rfl;have d2:=x1.cell 2 rfl;rw [Hdx.out] at hown1 ⊢;clear x1;go_wp2_with fail;refine (iX P m am mn cm y w1 hf Hy.out).mono ?_;rintro e w2 ⟨a2,c2,rfl,hown2,hb2⟩;rw [Hdy.out] at hown2 ⊢;have hb12:=QQ hb1 hb2;have x1:=HX.out.ah hb12;have d0:=x1.cell 0 rfl;have d1:=x1.cell 1 rfl;have d2:=x1.cell 2 rfl;have hi1:=((QR hown1).1).ah hb2;have hi2:=(QR hown2).1;have hpl1:=hi1.pl;have hpl2:=hi2.pl;have hm2:=hmW.ah hb12;obtain ⟨D,hD⟩ : ∃D,bw x P m=D:=⟨_,rfl⟩
 obtain ⟨E,hE⟩ : ∃E,bw y P m=E:=⟨_,rfl⟩
 have HR : Hid (mulR P m mod x y=dy P (mulL P m mod D E)):=by show _=_;rw [mulR,hD,hE]
 rw [hD] at hi1 Hdx Hbx;rw [hE] at hi2 Hdy Hby;clear hD hE hown1 hown2 x1;go_wp2_with (at_make;refine b9 rfl _ _ 22 3 rfl (.int .i64 0) 8 underlying22 bt rfl n rfl rfl (by omega) (by unfold maxLen;omega) ?_;intro a3 w3 hown3 hb3 hge3 hlt3;have d0:=aA hb3 d0;have d1:=aA hb3 d1;have d2:=aA hb3 d2);have hP : 0<P:=by omega
 have hS : ∀V,Rs w2 V->V.cell? ⟨w.heap.size,0,none⟩=some (.int .i64 P)/\V.cell? ⟨w.heap.size,1,none⟩=some (.int .i64 m)/\V.cell? ⟨w.heap.size,2,none⟩=some (.slice am mn cm)/\Ints V a1 m D/\Ints V a2 m E/\Ints V am mn mod:=by intro V hV;have x1:=(HX.out.ah hb12).ah hV;exact ⟨x1.cell 0 rfl,x1.cell 1 rfl,x1.cell 2 rfl,hi1.ah hV,hi2.ah hV,hm2.ints.ah hV⟩
 have HS:=Z5 hS;have HC : Hid (List.replicate n (Value.int .i64 0)=(xP P D E m n 0).map (Value.int .i64)):=by show _=_;simp [xP]
 rw [HC.out] at hown3;have ha3 : a3 ≠ none->w2.heap.size<=an a3:=λ_=>hge3;have hb23:=hb12.trans (hb3.mono hb12.size);clear hS d0 d1 d2 hi1 hi2 hm2;go_loopw [10] (λiv wr=>∃i : Nat,i<=m/\iv = .int .i64 i/\wr.ownsRow w2.heap.size 3 1 (.slice a3 n n) n ((xP P D E m n i).map (Value.int .i64))/\de a3 w3 wr) (λiv _=>m - (intOf iv).toNat);case atStart=>exact ⟨0,Mj _,rfl,hown3,Rb _ _⟩
 case round =>
  obtain ⟨i,hi,rfl,hown,honly⟩:=hrel
  have hbr : Rs w2 wr:=hb3.trans (honly.below ha3 hb3.size)
  obtain ⟨d0,d1,d2,j1,j2,j3⟩:=HS.out wr hbr
  by_cases hlt : i<m
  ·have Hci : Hid (xP P D E m n (i+1)=AN P D E i (xP P D E m n i) m):=rfl
   have Hcd : Hid (dI P (xP P D E m n i)):=rj hP D E m n i
   have Hcl : Hid ((xP P D E m n i).length=n):=jS P D E m n i
   obtain ⟨C,hC⟩ : ∃C,xP P D E m n i=C:=⟨_,rfl⟩
   rw [hC] at hown Hci Hcd Hcl
   clear hC
   go_wp2_with fail
   go_loopw [11] (λiv wr=>∃j : Nat,j<=m/\iv = .int .i64 j/\wr.ownsRow w2.heap.size 3 1 (.slice a3 n n) n ((AN P D E i C j).map (Value.int .i64))/\de a3 w3 wr) (λiv _=>m - (intOf iv).toNat)
   case atStart=>exact ⟨0,Mj _,rfl,hown,honly⟩
   case round =>
    obtain ⟨j,hj,rfl,hown2,honly2⟩:=hrel
    have hbr2 : Rs w2 wr:=hb3.trans (honly2.below ha3 hb3.size)
    obtain ⟨d0,d1,d2,j1,j2,j3⟩:=HS.out wr hbr2
    by_cases hlt2 : j<m
    ·have Hcj : Hid (AN P D E i C (j+1)=(AN P D E i C j).set (i+j) ((nth (AN P D E i C j) (i+j)+nth D i * nth E j) % P)):=rfl
     have hcd:=wH hP D E i Hcd.out j (i+j)
     obtain ⟨T,hT⟩ : ∃T,AN P D E i C j=T:=⟨_,rfl⟩
     rw [hT] at hown2 Hcj hcd
     clear hT
     have hij : i+j<n:=by have:=Hn.out;omega
     obtain ⟨it,mt⟩:=QR hown2
     have ct:=it.cell (i+j) hij
     have ft:=(mt (by omega)).2 (i+j) hij
     have hplt:=it.pl
     have cD:=j1.cell i hlt
     have cE:=j2.cell j hlt2
     have bD:=Hbx.out i
     have bE:=Hby.out j
     have hme:=lY bD.1 (show nth D i<=256 by omega) bE.1 (show nth E j<=256 by omega)
     have hP0 : P ≠ 0:=by omega
     obtain ⟨k,hk⟩ : ∃k,i+j=k:=⟨_,rfl⟩
     rw [hk] at ct ft Hcj hcd hij
     obtain ⟨Z,hZ⟩ : ∃Z,(nth T k+nth D i * nth E j) % P=Z:=⟨_,rfl⟩
     have Hcj2 : Hid (AN P D E i C (j+1)=T.set k Z):=by show _=_;rw [Hcj.out,hZ]
     have r1 : IntKind.i64.wrap ((i : Int)+j)=(k : Int):=by rw [Mq _ (by omega)];omega
     have r2 : IntKind.i64.wrap (nth D i * nth E j)=nth D i * nth E j:=Mq _ (by omega)
     have r3 : IntKind.i64.wrap (nth T k+nth D i * nth E j)=nth T k+nth D i * nth E j:=Mq _ (by omega)
     have r4 : (nth T k+nth D i * nth E j).tmod P=Z:=by rw [<- hZ];exact Ng _ _ (by omega)
     have q1 : (0 : Int)<=k:=by omega
     have q2 : (k : Int)<n:=by omega
     clear hZ hk Hcj
     go_wp2_with fail
     go_still_tail 24,(by kernel_rfl)
     change wpList _ _ _ _ _ wr.drew
     generalize hwd : wr.drew=wd
     have fd : wd.frozen? ⟨an a3,aP a3+k,none⟩=false:=by rw [<- hwd];exact ft
     have cd : wd.cell? ⟨an a3,aP a3+k,none⟩=some (.int .i64 (nth T k)):=by rw [<- hwd];exact ct
     have Hwd:=Z5 hwd
     clear hwd r1 r2 r3 r4
     go_wp2_with fail
     go_roundw
     case rel =>
      obtain rfl:=Hwd.out
      have hdr : bs wr wr.drew:=(QW wr).drew
      refine ⟨j+1,by omega,by go_num,?_,honly2.trans ((Q2 hdr).trans (Ra _ k _ (by intro e;have:=hplt (by omega);rw [e] at this;cases this)))⟩
      have h1:=bN (w:=wr.drew) hown2 k hij (.int .i64 Z)
      rw [<- MH,<- Hcj2.out] at h1
      exact h1
     case measure=>simp [intOf] <;> omega
    ·obtain rfl : j=m:=by omega
     go_wp2_with fail
     go_roundw
     case rel=>exact ⟨i+1,by omega,by go_num,by rw [Hci.out];exact hown2,honly2⟩
     case measure=>simp [intOf] <;> omega
  ·obtain rfl : i=m:=by omega
   have hw2:=Hnv2.out
   obtain ⟨C,hC⟩ : ∃C,xP P D E i n i=C:=⟨_,rfl⟩
   have Hcd : Hid (dI P C):=by show dI P C;rw [<- hC];exact rj hP D E i n i
   have Hcl : Hid (C.length=n):=by show _=_;rw [<- hC];exact jS P D E i n i
   have HL : Hid (mulL P i mod D E=(uK P i mod C (i - 1)).take i):=by show _=_;rw [mulL,Hn.out,hC]
   rw [hC] at hown
   clear hC
   go_wp2_with fail
   clear hw2 hnv
   go_loopw [12] (λiv wr=>∃k t : Nat,t+k+1=n/\k<=i - 1/\iv = .int .i64 t/\wr.ownsRow w2.heap.size 3 1 (.slice a3 n n) n ((uK P i mod C k).map (Value.int .i64))/\de a3 w3 wr) (λiv _=>(intOf iv).toNat)
   case atStart=>exact ⟨0,n - 1,by omega,by omega,by congr 1;omega,hown,honly⟩
   case round =>
    obtain ⟨k,t,htk,hk,rfl,hownk,honlyk⟩:=hrel
    have hbk : Rs w2 wr:=hb3.trans (honlyk.below ha3 hb3.size)
    obtain ⟨d0,d1,d2,j1,j2,j3⟩:=HS.out wr hbk
    by_cases hti : i<=t
    ·have hn':=Hn.out
     have hi1 : 1<i:=by omega
     have hmn:=Hlow.out hi1
     have Hrk : Hid (uK P i mod C (k+1)=uQ P i mod t (uK P i mod C k) i):=by show _=_;rw [uK,show 2 * i - 2 - k=t by omega]
     have Hrd : Hid (dI P (uK P i mod C k)):=qX hP i mod Hcd.out k
     have Hrl : Hid ((uK P i mod C k).length=n):=by show _=_;rw [lr];exact Hcl.out
     obtain ⟨C2,hC2⟩ : ∃C2,uK P i mod C k=C2:=⟨_,rfl⟩
     rw [hC2] at hownk Hrk Hrd Hrl
     have Htk:=Z5 htk
     clear hC2 hn'
     go_wp2_with fail
     go_loopw [13] (λiv wr=>∃j : Nat,j<=i/\iv = .int .i64 j/\wr.ownsRow w2.heap.size 3 1 (.slice a3 n n) n ((uQ P i mod t C2 j).map (Value.int .i64))/\de a3 w3 wr) (λiv _=>i - (intOf iv).toNat)
     case atStart=>exact ⟨0,Mj _,rfl,hownk,honlyk⟩
     case round =>
      obtain ⟨j,hj,rfl,hown2,honly2⟩:=hrel
      have hbr2 : Rs w2 wr:=hb3.trans (honly2.below ha3 hb3.size)
      obtain ⟨d0,d1,d2,j1,j2,j3⟩:=HS.out wr hbr2
      by_cases hlt2 : j<i
      ·have Hcj : Hid (uQ P i mod t C2 (j+1)=(uQ P i mod t C2 j).set (t - i+j) ((nth (uQ P i mod t C2 j) (t - i+j)+(P - nth (uQ P i mod t C2 j) t) * nth mod j) % P)):=rfl
       have hcd:=xQ hP i mod t Hrd.out j
       obtain ⟨T,hT⟩ : ∃T,uQ P i mod t C2 j=T:=⟨_,rfl⟩
       rw [hT] at hown2 Hcj hcd
       clear hT
       obtain ⟨it,mt⟩:=QR hown2
       obtain ⟨u,hu⟩ : ∃u,t - i+j=u:=⟨_,rfl⟩
       have hun : u<n:=by omega
       have htn : t<n:=by omega
       have hjmn : j<mn:=by omega
       have ct:=it.cell u hun
       have ctt:=it.cell t htn
       have cM:=j3.cell j hjmn
       have ft:=(mt (by omega)).2 u hun
       have hplt:=it.pl
       have b1:=hcd u
       have b2:=hcd t
       have b3:=Hbm.out j
       have hme:=lY (show 0<=P - nth T t by omega) (show P - nth T t<=256 by omega) b3.1 (show nth mod j<=256 by omega)
       have hP0 : P ≠ 0:=by omega
       rw [hu] at Hcj
       obtain ⟨Z,hZ⟩ : ∃Z,(nth T u+(P - nth T t) * nth mod j) % P=Z:=⟨_,rfl⟩
       have Hcj2 : Hid (uQ P i mod t C2 (j+1)=T.set u Z):=by show _=_;rw [Hcj.out,hZ]
       obtain ⟨v,hv⟩ : ∃v,t - i=v:=⟨_,rfl⟩
       have r0 : IntKind.i64.wrap ((t : Int) - i)=(v : Int):=by rw [Mq _ (by omega)];omega
       have r1 : IntKind.i64.wrap ((v : Int)+j)=(u : Int):=by rw [Mq _ (by omega)];omega
       have r2 : IntKind.i64.wrap (P - nth T t)=P - nth T t:=Mq _ (by omega)
       have r3 : IntKind.i64.wrap ((P - nth T t) * nth mod j)=(P - nth T t) * nth mod j:=Mq _ (by omega)
       have r4 : IntKind.i64.wrap (nth T u+(P - nth T t) * nth mod j)=nth T u+(P - nth T t) * nth mod j:=Mq _ (by omega)
       have r5 : (nth T u+(P - nth T t) * nth mod j).tmod P=Z:=by rw [<- hZ];exact Ng _ _ (by omega)
       have q1 : (0 : Int)<=u:=by omega
       have q2 : (u : Int)<n:=by omega
       have q3 : (t : Int)<n:=by omega
       have q4 : (j : Int)<mn:=by omega
       clear hZ hu hv Hcj htk hmn
       go_wp2_with fail
       go_still_tail 34,(by kernel_rfl)
       change wpList _ _ _ _ _ wr.drew
       generalize hwd : wr.drew=wd
       have fd : wd.frozen? ⟨an a3,aP a3+u,none⟩=false:=by rw [<- hwd];exact ft
       have cd : wd.cell? ⟨an a3,aP a3+u,none⟩=some (.int .i64 (nth T u)):=by rw [<- hwd];exact ct
       have Hwd:=Z5 hwd
       clear hwd r0 r1 r2 r3 r4 r5
       go_wp2_with fail
       go_roundw
       case rel =>
        obtain rfl:=Hwd.out
        have hdr : bs wr wr.drew:=(QW wr).drew
        refine ⟨j+1,by omega,by go_num,?_,honly2.trans ((Q2 hdr).trans (Ra _ u _ (by intro e;have:=hplt (by omega);rw [e] at this;cases this)))⟩
        have h1:=bN (w:=wr.drew) hown2 u hun (.int .i64 Z)
        rw [<- MH,<- Hcj2.out] at h1
        exact h1
       case measure=>simp [intOf] <;> omega
      ·obtain rfl : j=i:=by omega
       go_wp2_with fail
       go_roundw
       case rel=>exact ⟨k+1,t - 1,by have:=Htk.out;omega,by have:=Htk.out;have:=Hn.out;omega,by congr 1;omega,by rw [Hrk.out];exact hown2,honly2⟩
       case measure=>simp [intOf] <;> omega
    ·have hki : k=i - 1:=by have:=Hn.out;omega
     have hfin : Hid (dy P ((uK P i mod C k).take i)=mulR P i mod x y):=by show _=_;rw [HR.out,HL.out,hki]
     have hdig : dI P ((uK P i mod C k).take i):=dI.take hP (qX hP i mod Hcd.out k) i
     have hlen : ((uK P i mod C k).take i).length=i:=by rw [MJ,lr,Hcl.out];omega
     have hbd:=dI.LW hf hdig hlen
     have hit:=(QR hownk).1
     have hin : i<=n:=hn1
     have hit2 : Ints wr a3 i ((uK P i mod C k).take i):=hit.take hin
     have Hbd:=Z5 hbd
     have hin' : (i : Int)<=n:=by omega
     have hbwr : Rs w wr:=(QQ hbW hb12).trans (hbk.mono (by have h1:=hb12.size;have h2:=hbW.size;omega))
     have hS2 : ∀V,Rs wr V->V.cell? ⟨w.heap.size,0,none⟩=some (.int .i64 P)/\V.cell? ⟨w.heap.size,1,none⟩=some (.int .i64 i)/\V.cell? ⟨w.heap.size,2,none⟩=some (.slice am mn cm)/\Rs wr V :=
      λV hV=>⟨aA hV d0,aA hV d1,aA hV d2,hV⟩
     have HS2:=Z5 hS2
     have Hit2 : Hid (∀V,Rs wr V->Ints V a3 i ((uK P i mod C k).take i)):=λV hV=>hit2.ah hV
     clear hki hlen hdig hbd hS2 hit hit2 htk
     go_wp2_with fail
     go_region_held3 (λV=>V.cell? ⟨w.heap.size,0,none⟩=some (.int .i64 P)/\V.cell? ⟨w.heap.size,1,none⟩=some (.int .i64 i)/\V.cell? ⟨w.heap.size,2,none⟩=some (.slice am mn cm)/\Rs wr V)
      ((refine HS2.out _ ?_;first | exact (Mi _ _).drew | (go_split_ands;exact QQ (by assumption) (by assumption))))
      (first
       | (go_at_call 230;((with_reducible refine (nN P i am mn cm a3 i n _ _ (Hit2.out _ (Mi _ _).drew) (by omega) (by omega) (by omega) Hbd.out).mono ?_);rintro e w4 ⟨rfl,hb4⟩)))
     go_wp2_with fail
     go_ret
     exact ⟨aI hfin.out,QQ hbwr (by go_split_ands;assumption)⟩
structure vW (w : World) (P : Int) (m : Nat) (am : OA) (mn : Nat) (mod : Lz) : Prop where
 rf : RF P m
 mods : AD w P m am mn mod
theorem vW.ah {w w' : World} {P : Int} {m : Nat} {am : OA} {mn : Nat} {mod : Lz} (h : vW w P m am mn mod) (hb : Rs w w') : vW w' P m am mn mod:=⟨h.rf,h.mods.ah hb⟩
theorem RF.jO {P : Int} {m : Nat} (h : RF P m) {x : Int} (hx : fC P m x) : jO (aU P m) x=true:=by unfold Proofs.YtcfmiocdlcapoaaGreat.jO;rw [h.order];simp [hx.1,hx.2]
theorem RF.el {P : Int} {m : Nat} (h : RF P m) {x : Int} (hx : Proofs.YtcfmiocdlcapoaaGreat.jO (aU P m) x=true) : fC P m x:=by unfold Proofs.YtcfmiocdlcapoaaGreat.jO at hx;rw [h.order] at hx;simp at hx;exact hx
theorem wZ {P : Int} {m : Nat} (h : RF P m) (mod : Lz) (x y : Int) : fC P m (mulR P m mod x y):=by
 have hP : 0<P:=by have:=h.p2;omega
 have:=oS hP (mulL P m mod (bw x P m) (bw y P m)) (zD hP m mod _ _);rwa [Av P mod _ _ h.m1] at this
def iN (f : Int->Int) : Nat->Int->Int
 | 0,_=>0
 | n+1,y=>if f y=1 then y else iN f n (y+1)
def ia (P : Int) (m : Nat) (mod : Lz) (x : Int) : Int:=iN (mulR P m mod x) ((aU P m).toNat - 1) 1
def mQ (P : Int) (m : Nat) (mod : Lz) : aJ:=⟨eD P m,mulR P m mod,gu P m,ia P m mod⟩
theorem AK (f : Int->Int) : ∀(n : Nat) (y : Int),0<=y->0<=iN f n y/\(iN f n y<y+n\/iN f n y=0)
 | 0,y,h=>by simp [iN]
 | n+1,y,h=>by
  unfold iN;split
  ·omega
  ·have:=AK f n (y+1) (by omega);omega
theorem CB {P : Int} {m : Nat} (h : RF P m) (mod : Lz) (x : Int) : fC P m (ia P m mod x):=by have h1:=AK (mulR P m mod x) ((aU P m).toNat - 1) 1 (by omega);have h2:=h.order;have h3:=one_lt_pow h.res;unfold ia fC;omega
theorem L8 {P : Int} {m : Nat} (h : RF P m) (mod : Lz) : sV (mQ P m mod) (fC P m) :=
 ⟨λx y _ _=>iI h.res x y,λx y _ _=>wZ h mod x y,λx _=>wk h.res x,λx _ _=>CB h mod x⟩
theorem H7 (P : Int) (m : Nat) (am : OA) (mn cm : Nat) (mod : Lz) (x : Int) (w : World) (hf : vW w P m am mn mod) (hx : fC P m x) :
  Calls prog 116 #[.agg #[.int .i64 P,.int .i64 m,.slice am mn cm],.int .i64 x] w λe w'=>e = .returned (.int .i64 (ia P m mod x))/\Rs w w':=by
 have hrf:=hf.rf;have Hq:=Z5 (hrf.jO hx);have hord:=hrf.order;have h256:=hrf.pw;obtain ⟨q,hq⟩ : ∃q : Nat,P ^ m=q:=⟨(P ^ m).toNat,by have:=one_lt_pow hrf.res;omega⟩
 have hq2 : 2<=q:=by have:=one_lt_pow hrf.res;omega
 have hord2 : aU P m=q:=by rw [hord,hq]
 have Hord:=Z5 hord2;have HI : Hid (ia P m mod x=iN (mulR P m mod x) (q - 1) 1):=by show _=_;rw [ia,hord2];simp
 have Hel : Hid (∀k : Nat,k<q->jO (aU P m) k=true):=λk hk=>hrf.jO ⟨by omega,by rw [hq];omega⟩;have hq256 : q<=256:=by omega
 clear hord hq hord2 h256;go_enter func116,ntmps116;go_wp2_with fail;obtain ⟨W,hW⟩ : ∃W : World,W=w.alloc (.cells #[.int .i64 P,.int .i64 m,.slice am mn cm] 24):=⟨_,rfl⟩
 rw [<- hW];have hbW : Rs w W:=by rw [hW];exact aB _ _
 have x0 : bf W w.heap.size [.int .i64 P,.int .i64 m,.slice am mn cm]:=by rw [hW];exact QS _ _ _ rfl
 have HX:=Z5 x0;clear hW x0;have hfW:=hf.ah hbW;go_loopw [5] (λyv wr=>∃y : Nat,1<=y/\y<=q/\yv = .int .i64 y/\Hid (ia P m mod x=iN (mulR P m mod x) (q - y) y)/\Rs W wr) (λyv _=>q - (intOf yv).toNat);case atStart=>exact ⟨1,by omega,by omega,rfl,by show _=_;rw [HI.out];rfl,Mi _ _⟩
 case round =>
  obtain ⟨y,hy1,hyq,rfl,hinv,hbr⟩:=hrel
  have x1:=HX.out.ah hbr
  have d0:=x1.cell 0 rfl
  have d1:=x1.cell 1 rfl
  have d2:=x1.cell 2 rfl
  clear x1
  go_wp2_with fail
  refine (jz P m am mn cm wr).mono ?_
  rintro e w1 ⟨rfl,hb1⟩
  rw [Hord.out]
  have hbr1:=QQ hbr hb1
  have x1:=HX.out.ah hbr1
  have d0:=x1.cell 0 rfl
  have d1:=x1.cell 1 rfl
  have d2:=x1.cell 2 rfl
  clear x1
  by_cases hlt : y<q
  ·have hlt' : (y : Int)<q:=by omega
   have hst : iN (mulR P m mod x) (q - y) y=if mulR P m mod x y=1 then (y : Int) else iN (mulR P m mod x) (q - (y+1)) (y+1):=by rw [show q - y=(q - (y+1))+1 by omega,iN]
   have Hst:=Z5 hst
   clear hst
   go_wp2_with fail
   refine (tJ P m am mn cm mod x y w1 hrf ((hfW.ah hbr1).mods) Hq.out (Hel.out y hlt)).mono ?_
   rintro e w2 ⟨rfl,hb2⟩
   have hbr2:=QQ hbr1 hb2
   by_cases h1 : mulR P m mod x y=1
   ·have Hf : Hid (ia P m mod x=y):=by show _=_;rw [hinv.out,Hst.out,Mg h1]
    rw [h1]
    clear h1
    go_wp2_with fail
    go_ret
    exact ⟨aI Hf.out.symm,QQ hbW hbr2⟩
   ·have Hf : Hid (ia P m mod x=iN (mulR P m mod x) (q - (y+1)) ((y+1 : Nat) : Int)):=by show _=_;rw [hinv.out,Hst.out,Mh h1];rfl
    have h1' : (mulR P m mod x y == 1)=false:=by simpa using h1
    clear h1
    go_wp2_with fail
    go_roundw
    case rel=>exact ⟨y+1,by omega,by omega,by go_num,Hf.out,hbr2⟩
    case measure=>simp [intOf] <;> omega
  ·obtain rfl : y=q:=by omega
   have Hf : Hid (ia P m mod x=0):=by show _=_;rw [hinv.out,NS];rfl
   go_wp2_with fail
   go_ret
   exact ⟨aI Hf.out.symm,QQ hbW hbr1⟩
theorem BI (P : Int) (m : Nat) (am : OA) (mn cm : Nat) (mod : Lz) (s : Int) (a : OA) (n c : Nat) (l : Lz) (w : World) (hf : vW w P m am mn mod) (hs : fC P m s) (hi : Ints w a n l) (hl : ∀x ∈ l,fC P m x) (hn : n<=1000000) :
  Calls prog 232 #[.agg #[.int .i64 P,.int .i64 m,.slice am mn cm],.int .i64 s,.slice a n c] w (cX w (l.map (mulR P m mod s))):=by
 have hrf:=hf.rf;have Hs:=Z5 (hrf.jO hs);have Hlen:=Z5 hi.len;have hpl:=hi.pl;have Hl : Hid (∀k,k<n->jO (aU P m) (nth l k)=true):=λk hk=>hrf.jO (hl _ (aN (by rw [hi.len];exact hk)));clear hl;go_enter func232,ntmps232;go_wp2_with (at_make;refine b9 rfl _ _ 22 3 rfl (.int .i64 0) 8 underlying22 bt rfl n rfl rfl (by omega) (by unfold maxLen;omega) ?_;intro a1 w1 hown hbel hge hlt);obtain ⟨W,hW⟩ : ∃W : World,W=w.alloc (.cells #[.int .i64 P,.int .i64 m,.slice am mn cm] 24):=⟨_,rfl⟩
 rw [<- hW] at hown hbel hge;have hbW : Rs w W:=by rw [hW];exact aB _ _
 have x0 : bf W w.heap.size [.int .i64 P,.int .i64 m,.slice am mn cm]:=by rw [hW];exact QS _ _ _ rfl
 have hfW:=hf.ah hbW;have hiW:=hi.ah hbW;have hS : ∀k,k<n->∀V,Rs W V->V.cell? ⟨w.heap.size,0,none⟩=some (.int .i64 P)/\V.cell? ⟨w.heap.size,1,none⟩=some (.int .i64 m)/\V.cell? ⟨w.heap.size,2,none⟩=some (.slice am mn cm) /\
   V.cell? ⟨an a,aP a+k,none⟩=some (.int .i64 (nth l k))/\Rs W V:=by intro k hk V hV;have x1:=x0.ah hV;exact ⟨x1.cell 0 rfl,x1.cell 1 rfl,x1.cell 2 rfl,(hiW.ah hV).cell k hk,hV⟩
 have HS:=Z5 hS;clear hW x0 hS;go_loopw [8] (λiv wr=>∃k : Nat,k<=n/\iv = .int .i64 k /\
   wr.ownsRow W.heap.size 3 1 (.slice a1 n n) n ((dn ((l.take k).map (mulR P m mod s)) k n).map (Value.int .i64))/\Rs W wr)
  (λi _=>n - (intOf i).toNat)
 case atStart=>exact ⟨0,Mj _,rfl,by simpa [dn] using hown,hbel⟩
 case round =>
  obtain ⟨k,hk,rfl,hown,hbel⟩:=hrel
  obtain ⟨hints,hmine⟩:=QR hown
  have hpl1:=hints.pl
  by_cases hlt : k<n
  ·have HSk : Hid (∀V, Rs W V -> V.cell? ⟨w.heap.size, 0, none⟩ = some (.int .i64 P) /\ V.cell? ⟨w.heap.size, 1, none⟩ = some (.int .i64 m) /\ V.cell? ⟨w.heap.size, 2, none⟩ = some (.slice am mn cm) /\
     V.cell? ⟨an a,aP a+k,none⟩=some (.int .i64 (nth l k))/\Rs W V):=HS.out k hlt
   have hB:=(hmine (by omega)).1
   have HB:=Z5 hB
   have Hbel:=Z5 hbel
   have HK : Hid (∀V,Below wr.drew.heap.size wr.drew V->(∃v,V.cell? ⟨an a1,aP a1+k,none⟩=some v)/\V.frozen? ⟨an a1,aP a1+k,none⟩=false/\Rs wr V):=λV hV=>by have hV' : Rs wr V:=QQ (Mi _ _).drew hV;have ho:=ba hown hV';exact ⟨⟨_,(QR ho).1.cell k hlt⟩,((QR ho).2 (by omega)).2 k hlt,hV'⟩
   have hmd:=(hfW.ah hbel).mods
   have Hmd : Hid (AD wr.drew P m am mn mod):=hmd.ah (Mi _ _).drew
   clear hB hbel hmd
   go_wp2_with fail
   go_region_held3 (λV=>V.cell? ⟨w.heap.size,0,none⟩=some (.int .i64 P)/\V.cell? ⟨w.heap.size,1,none⟩=some (.int .i64 m)/\V.cell? ⟨w.heap.size,2,none⟩=some (.slice am mn cm) /\
     V.cell? ⟨an a,aP a+k,none⟩=some (.int .i64 (nth l k))/\Rs W V)
    ((refine HSk.out _ ?_;first | exact Hbel.out.drew | exact QQ Hbel.out hb9 | exact (QQ Hbel.out hb9).setCell HB.out _))
    (first
     | (go_at_call 180;((with_reducible refine (tJ P m am mn cm mod s (nth l k) _ hrf Hmd.out Hs.out (Hl.out k hlt)).mono ?_);rintro e w4 ⟨rfl,hb4⟩;obtain ⟨⟨v9,k9⟩,f9,hb9⟩:=HK.out w4 hb4)))
   clear k9 f9
   go_wp2_with fail
   go_roundw
   case rel =>
    refine ⟨k+1,by omega,by go_num,?_,(QQ Hbel.out hb9).setCell HB.out _⟩
    have h:=bN (ba hown hb9) k hlt (.int .i64 (mulR P m mod s (nth l k)))
    rw [<- MH,fK _ _ _ _ (by simp [Hlen.out];omega) hlt] at h
    rw [Mu (by rw [Hlen.out];omega),M3]
    rw [aj (by rw [Hlen.out];omega)] at h ⊢
    exact h
   case measure=>simp [intOf] <;> omega
  ·obtain rfl : k=n:=by omega
   have hfin : dn ((l.take k).map (mulR P m mod s)) k k=l.map (mulR P m mod s):=by rw [gD,Ms (by rw [Hlen.out];exact Mf _)]
   rw [hfin] at hown
   have Hl2 : Hid ((l.map (mulR P m mod s)).length=k):=by show _=_;simp [Hlen.out]
   clear hfin
   go_wp2_with fail
   go_ret
   exact ⟨a1,k,by rw [Hl2.out];rfl,by rw [Hl2.out];exact bg hown hbW.size,QQ hbW hbel⟩
section
structure Kt (O O' : aJ) (El : Int->Prop) : Prop where
 add : ∀x y,El x->El y->O.add x y=O'.add x y
 mul : ∀x y,El x->El y->O.mul x y=O'.mul x y
 neg : ∀x,El x->O.neg x=O'.neg x
 inv : ∀x,El x->x ≠ 0->O.inv x=O'.inv x
variable {O O' : aJ} {El : Int->Prop}
theorem sJ (h : Kt O O' El) (hO : sV O El) : ∀(v u : Lz) (s : Int),(∀x ∈ v,El x)->(∀x ∈ u,El x)->El s->bW O v s u=bW O' v s u
 | [],_,_,_,_,_=>by simp [bW]
 | _ :: _,[],_,_,_,_=>by simp [bW]
 | x :: v,y :: u,s,hv,hu,hs=>by have ih:=sJ h hO v u s (λz hz=>hv z (by simp [hz])) (λz hz=>hu z (by simp [hz])) hs;unfold bW at ih ⊢;have hx:=hv x (by simp);have hy:=hu y (by simp);simp only [NX,ih];rw [h.mul s y hs hy,h.add x _ hx (by rw [<- h.mul s y hs hy];exact hO.mul s y hs hy)]
theorem xD (h : Kt O O' El) (hO : sV O El) {pv r : Lz} {c m : Nat} (hc : c<m) (hp : pv.length=m/\∀x ∈ pv,El x) (hr : r.length=m/\∀x ∈ r,El x) : bT O pv c r=bT O' pv c r:=by
 have hel : El (nth r c):=hr.2 _ (aN (by omega));unfold bT;rw [h.neg _ hel];split
 ·rfl
 ·exact sJ h hO _ _ _ hr.2 hp.2 (by rw [<- h.neg _ hel];exact hO.neg _ hel)
theorem qw (h : Kt O O' El) (hO : sV O El) {m : Nat} {L : ZZ} (hL : bx El m L) {t c : Nat} (ht : t<L.length) (hc : c<m) : ∀i,i<=L.length->aR O t c L i=aR O' t c L i
 | 0,_=>rfl
 | i+1,hi=>by
  have ih:=qw h hO hL ht hc i (by omega);have hR:=Q4 hO hL ht hc i (by omega);have hl:=dc O t c L i;unfold aR;rw [<- ih];split
  ·rfl
  ·rw [xD h hO hc (hR.row (by omega)) (hR.row (by omega))]
theorem Af (h : Kt O O' El) (hO : sV O El) {m : Nat} {L : ZZ} (hL : bx El m L) {t c : Nat} (ht : t<L.length) (hc : c<m) (h0 : nth (ai L t) c ≠ 0) : bq O L t c=bq O' L t c:=by
 have hr:=hL.row ht;have hel : El (nth (ai L t) c):=hr.2 _ (aN (by omega));unfold bq;rw [h.inv _ hel h0];split
 ·rfl
 ·congr 1;refine M7 λx hx=>?_;exact h.mul _ _ (by rw [<- h.inv _ hel h0];exact hO.inv _ hel h0) (hr.2 x hx)
theorem Cn (h : Kt O O' El) (hO : sV O El) {m : Nat} {L : ZZ} (hL : bx El m L) {t k c : Nat} (ht : t<L.length) (hk : k<L.length) (hc : c<m) (h0 : nth (ai L k) c ≠ 0) (htk : t<=k) :
  eB O L t k c=eB O' L t k c/\bx El m (eB O L t k c):=by
 have hL1 : bx El m (if k=t then L else bk L t k):=by split;exact hL;exact hL.swap ht hk
 have hl1 : (if k=t then L else bk L t k).length=L.length:=by split;rfl;exact dQ _ _ _
 have hn1 : nth (ai (if k=t then L else bk L t k) t) c ≠ 0:=by
  split
  ·rename_i e;subst e;exact h0
  ·rename_i e;have : ai (bk L t k) t=ai L k:=by unfold bk;rw [e8 _ _ _ _ (by simpa using hk),Mh (by omega),e8 _ _ _ _ ht,Mg rfl]
   rw [this];exact h0
 rw [iB,iB,<- Af h hO hL1 (by omega) hc hn1];have hL2:=hL1.norm hO (t:=t) (c:=c) (by omega) hc hn1;have hl2 : (bq O (if k=t then L else bk L t k) t c).length=L.length:=by rw [cZ,hl1]
 exact ⟨qw h hO hL2 (by omega) hc _ (by omega),Q4 hO hL2 (by omega) hc _ (by omega)⟩
theorem nJ (h : Kt O O' El) (hO : sV O El) {m : Nat} {L : ZZ} (hL : bx El m L) : ∀k,k<=m->aC O L k=aC O' L k/\bx El m (aC O L k).1
 | 0,_=>⟨rfl,hL⟩
 | k+1,hk=>by
  obtain ⟨h1,h2⟩:=nJ h hO hL k (by omega);obtain ⟨Lk,P,hLP⟩ : ∃Lk P,aC O L k=(Lk,P):=⟨_,_,rfl⟩
  rw [hLP] at h1 h2;have hlen : Lk.length=L.length:=by have:=cN O L k;rw [hLP] at this;exact this
  by_cases hlt : P.length<Lk.length
  ·rw [dA hLP.symm hlt,dA h1 hlt];by_cases hf : aW Lk k P.length=Lk.length
   ·rw [Mg hf,Mg hf];exact ⟨rfl,h2⟩
   ·rw [Mh hf,Mh hf];have hb:=lj (L:=Lk) (c:=k) (k:=P.length) (by omega);have hne : nth (ai Lk (aW Lk k P.length)) k ≠ 0:=fP Lk k (Lk.length - P.length) P.length (by have : dR Lk k P.length (Lk.length - P.length)=aW Lk k P.length:=rfl;omega);have hlt2 : aW Lk k P.length<Lk.length:=by omega
    have:=Cn h hO (L:=Lk) h2 (t:=P.length) (k:=aW Lk k P.length) (c:=k) hlt hlt2 (by omega) hne hb.1;exact ⟨by rw [this.1],this.2⟩
  ·have e : ∀(O : aJ),aC O L k=(Lk,P)->aC O L (k+1)=(Lk,P):=λO he=>by rw [aC];simp only [he];rw [Mh hlt]
   rw [e O hLP,e O' h1.symm];exact ⟨rfl,h2⟩
end
section
variable {P : Int} {M : Nat} {low : Nat->Int}
def A3 (M : Nat) (low : Nat->Int) (n : Nat) (c : Lz) : Nat->Int:=λi=>sm n (λk=>nth c k * fB M low k (eV 0) i)
theorem KE {n k : Nat} {c : Lz} {z : Int} (f : Nat->Int) (hk : k<n) (hl : k<c.length) : sm n (λj=>nth (c.set k z) j * f j)=sm n (λj=>nth c j * f j)+(z - nth c k) * f k:=by
 have h1 : sm n (λj=>nth (c.set k z) j * f j)=sm n (λj=>nth c j * f j+(if j=k then (z - nth c k) * f k else 0)):=bV λj _=>by
  rw [dD _ _ _ _ hl];by_cases e : j=k
  ·subst e;rw [Mg rfl,Mg rfl,Px];omega
  ·rw [Mh e,Mh e];omega
 rw [h1,wR];congr 1;rw [kJ hk λi _ hne=>Mh hne,Mg rfl]
theorem ze {n k : Nat} {c : Lz} {d : Int} (hk : k<n) (hl : k<c.length) :
  Cg P (A3 M low n (c.set k ((nth c k+d) % P))) (λi=>A3 M low n c i+d * fB M low k (eV 0) i):=λi=>by
 simp only [A3];rw [KE (λj=>fB M low j (eV 0) i) hk hl];obtain ⟨e,he⟩:=pZ P (nth c k+d);refine ⟨e * fB M low k (eV 0) i,?_⟩;have h1 : (nth c k+d) % P - nth c k=d+P * e:=by omega
 rw [h1,P6,No];omega
theorem FX {a b : Lz} {i n : Nat} {c : Lz} (hl : c.length=n) : ∀j,i+j<=n ->
  Cg P (A3 M low n (AN P a b i c j)) (λs=>A3 M low n c s+sm j (λj=>nth a i * nth b j * fB M low (i+j) (eV 0) s))
 | 0,_=>Q7 (by funext s;simp [AN,sm])
 | j+1,hj=>by have ih:=FX (a:=a) (b:=b) (i:=i) hl j (by omega);rw [AN];refine (ze (by omega) (by rw [wa];omega)).trans ((Cg.add ih (Rf P _)).trans (Q7 ?_));funext s;simp only [sm];omega
theorem Fj {a b : Lz} {n : Nat} (hn : 2 * M - 1<=n) (hM : 1<=M) : ∀i,i<=M ->
  Cg P (A3 M low n (xP P a b M n i)) (λs=>sm i (λi=>sm M (λj=>nth a i * nth b j * fB M low (i+j) (eV 0) s)))
 | 0,_=>Q7 (by
  funext s;simp only [A3,xP,sm];rw [bV (g:=λ_=>0) λk _=>by
   have : nth (List.replicate n 0) k=0:=by simp only [nth,Mk,MN];split <;> rfl
   rw [this,Int.zero_mul],jU])
 | i+1,hi=>by have ih:=Fj (a:=a) (b:=b) hn hM i (by omega);rw [xP];refine (FX (jS P a b M n i) M (by omega)).trans ((Cg.add ih (Rf P _)).trans (Q7 ?_));funext s;simp only [sm]
theorem Ls (hM : 1<=M) : fB M low M (eV 0)=λi=>if i<M then - low i else 0:=by
 obtain ⟨m,rfl⟩ : ∃m,M=m+1:=⟨M - 1,by omega⟩
 rw [fB,CZ m (by omega)];funext i;simp only [ub,eV];by_cases h : i<m+1
 ·rw [Mg h,Mg h,Nu];by_cases h0 : i=0
  ·rw [Mg h0,Mg rfl];omega
  ·rw [Mh h0,Mh (by omega),Mg rfl];omega
 ·rw [Mh h,Mh h]
theorem Kl (hM : 1<=M) (t : Nat) : (λs=>sm M (λj=>low j * fB M low (t+j) (eV 0) s))=λs=>- fB M low (t+M) (eV 0) s:=by
 have h1 : (λs=>sm M (λj=>low j * fB M low (t+j) (eV 0) s))=fB M low t (λs=>sm M (λj=>low j * fB M low j (eV 0) s)):=by rw [wN];funext s;refine bV λj _=>?_;rw [kM,oI]
 have h2 : (λs=>sm M (λj=>low j * fB M low j (eV 0) s))=λs=>(-1) * fB M low M (eV 0) s:=by
  funext s;rw [congrFun (Ls (low:=low) hM) s];have h3 : sm M (λj=>low j * fB M low j (eV 0) s)=sm M (λj=>low j * eV j s):=bV λj hj=>by rw [CZ j hj]
  rw [h3];by_cases hs : s<M
  ·rw [kJ hs λi _ hne=>by simp only [eV];rw [Mh (by omega)];omega];rw [Mg hs];simp [eV]
  ·rw [Mh hs,bV (g:=λ_=>0) λj hj=>by simp only [eV];rw [Mh (by omega)];omega,jU];rfl
 rw [h1,h2,kM];funext s;rw [<- oI];omega
theorem Dq {mod : Lz} {i : Nat} {c : Lz} (hi : M<=i) (hl : i<c.length) : ∀j,j<=M->nth (uQ P M mod i c j) i=nth c i
 | 0,_=>rfl
 | j+1,hj=>by rw [uQ,dD _ _ _ _ (by rw [qU];omega),Mh (by omega)];exact Dq hi hl j (by omega)
theorem H0 {mod : Lz} {i : Nat} {c : Lz} (hi : M<=i) (hl : i<c.length) : ∀j,j<=M ->
  Cg P (A3 M low i (uQ P M mod i c j)) (λs=>A3 M low i c s+(- nth c i) * sm j (λj=>nth mod j * fB M low (i - M+j) (eV 0) s))
 | 0,_=>Q7 (by funext s;simp [uQ,sm])
 | j+1,hj=>by have ih:=H0 (mod:=mod) hi hl j (by omega);rw [uQ,Dq hi hl j (by omega)];refine (ze (by omega) (by rw [qU];omega)).trans ?_;refine (Cg.add ih (Rf P _)).trans ?_;intro s;simp only [sm];generalize sm j (λj=>nth mod j * fB M low (i - M+j) (eV 0) s)=X;generalize fB M low (i - M+j) (eV 0) s=Y;refine ⟨nth mod j * Y,?_⟩;simp only [NM,Px,Int.neg_mul,No];omega
theorem Fp {mod : Lz} (hM : 1<=M) (hlow : ∀j,low j=nth mod j) {c : Lz} (hl : c.length=2 * M - 1) : ∀k,k<=M - 1 ->
  Cg P (A3 M low (2 * M - 1 - k) (uK P M mod c k)) (A3 M low (2 * M - 1) c)
 | 0,_=>Rf P _
 | k+1,hk=>by
  have ih:=Fp hM hlow hl k (by omega);rw [uK];refine Rn ?_ ih;obtain ⟨i,hi⟩ : ∃i,2 * M - 2 - k=i:=⟨_,rfl⟩
  rw [hi,show 2 * M - 1 - (k+1)=i by omega,show 2 * M - 1 - k=i+1 by omega];refine (H0 (low:=low) (by omega) (by rw [lr];omega) M (Mf _)).trans (Q7 ?_);funext s;have h1 : sm M (λj=>low j * fB M low (i - M+j) (eV 0) s) = - fB M low (i - M+M) (eV 0) s:=congrFun (Kl (low:=low) hM (i - M)) s;rw [bV (g:=λj=>low j * fB M low (i - M+j) (eV 0) s) λj _=>by rw [hlow],h1,show i - M+M=i by omega];simp only [A3,sm];rw [Int.neg_mul,P7];omega
theorem Am (c : Lz) (hl : M<=c.length) : A3 M low M c=nth (c.take M):=by
 funext s;simp only [A3];rw [bV (g:=λj=>nth c j * eV j s) λj hj=>by rw [CZ j hj]];by_cases hs : s<M
 ·rw [kJ hs λi _ hne=>by simp only [eV];rw [Mh (by omega)];omega,oQ hs];simp [eV]
 ·rw [jY (by rw [MJ];omega),bV (g:=λ_=>0) λj hj=>by simp only [eV];rw [Mh (by omega)];omega,jU]
end
theorem JA {P : Int} {m : Nat} (hf : RF P m) (mod : Lz) (x y : Int) : mulR P m mod x y=dk P m mod x y:=by
 have hres:=hf.res;have hP:=hres.pos;have hm1:=hf.m1;refine (wZ hf mod x y).ext hres (fW hres x y) (Rn ?_ (gz hP m mod x y).symm);have hd : dV P m (mulR P m mod x y)=nth (mulL P m mod (bw x P m) (bw y P m)):=by unfold dV mulR;have:=mC (P:=P) (mulL P m mod (bw x P m) (bw y P m)) (zD hP m mod _ _);rw [Av P mod _ _ hm1] at this;rw [this]
 rw [hd];have hc:=Fj (P:=P) (M:=m) (low:=nth (mR m mod)) (a:=bw x P m) (b:=bw y P m) (n:=2 * m - 1) (Mf _) hm1 m (Mf _);have hx : Cg P (A3 m (nth (mR m mod)) (2 * m - 1) (xP P (bw x P m) (bw y P m) m (2 * m - 1) m)) (gM m (nth (mR m mod)) (dV P m x) (dV P m y)):=by rw [lR (n8 P m y)];exact hc
 refine Rn ?_ hx;unfold mulL;by_cases h1 : 1<m
 ·have hlow : ∀j,nth (mR m mod) j=nth mod j:=λj=>by rw [mR,Mg h1]
  have hr:=Fp (P:=P) hm1 hlow (jS P (bw x P m) (bw y P m) m (2 * m - 1) m) (m - 1) (Mf _);rw [show 2 * m - 1 - (m - 1)=m by omega,Am _ (by rw [lr,jS];omega)] at hr;exact hr
 ·obtain rfl : m=1:=by omega
  rw [<- Am (M:=1) (low:=nth (mR 1 mod)) _ (by rw [lr,jS];omega)];exact Rf P _
section
open Go.RowKit Go.Shelf
attribute [local go_sem] QK
theorem sI (l : Lz) {k : Nat} (h : k<l.length) : l.take (k+1)=l.take k ++ [nth l k]:=by rw [Mu h,aj h]
theorem wu (F : Fence) (n : Nat) (hF : F.fn 277) (hro : F.round=none) (hn : 1<=n) (l Bs n₀ : Nat) (a : OA) (len cap : Nat) (zs : Lz) (hreach : len * 8<=140737488351232) (J Jx : Lz->World->Prop)
  (hY : ∀pre x W,J pre W->pre.length<len->YieldAt F (n - 1) prog l #[.int .i64 x] W λe W' =>
   (e = .returned (.bool true)/\J (pre ++ [x]) W'/\Below n₀ W W')\/(e = .returned (.bool false)/\Jx (pre ++ [x]) W'))
  (W : World) (hBs : W.cell? ⟨Bs,0,none⟩=some (.slice a len cap)) (hc : Ints W a len zs) (hb : 0<len->an a<n₀) (h0 : J [] W) :
  CallsIn F n prog 277 #[.func (.yield l) #[] #[],.pointer (some ⟨Bs,0,none⟩)] W λe W'=>(∃v,e = .returned v) /\
   ((∃ys,ys=zs/\J ys W')\/(∃pre,(∃k,k<=len/\pre=zs.take k)/\Jx pre W')):=by
 have hpl:=hc.pl;have Hlen:=Z5 hc.len;refine callsIn_of_wp func277 rfl hF ?_ hro;simp only [ntmps277,OV,MT,Pd,Nat.reduceAdd,Nat.reduceSub,Ov,Ow,OW,OB,Nv,Np];gi_wp2;gi_loopw [7] (λi wr=>∃k : Nat,k<=len/\i = .int .i64 k/\J (zs.take k) wr/\Below n₀ W wr)
  (λi _=>len - (intOf i).toNat)
 case atStart=>exact ⟨0,Mj _,rfl,h0,Mi _ _⟩
 case round =>
  obtain ⟨k,hk,rfl,hJs,hnx⟩:=hrel
  by_cases hlt : k<len
  ·have hcx:=(hc.below hnx hb).cell k hlt
   have htk:=sI zs (k:=k) (by rw [Hlen.out];exact hlt)
   have Htk:=Z5 htk
   obtain ⟨fn,tmps,assign,body,hy,hR⟩:=hY _ (nth zs k) wr hJs (by rw [MJ,Hlen.out];omega)
   rw [<- htk] at hR
   clear htk
   gi_wp2
   refine hR.mono ?_
   rintro e W3 (⟨rfl,hJ3,hk3⟩ | ⟨rfl,hJx3⟩)
   ·gi_wp2
    go_roundw
    case rel=>exact ⟨k+1,by omega,by simp,hJ3,hnx.trans hk3⟩
    case measure=>simp [intOf];omega
   ·gi_wp2
    refine bodyPost_ret (results_none rfl _ _ _) rfl ?_
    exact ⟨⟨_,rfl⟩,.inr ⟨_,⟨k+1,by omega,rfl⟩,hJx3⟩⟩
  ·obtain rfl : k=len:=by omega
   rw [Ms (by rw [Hlen.out];exact Mf _)] at hJs
   gi_wp2
   go_end0
   exact ⟨⟨_,rfl⟩,.inl ⟨_,rfl,hJs⟩⟩
theorem yO (F : Fence) (n : Nat) (hF : F.fn 271) (hro : F.round=none) (a : OA) (len cap : Nat) (w : World) :
  CallsIn F n prog 271 #[.slice a len cap] w λe w'=>e = .returned (.func (.func 277) #[] #[.pointer (some ⟨w.heap.size,0,none⟩)])/\w'=w.alloc (.cells #[.slice a len cap] 22):=by refine callsIn_of_wp func271 rfl hF ?_ hro;simp only [ntmps271,OV,MT,Pd,Nat.reduceAdd,Nat.reduceSub,Ov,Ow,OW,OB,Nv,Np];gi_wp2;go_ret;exact ⟨rfl,rfl⟩
theorem tW (F : Fence) (n : Nat) (hF : F.fn 277) (hro : F.round=none) (hn : 1<=n) (Bs n₀ : Nat) (a : OA) (len cap : Nat) (zs : Lz) (hreach : len * 8<=140737488351232) (w : World) (hBs : Bs<w.heap.size) (hn₀ : n₀<=w.heap.size)
  (hc : w.cell? ⟨Bs,0,none⟩=some (.slice a len cap)) (hI : Ints w a len zs) (hb : 0<len->an a<n₀) :
  SeqStopsK F n prog 277 #[.pointer (some ⟨Bs,0,none⟩)] (λx : Int=>#[Value.int .i64 x]) (Below n₀) (λys=>ys=zs) (λpre=>pre <+: zs) len w:=λl J Jx W hW _ _ hY h0=>by
 have hc':=(hW.cell (p:=⟨Bs,0,none⟩) hBs).trans hc;refine (wu F n hF hro hn l Bs n₀ a len cap zs hreach J Jx hY W hc' (hI.below (hW.mono hn₀) hb) hb h0).mono ?_;rintro e W' ⟨he,⟨ys,rfl,hj⟩ | ⟨pre,⟨k,hk,rfl⟩,hj⟩⟩
 ·exact ⟨he,.inl ⟨_,rfl,hj⟩⟩
 ·exact ⟨he,.inr ⟨_,List.take_prefix _ _,hj⟩⟩
theorem xq (F : Fence) (n : Nat) (hA : F.fn 280) (hV : F.fn 277) (hro : F.round=none) (hn : 3<=n) (Bs : Nat) (a : OA) (len cap : Nat) (zs : Lz) (hlen : len<=1000000) (w : World) (hBs : Bs<w.heap.size)
  (hc : w.cell? ⟨Bs,0,none⟩=some (.slice a len cap)) (hI : Ints w a len zs) :
  CallsIn F n prog 280 #[.slice none 0 0,.func (.func 277) #[] #[.pointer (some ⟨Bs,0,none⟩)]] w λe W' =>
   ∃v,e = .returned v/\W'.ownsRow w.heap.size 3 1 v len (zs.map (Value.int .i64))/\Rs w W':=by
 have h1 : 1<=n:=by omega
 have Hlen:=Z5 hI.len;obtain ⟨i0,hi,hz0,hz1,hz2⟩:=info_parts bt;refine callsIn_of_wp_marks func280 rfl hA ?_ hro;simp only [ntmps280,OV,MT,Pd,Nat.reduceAdd,Nat.reduceSub,Ov,Ow,OW,OB,Nv,Np];gi_wp2;have bO:=Boxed.new w 22 (.slice none 0 0);have hB0 : Rs w (w.alloc (.cells #[.slice none 0 0] 22)):=(Mi _ w).alloc (Mf _) _;refine wpIn_rangeFunc_ownG hro h1 (gf:=277) (lb:=#[.pointer (some ⟨Bs,0,none⟩)]) rfl hV (enters_of func277 (by kernel_rfl) rfl)
  (tW F (n - 1) hV hro (by omega) Bs w.heap.size a len cap zs (by omega) w hBs (Mf _) hc hI (λh=>hI.lt h)) belowK_t (belowK_b (by simp)) hB0 (λ_=>rfl)
  (λpre W=>(∃v,Boxed W w.heap.size 22 v/\W.ownsRow w.heap.size 3 1 v pre.length (pre.map (Value.int .i64))/\True)/\Rs w W)
  (λ_ _ _=>False)
  (OwnFrom.and (Own.from (holdsRow_own w.heap.size w.heap.size 22 3 1 (λpre : Lz=>pre.length) (λpre=>pre.map (Value.int .i64)) (λ_ _=>True)) _) (ownFrom_below (Mf _) (by simp)))
  (λ_ _ _ _ _ hs _ _=>hs)
  ⟨⟨_,bO,Qk _ _ _ _,trivial⟩,hB0⟩
  (λx=>{ tmps:=#[.slice none 0 0,.func (.func 277) #[] #[.pointer (some ⟨Bs,0,none⟩)],.pointer (some ⟨w.heap.size,0,none⟩),undef,.slice none 0 0,.int .i64 x,.func (.func 277) #[] #[.pointer (some ⟨Bs,0,none⟩)],.int .i64 x,undef,undef,undef,undef,undef],defers:=[] }) ?assign ?body ?done ?stop
 case assign =>
  intro l x W K hK
  gi_wp2
  exact hK
 case body =>
  rintro l pre x W ⟨⟨v,hv,hrow,_⟩,hB⟩ hlt
  have hcv:=hv.cell
  gi_wp2_with (gi_at_builtin;refine wpListIn_append_own _ rfl _ _ 22 rfl w.heap.size 3 i0 (.int .i64 0) 1 8 underlying22 hi hz0 hz1 hz2 rfl (by decide) _ _ _ rfl (hrow.alloc _) ⟨W.heap.size,0,none⟩ 1 1 [.int .i64 x] rfl rfl (cell_one_new _ _ _) (by simp [Value.oneCell']) (by unfold maxLen;omega) (by omega) (by have:=hB.size;simp;omega) ?_;intro v' w1 hown' hgrow _;obtain ⟨g',cap',rfl⟩:=ownsRow_succ hown';obtain ⟨hv1,hv2,hr2,hk2,hb2⟩:=hv.appended (by decide) hrow hB.size (Mf _) hown' hgrow;have hc1:=hv1.cell;have hf1:=hv1.frozen)
  exact ⟨hk2.from _,hb2,⟨_,hv2,by simpa using hr2,trivial⟩,hB.trans hb2⟩
 case done =>
  rintro D ys W hD rfl ⟨⟨v,hv,hrow,_⟩,hB⟩ hK
  have hcv:=hv.cell
  gi_wp2
  refine ⟨by simp,.inl ⟨_,_,rfl,run_takeDeferred hK,?_⟩⟩
  exact ⟨_,results_tmp rfl _ _ _,v,rfl,by have:=ownsRow_putObj hrow (.deferred none) hK rfl;rw [Hlen.out] at this;exact this,hB.trans (belowK_b (w:=w) (Mf _) W D _ _ (by simp at hD;omega) hK rfl rfl)⟩
 case stop =>
  rintro D c pre W _ _ h _
  exact h.elim
theorem BA (F : Fence) (n : Nat) (hC : F.fn 276) (hA : F.fn 280) (hV : F.fn 277) (hro : F.round=none) (hn : 4<=n) (Bs : Nat) (a : OA) (len cap : Nat) (zs : Lz) (hlen : len<=1000000) (w : World) (hBs : Bs<w.heap.size)
  (hc : w.cell? ⟨Bs,0,none⟩=some (.slice a len cap)) (hI : Ints w a len zs) :
  CallsIn F n prog 276 #[.func (.func 277) #[] #[.pointer (some ⟨Bs,0,none⟩)]] w λe W' =>
   ∃v,e = .returned v/\W'.ownsRow w.heap.size 3 1 v len (zs.map (Value.int .i64))/\Rs w W':=by refine callsIn_of_wp func276 rfl hC ?_ hro;simp only [ntmps276,OV,MT,Pd,Nat.reduceAdd,Nat.reduceSub,Ov,Ow,OW,OB,Nv,Np];gi_wp2;refine ⟨λ_=>by omega,?_⟩;refine (xq F (n - 1) hA hV hro (by omega) Bs a len cap zs hlen _ hBs hc hI).mono ?_;rintro e W' ⟨v,rfl,hown,hb⟩;gi_wp2;go_ret;exact ⟨v,rfl,hown,hb⟩
theorem AR (a : OA) (len cap : Nat) (w : World) :
  Calls prog 271 #[.slice a len cap] w λe w'=>e = .returned (.func (.func 277) #[] #[.pointer (some ⟨w.heap.size,0,none⟩)])/\w'=w.alloc (.cells #[.slice a len cap] 22) :=
 callsIn_wide.1 (yO Fence.wide 8 trivial rfl a len cap w)
theorem AE (Bs : Nat) (a : OA) (len cap : Nat) (zs : Lz) (hlen : len<=1000000) (w : World) (hBs : Bs<w.heap.size) (hc : w.cell? ⟨Bs,0,none⟩=some (.slice a len cap)) (hI : Ints w a len zs) :
  Calls prog 276 #[.func (.func 277) #[] #[.pointer (some ⟨Bs,0,none⟩)]] w λe W' =>
   ∃v,e = .returned v/\W'.ownsRow w.heap.size 3 1 v len (zs.map (Value.int .i64))/\Rs w W' :=
 callsIn_wide.1 (BA Fence.wide 8 trivial trivial trivial rfl (by omega) Bs a len cap zs hlen w hBs hc hI)
end
end Go.Proofs.YtcfmiocdlcapoaaGreat
