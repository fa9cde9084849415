import Derived.Test.YtcfmiocdlcapoaaGreatK7
import Derived.Test.YtcfmiocdlcapoaaGreatK9
import Derived.StillTail
import Derived.OrdersHeld
import Derived.Deep.RegionHeld
import Derived.Test.YtcfmiocdlcapoaaGreatK1
namespace Go.Proofs.YtcfmiocdlcapoaaGreat
set_option linter.unusedVariables false
set_option linter.unusedSimpArgs false
set_option linter.unusedSectionVars false
set_option maxRecDepth 100000
set_option maxHeartbeats 4000000
open Go.RowKit
theorem dB (P M : Int) (am : OA) (mn cm : Nat) (w : World) :
  Calls Tryz.prog 45 #[.agg #[.int .i64 P,.int .i64 M,.slice am mn cm]] w λe w'=>e = .returned (.int .i64 (aK P M))/\Below w.heap.size w w':=by
 have Hal:=Z5 (an w (.cells #[.int .i64 P,.int .i64 M,.slice am mn cm] 24))
 by_cases h1 : P<2
 ·have Ho:=Z5 (ga (p:=P) (m:=M) (.inl h1))
  go_enter Tryz.func45,Tryz.ntmps45
  go_wp2
  go_ret
  exact ⟨aF Ho.out.symm,Hal.out⟩
 have h1' : decide (P<2)=false:=by simpa using h1
 by_cases h2 : M<1
 ·have Ho:=Z5 (ga (p:=P) (m:=M) (.inr (.inr (.inl h2))))
  go_enter Tryz.func45,Tryz.ntmps45
  go_wp2
  go_ret
  exact ⟨aF Ho.out.symm,Hal.out⟩
 have h2' : decide (M<1)=false:=by simpa using h2
 by_cases h3 : 8<M
 ·have Ho:=Z5 (ga (p:=P) (m:=M) (.inr (.inr (.inr h3))))
  go_enter Tryz.func45,Tryz.ntmps45
  go_wp2
  go_ret
  exact ⟨aF Ho.out.symm,Hal.out⟩
 have h3' : decide (8<M)=false:=by simpa using h3
 obtain ⟨n,rfl⟩ : ∃n : Nat,M=n:=⟨M.toNat,by omega⟩
 go_enter Tryz.func45,Tryz.ntmps45
 go_wp2_with fail
 obtain ⟨W,hW⟩ : ∃W : World,W=w.alloc (.cells #[.int .i64 P,.int .i64 n,.slice am mn cm] 24):=⟨_,rfl⟩
 rw [<- hW]
 have hbW : Below w.heap.size w W:=by rw [hW];exact an _ _
 have c0 : W.cell? ⟨w.heap.size,0,none⟩=some (.int .i64 P):=by rw [hW];exact aH _ _ _ rfl 0
 have c1 : W.cell? ⟨w.heap.size,1,none⟩=some (.int .i64 n):=by rw [hW];exact aH _ _ _ rfl 1
 clear hW
 go_loop [3,4] (λqv iv=>∃k : Nat,k<=n/\iv = .int .i64 k/\qv = .int .i64 (P ^ k)/\P ^ k<=256/\1<=P ^ k) (λ_ i=>n - (intOf i).toNat)
 case atStart=>exact ⟨0,Nat.zero_le _,rfl,by simp,by simp,by simp⟩
 case round =>
  obtain ⟨k,hk,rfl,rfl,hb,hb1⟩:=hrel
  have hP0 : P ≠ 0:=by omega
  by_cases hlt : k<n
  ·have e1 : P ^ (k+1)=P ^ k * P:=Int.pow_succ _ _
   have hd0 : (0 : Int)<=256 / P:=Int.ediv_nonneg (by omega) (by omega)
   have hd1 : 256 / P<=256:=Int.ediv_le_self _ (by omega)
   by_cases h5 : 256 / P<P ^ k
   ·have hbig : aK P n=0:=l9 (by
     intro h
     have h6:=cW (show 1<=P by omega) (show k+1<=n by omega)
     rw [Int.toNat_natCast] at h
     have h7 : 256<P ^ k * P:=Int.lt_mul_of_ediv_lt (by omega) h5
     omega)
    have Hb:=Z5 hbig
    clear e1 hbig
    generalize P ^ k=q at *
    go_wp2
    go_ret
    exact ⟨aF Hb.out.symm,hbW⟩
   ·have h7 : P ^ k * P<=256:=by
     have h8:=Int.mul_le_mul_of_nonneg_right (show P ^ k<=256 / P by omega) (show 0<=P by omega)
     have h9:=Int.ediv_mul_le 256 hP0
     omega
    have e3 : 1 * 1<=P ^ k * P:=Int.mul_le_mul hb1 (by omega) (by omega) (by omega)
    have E1:=Z5 e1
    clear e1
    generalize P ^ k=q at *
    go_wp2
    go_round
    case rel=>exact ⟨k+1,by omega,by go_num,by rw [E1.out],by rw [E1.out];exact h7,by rw [E1.out];omega⟩
    case measure=>simp [intOf] <;> omega
  ·obtain rfl : k=n:=by omega
   by_cases h256 : 256<P
   ·have hk1 : 1<=k:=by omega
    have h6:=cW (show 1<=P by omega) hk1
    have h8 : P ^ 1=P:=by rw [Int.pow_succ,Int.pow_zero,Int.one_mul]
    omega
   ·have Hb:=Z5 (lG (p:=P) (m:=k) (by omega) (by simpa using hb))
    go_wp2
    go_ret
    exact ⟨aF (by rw [Hb.out];simp),hbW⟩
theorem j6 (n : Nat) (w : World) (h2 : 2<=n) (h256 : n<=256) :
  Calls Tryz.prog 117 #[.int .i64 n] w λe w'=>e = .returned (.bool (fI n))/\w=w':=by
 go_enter Tryz.func117,Tryz.ntmps117
 go_wp2
 go_loop [3] (λdv=>∃d : Nat,2<=d/\d<=n/\dv = .int .i64 d/\Hid (∀e,2<=e->e<d->n % e ≠ 0)) (λd=>n+1 - (intOf d).toNat)
 case atStart=>exact ⟨2,Nat.le_refl _,h2,rfl,λe he he2=>by omega⟩
 case round =>
  obtain ⟨d,hd2,hdn,rfl,hno⟩:=hrel
  have hd0 : (d : Int) ≠ 0:=by omega
  by_cases hs : d<n
  ·by_cases hm : n % d=0
   ·have hm' : ((n : Int) % d == 0)=true:=by simp;exact_mod_cast hm
    have Hf:=Z5 (qP hd2 hs hm)
    clear hm
    go_wp2
    go_ret
    exact ⟨aY Hf.out.symm,rfl⟩
   ·have hm' : ((n : Int) % d == 0)=false:=by simp;exact_mod_cast hm
    have Hm:=Z5 hm
    clear hm
    go_wp2
    go_round
    case rel =>
     refine ⟨d+1,by omega,by omega,by go_num,λe he he2=>?_⟩
     rcases Nat.lt_or_ge e d with h | h
     ·exact hno.out e he h
     ·rw [show e=d from by omega];exact Hm.out
    case measure=>simp [intOf] <;> omega
  ·have Hf:=Z5 (oE (n:=n) λe he he2=>hno.out e he (by omega))
   go_wp2
   go_ret
   exact ⟨aY (by rw [Hf.out]),rfl⟩
theorem iN (x p : Int) (m : Nat) (w : World) (hx : 0<=x) (hx2 : x<=9223372036854775807) (hp : 1<=p) (hm : m<=256) :
  Calls Tryz.prog 182 #[.int .i64 x,.int .i64 p,.int .i64 m] w (cC w (digs x p m)):=by
 go_enter Tryz.func182,Tryz.ntmps182
 go_wp2_with (at_make;refine bV rfl _ _ 22 3 rfl (.int .i64 0) 8 Tryz.underlying22 aX rfl m rfl rfl (by omega) (by unfold maxLen;omega) ?_;intro a w1 hown hbel hge hlt)
 go_loopw [0,8] (λxv iv wr=>∃k : Nat,k<=m/\iv = .int .i64 k/\xv = .int .i64 (jw x p k) /\
   wr.ownsRow w.heap.size 3 1 (.slice a m m) m ((bT (digs x p k) k m).map (Value.int .i64))/\Below w.heap.size w wr)
  (λ_ i _=>m - (intOf i).toNat)
 case atStart=>exact ⟨0,Nat.zero_le _,rfl,rfl,by simpa [bT,digs] using hown,hbel⟩
 case round =>
  obtain ⟨k,hk,rfl,rfl,hown,hbel⟩:=hrel
  obtain ⟨hints,hmine⟩:=Ints.own hown
  have hq:=si x p hx hp k
  have hpl:=hints.pl
  by_cases hlt : k<m
  ·have hc:=hints.cell k hlt
   have hf:=(hmine (by omega)).2 k hlt
   have hB:=(hmine (by omega)).1
   go_wp2
   go_roundw
   case rel =>
    refine ⟨k+1,by omega,by go_num,rfl,?_,hbel.setCell hB _⟩
    have h:=bC hown k hlt (.int .i64 (jw x p k % p))
    rw [<- List.map_set,dC _ _ _ _ (bl p k x) hlt,<- nH] at h
    exact h
   case measure=>simp [intOf] <;> omega
  ·obtain rfl : k=m:=by omega
   have Hl:=Z5 (bl p k x)
   rw [eh] at hown
   go_wp2
   go_ret
   exact ⟨a,k,by rw [Hl.out];rfl,by rw [Hl.out];exact hown,hbel⟩
theorem oR (P M : Int) (am : OA) (mn cm : Nat) (x : Int) (w : World) :
  Calls Tryz.prog 145 #[.agg #[.int .i64 P,.int .i64 M,.slice am mn cm],.int .i64 x] w λe w'=>e = .returned (.bool (fG (aK P M) x))/\Below w.heap.size w w':=by
 have Hal:=Z5 (an w (.cells #[.int .i64 P,.int .i64 M,.slice am mn cm] 24))
 by_cases h0 : 0<=x
 ·have h0' : decide (0<=x)=true:=by simpa using h0
  have Hq : Hid (fG (aK P M) x=decide (x<aK P M)):=by show _=_;rw [fG,h0'];simp
  clear h0
  go_enter Tryz.func145,Tryz.ntmps145
  go_wp2_with (go_at_call 45;refine (dB P M am mn cm _).mono ?_;rintro e w2 ⟨rfl,hb2⟩)
  go_ret
  exact ⟨aY (by rw [Hq.out]),Below.next Hal.out hb2⟩
 ·have h0' : decide (0<=x)=false:=by simpa using h0
  have Hq : Hid (fG (aK P M) x=false):=by show _=_;rw [fG,h0'];simp
  clear h0
  go_enter Tryz.func145,Tryz.ntmps145
  go_wp2_with fail
  go_ret
  exact ⟨aY (by rw [Hq.out]),Hal.out⟩
theorem xA (P M : Int) (am : OA) (mn cm : Nat) (x : Int) (w : World) (hx : fG (aK P M) x=true) :
  Calls Tryz.prog 260 #[.agg #[.int .i64 P,.int .i64 M,.slice am mn cm],.int .i64 x] w λe w'=>e = .returned (.int .i64 x)/\Below w.heap.size w w':=by
 have Hal:=Z5 (an w (.cells #[.int .i64 P,.int .i64 M,.slice am mn cm] 24))
 have Hx:=Z5 hx
 clear hx
 go_enter Tryz.func260,Tryz.ntmps260
 go_wp2_with fail
 refine (oR P M am mn cm x _).mono ?_
 rintro e w2 ⟨rfl,hb2⟩
 rw [Hx.out]
 go_wp2_with fail
 go_ret
 exact ⟨rfl,Below.next Hal.out hb2⟩
theorem dJ (P : Int) (m : Nat) (am : OA) (mn cm : Nat) (x : Int) (w : World) (hf : RF P m) (hx : fG (aK P m) x=true) :
  Calls Tryz.prog 229 #[.agg #[.int .i64 P,.int .i64 m,.slice am mn cm],.int .i64 x] w (cC w (digs x P m)):=by
 have hx0 : 0<=x/\x<256:=by
  have h1:=hf.order
  have h2:=hf.pw
  unfold fG at hx
  simp only [Bool.and_eq_true,decide_eq_true_eq] at hx
  omega
 have hp1 : 1<=P:=by have:=hf.p2;omega
 have hm:=hf.m8
 have Hx:=Z5 hx
 clear hx
 go_enter Tryz.func229,Tryz.ntmps229
 go_wp2_with fail
 obtain ⟨W,hW⟩ : ∃W : World,W=w.alloc (.cells #[.int .i64 P,.int .i64 m,.slice am mn cm] 24):=⟨_,rfl⟩
 rw [<- hW]
 have hbW : Below w.heap.size w W:=by rw [hW];exact an _ _
 have x0 : aV W w.heap.size [.int .i64 P,.int .i64 m,.slice am mn cm]:=by rw [hW];exact aV.new _ _ _ rfl
 have HX:=Z5 x0
 clear hW x0
 have hS : ∀V,Below W.heap.size W V->V.cell? ⟨w.heap.size,0,none⟩=some (.int .i64 P)/\V.cell? ⟨w.heap.size,1,none⟩=some (.int .i64 m)/\V.cell? ⟨w.heap.size,2,none⟩=some (.slice am mn cm)/\Below W.heap.size W V:=by
  intro V hV
  have x1:=HX.out.ah hV
  exact ⟨x1.cell 0 rfl,x1.cell 1 rfl,x1.cell 2 rfl,hV⟩
 have HS:=Z5 hS
 have HbW:=Z5 hbW
 clear hS hbW
 go_region_held3 (λV=>V.cell? ⟨w.heap.size,0,none⟩=some (.int .i64 P)/\V.cell? ⟨w.heap.size,1,none⟩=some (.int .i64 m)/\V.cell? ⟨w.heap.size,2,none⟩=some (.slice am mn cm)/\Below W.heap.size W V)
  ((refine HS.out _ ?_;first | exact (Below.refl _ _).drew | (go_split_ands;exact Below.next (by assumption) (by assumption))))
  (first
   | (go_at_call 260;((with_reducible refine (xA P m am mn cm x _ Hx.out).mono ?_);rintro e w4 ⟨rfl,hb4⟩))
   | (go_at_call 182;((with_reducible refine (iN x P m _ hx0.1 (by omega) hp1 (by omega)).mono ?_);rintro e w5 ⟨a5,c5,rfl,hown5,hb5⟩)))
 all_goals (
  have hsz : w.heap.size<=w4.heap.size:=by
   have h1:=HbW.out.size
   have h2:=hb4.size
   have h3 : W.drew.heap.size=W.heap.size:=rfl
   omega
  have Hown:=Z5 (aP hown5 hsz)
  clear hown5
  go_wp2_with fail
  go_ret
  exact ⟨a5,c5,rfl,Hown.out,Below.next HbW.out (by go_split_ands;assumption)⟩)
theorem gM (P : Int) (M : Int) (am : OA) (mn cm : Nat) (a : OA) (n c : Nat) (l : Lz) (w : World) (h : Ints w a n l) (hn : n<=1000) (hP1 : 0<=P) (hP : P<=256)
  (hb : ∀k,0<=valu P (l.drop k) * P/\valu P (l.drop k) * P<=1000000000/\0<=nth l k/\nth l k<=1000000000) :
  Calls Tryz.prog 230 #[.agg #[.int .i64 P,.int .i64 M,.slice am mn cm],.slice a n c] w λe w'=>e = .returned (.int .i64 (valu P l))/\Below w.heap.size w w':=by
 have HB:=Z5 hb
 have Hlen:=Z5 h.len
 clear hb
 go_enter Tryz.func230,Tryz.ntmps230
 go_wp2_with fail
 obtain ⟨W,hW⟩ : ∃W : World,W=w.alloc (.cells #[.int .i64 P,.int .i64 M,.slice am mn cm] 24):=⟨_,rfl⟩
 rw [<- hW]
 have hbW : Below w.heap.size w W:=by rw [hW];exact an _ _
 have x0 : W.cell? ⟨w.heap.size,0,none⟩=some (.int .i64 P):=by rw [hW];exact aH _ _ _ rfl 0
 clear hW
 have hW:=h.ah hbW
 have hpl:=hW.pl
 go_loopw [5,6] (λxv iv wr=>∃k : Nat,k<=n/\iv = .int .i64 ((k : Int) - 1)/\xv = .int .i64 (valu P (l.drop k))/\bd W wr) (λ_ i _=>(intOf i+1).toNat)
 case atStart=>exact ⟨n,Nat.le_refl _,rfl,by rw [List.drop_of_length_le (by rw [Hlen.out];exact Nat.le_refl _)];rfl,bd.refl _⟩
 case round =>
  obtain ⟨k,hk,rfl,rfl,hd⟩:=hrel
  by_cases hlt : 0<k
  ·obtain ⟨j,rfl⟩ : ∃j,k=j+1:=⟨k - 1,by omega⟩
   have hc:=(hW.drawn hd).cell j (by omega)
   have c0:=hd.cell x0
   have hjl : j<l.length:=by rw [Hlen.out];omega
   obtain ⟨b1,b2,b3,b4⟩ : 0<=valu P (l.drop (j+1)) * P/\valu P (l.drop (j+1)) * P<=1000000000/\0<=nth l j/\nth l j<=1000000000:=⟨(HB.out (j+1)).1,(HB.out (j+1)).2.1,(HB.out j).2.2⟩
   have e1 : ((j+1 : Nat) : Int) - 1=(j : Int):=by omega
   rw [e1]
   clear e1 hlt
   have hfin : valu P (l.drop (j+1)) * P+nth l j=valu P (l.drop j):=by
    rw [sO l j hjl];simp only [valu];rw [Int.mul_comm P,Int.add_comm]
   generalize valu P (l.drop (j+1))=X at *
   generalize nth l j=Y at *
   have Hfin:=Z5 hfin
   clear hfin
   have e1 : (0 : Int)<=j:=by omega
   have e2 : (j : Int)<n:=by omega
   have r1 : IntKind.i64.wrap (X * P)=X * P:=IntWalk.i64_in _ (by omega)
   have r2 : IntKind.i64.wrap (X * P+Y)=X * P+Y:=IntWalk.i64_in _ (by omega)
   go_wp2_with fail
   go_quiet (fail)
   clear r1 r2
   go_wp2
   go_roundw
   case rel=>exact ⟨j,by omega,by go_num,by rw [<- Hfin.out],hd.drewN _⟩
   case measure=>simp [intOf] <;> omega
  ·obtain rfl : k=0:=by omega
   go_wp2_with fail
   go_ret
   exact ⟨by simp,Below.next hbW hd.below⟩
def lP (P : Int) (a b : Lz) : Lz:=List.zipWith (λu v=>(u+v) % P) a b
theorem lO {P : Int} : ∀(m : Nat) (x y : Int),valu P (lP P (digs x P m) (digs y P m))=fsum P m x y
 | 0,_,_=>rfl
 | m+1,x,y=>by
  simp only [digs,lP,List.zipWith_cons_cons,valu,fsum]
  have:=lO (P:=P) m (x / P) (y / P)
  unfold lP at this
  rw [this,Int.add_emod x y]
def kL (P : Int) (a : Lz) : Lz:=a.map λu=>(P - u) % P
theorem lF {P : Int} : ∀(m : Nat) (x : Int),valu P (kL P (digs x P m))=fneg P m x
 | 0,_=>rfl
 | m+1,x=>by
  simp only [digs,kL,List.map_cons,valu,fneg]
  have:=lF (P:=P) m (x / P)
  unfold kL at this
  rw [this]
theorem cR.zip {P : Int} (hP : 0<P) (f : Int->Int->Int) (a b : Lz) : cR P (List.zipWith (λu v=>(f u v) % P) a b):=by
 refine cR.jZ hP λx hx=>?_
 rw [List.mem_iff_getElem] at hx
 obtain ⟨i,hi,rfl⟩:=hx
 rw [List.getElem_zipWith]
 exact ⟨Int.emod_nonneg _ (by omega),Int.emod_lt_of_pos _ hP⟩
theorem cR.I3 {P : Int} (hP : 0<P) (a : Lz) : cR P (kL P a):=by
 refine cR.jZ hP λx hx=>?_
 unfold kL at hx
 obtain ⟨y,_,rfl⟩:=List.mem_map.1 hx
 exact ⟨Int.emod_nonneg _ (by omega),Int.emod_lt_of_pos _ hP⟩
theorem cR.I5 {P : Int} {m : Nat} (hf : RF P m) {l : Lz} (h : cR P l) (hl : l.length=m) : ∀k,0<=valu P (l.drop k) * P/\valu P (l.drop k) * P<=1000000000/\0<=nth l k/\nth l k<=1000000000:=by
 intro k
 have hP : 0<P:=by have:=hf.p2;omega
 have hP2:=hf.p256
 have h1:=h.xG hP hl hf.pw k
 have h2:=h k
 have h3:=jh h1.1 (show valu P (l.drop k)<=256 by omega) (show 0<=P by omega) hP2
 exact ⟨h3.1,by omega,h2.1,by omega⟩
theorem j9 {P : Int} {m : Nat} (hf : RF P m) (x : Int) (i : Nat) : 0<=nth (digs x P m) i/\nth (digs x P m) i<P:=cR.digs (by have:=hf.p2;omega) m x i
theorem tF (P : Int) (m : Nat) (am : OA) (mn cm : Nat) (x y : Int) (w : World) (hf : RF P m) (hx : fG (aK P m) x=true) (hy : fG (aK P m) y=true) :
  Calls Tryz.prog 179 #[.agg #[.int .i64 P,.int .i64 m,.slice am mn cm],.int .i64 x,.int .i64 y] w λe w'=>e = .returned (.int .i64 (fsum P m x y))/\Below w.heap.size w w':=by
 have hp2:=hf.p2
 have hp256:=hf.p256
 have hm8:=hf.m8
 have Hx:=Z5 hx
 have Hy:=Z5 hy
 have Hdx:=Z5 (bl P m x)
 have Hdy:=Z5 (bl P m y)
 have Hbx:=Z5 (j9 hf x)
 have Hby:=Z5 (j9 hf y)
 have hNl : (lP P (digs x P m) (digs y P m)).length=m:=by simp [lP,bl]
 have hNn : ∀i,i<m->nth (lP P (digs x P m) (digs y P m)) i=(nth (digs x P m) i+nth (digs y P m) i) % P:=λi hi=>by
  rw [ai (by rw [hNl];exact hi),ai (by rw [bl];exact hi),ai (by rw [bl];exact hi)]
  simp [lP]
 have hNg : cR P (lP P (digs x P m) (digs y P m)):=cR.zip (by omega) (λu v=>u+v) (digs x P m) (digs y P m)
 have hNd:=cR.I5 hf hNg hNl
 have HNl:=Z5 hNl
 have HNn:=Z5 hNn
 have HNd:=Z5 hNd
 have HNv:=Z5 (lO (P:=P) m x y)
 clear hx hy hNl hNn hNd hNg
 go_enter Tryz.func179,Tryz.ntmps179
 go_wp2_with fail
 obtain ⟨W,hW⟩ : ∃W : World,W=w.alloc (.cells #[.int .i64 P,.int .i64 m,.slice am mn cm] 24):=⟨_,rfl⟩
 rw [<- hW]
 have hbW : Below w.heap.size w W:=by rw [hW];exact an _ _
 have x0 : aV W w.heap.size [.int .i64 P,.int .i64 m,.slice am mn cm]:=by rw [hW];exact aV.new _ _ _ rfl
 have HX:=Z5 x0
 have hsW : w.heap.size<W.heap.size:=x0.1
 clear hW x0
 refine (dJ P m am mn cm x W hf Hx.out).mono ?_
 rintro e w1 ⟨a1,c1,rfl,hown1,hb1⟩
 have x1:=HX.out.ah hb1
 have d0:=x1.cell 0 rfl
 have d1:=x1.cell 1 rfl
 have d2:=x1.cell 2 rfl
 rw [Hdx.out] at hown1 ⊢
 clear x1
 go_wp2_with fail
 refine (dJ P m am mn cm y w1 hf Hy.out).mono ?_
 rintro e w2 ⟨a2,c2,rfl,hown2,hb2⟩
 rw [Hdy.out] at hown2 ⊢
 have hs1:=hb1.size
 have hown1':=aW hown1 hb2
 have hap : a1 ≠ none->ablk a1<w1.heap.size:=λh0=>(aR hown1 h0).2
 have hi2:=(Ints.own hown2).1
 have hlo2 : 0<m->w1.heap.size<=ablk a2:=λh0=>(fJ hown2 h0).1
 have hap1 : a1 ≠ none->W.heap.size<=ablk a1:=λh0=>(aR hown1 h0).1
 have hb12:=Below.next hb1 hb2
 have hpl2:=hi2.pl
 obtain ⟨D,hD⟩ : ∃D,digs x P m=D:=⟨_,rfl⟩
 obtain ⟨E,hE⟩ : ∃E,digs y P m=E:=⟨_,rfl⟩
 rw [hD] at hown1' Hdx Hbx HNl HNn HNd HNv
 rw [hE] at hi2 Hdy Hby HNl HNn HNd HNv
 obtain ⟨NN,hNN⟩ : ∃NN,lP P D E=NN:=⟨_,rfl⟩
 rw [hNN] at HNl HNn HNd HNv
 clear hD hE hNN hown1 hown2
 go_wp2_with fail
 go_loopw [9] (λiv wr=>∃k : Nat,k<=m/\iv = .int .i64 k/\wr.ownsRow W.heap.size 3 1 (.slice a1 m c1) m ((fD NN D k).map (Value.int .i64))/\bX a1 w2 wr) (λiv _=>m - (intOf iv).toNat)
 case atStart=>exact ⟨0,Nat.zero_le _,rfl,by rw [en];exact hown1',bX.refl _ _⟩
 case round =>
  obtain ⟨k,hk,rfl,hown,honly⟩:=hrel
  have hbr : Below W.heap.size W wr:=hb12.trans (honly.below hap1 (by have:=hb2.size;omega))
  by_cases hlt : k<m
  ·obtain ⟨hi1,hm1⟩:=Ints.own hown
   have hi2r:=honly.ints hi2 (by
    by_cases h0 : a1=none
    ·exact .inl h0
    ·exact .inr (.inr (by have h1:=hap h0;have h2:=hlo2 (by omega);omega)))
   have ca:=hi1.cell k hlt
   have cb:=hi2r.cell k hlt
   have fa:=(hm1 (by omega)).2 k hlt
   have hpl1:=hi1.pl
   have hkN : NN.length=D.length:=by rw [HNl.out,Hdx.out]
   have hkD : k<D.length:=by rw [Hdx.out];exact hlt
   have hmix:=ed NN D k k hkN (by omega)
   rw [if_neg (by omega)] at hmix
   rw [hmix] at ca
   have hset:=dZ NN D k hkN hkD
   have Hset:=Z5 hset
   have x1:=HX.out.ah hbr
   have d0:=x1.cell 0 rfl
   have b1:=Hbx.out k
   have b2:=Hby.out k
   have hP0 : P ≠ 0:=by omega
   have r5 : IntKind.i64.wrap (nth D k+nth E k)=nth D k+nth E k:=IntWalk.i64_in _ (by omega)
   have r6 : (nth D k+nth E k).tmod P=(nth D k+nth E k) % P:=IntWalk.rem_in _ _ (by omega)
   have R7:=Z5 (HNn.out k hlt)
   clear hmix hset hkN hkD x1
   go_wp2_with fail
   go_still_tail 15,(by kernel_rfl)
   change wpList _ _ _ _ _ wr.drew
   generalize hwd : wr.drew=wd
   have fd : wd.frozen? ⟨ablk a1,aJ a1+k,none⟩=false:=by rw [<- hwd];exact fa
   have cd : wd.cell? ⟨ablk a1,aJ a1+k,none⟩=some (.int .i64 (nth D k)):=by rw [<- hwd];exact ca
   have Hwd:=Z5 hwd
   clear hwd r5 r6
   go_wp2_with fail
   go_roundw
   case rel =>
    obtain rfl:=Hwd.out
    have hdr : bd wr wr.drew:=(bd.refl wr).drew
    refine ⟨k+1,by omega,by go_num,?_,honly.trans ((bX.drawn hdr).trans (bX.set _ k _ (by intro e;have:=hpl1 (by omega);rw [e] at this;cases this)))⟩
    have h1:=bC (w:=wr.drew) hown k hlt (.int .i64 ((nth D k+nth E k) % P))
    rw [<- List.map_set,<- R7.out,Hset.out] at h1
    rw [<- R7.out]
    exact h1
   case measure=>simp [intOf] <;> omega
  ·obtain rfl : k=m:=by omega
   rw [fy NN D k HNl.out Hdx.out] at hown
   have hi1:=(Ints.own hown).1
   have x1:=HX.out.ah hbr
   have d0:=x1.cell 0 rfl
   have d1:=x1.cell 1 rfl
   have d2:=x1.cell 2 rfl
   clear x1
   go_wp2_with fail
   refine (gM P k am mn cm a1 k c1 NN wr hi1 (by omega) (by omega) (by omega) HNd.out).mono ?_
   rintro e w4 ⟨rfl,hb4⟩
   go_wp2_with fail
   go_ret
   exact ⟨aF HNv.out,Below.next (Below.next hbW hbr) hb4⟩
theorem tM (P : Int) (m : Nat) (am : OA) (mn cm : Nat) (x : Int) (w : World) (hf : RF P m) (hx : fG (aK P m) x=true) :
  Calls Tryz.prog 233 #[.agg #[.int .i64 P,.int .i64 m,.slice am mn cm],.int .i64 x] w λe w'=>e = .returned (.int .i64 (fneg P m x))/\Below w.heap.size w w':=by
 have hp2:=hf.p2
 have hp256:=hf.p256
 have hm8:=hf.m8
 have Hx:=Z5 hx
 have Hdx:=Z5 (bl P m x)
 have Hbx:=Z5 (j9 hf x)
 have hNl : (kL P (digs x P m)).length=m:=by simp [kL,bl]
 have hNn : ∀i,i<m->nth (kL P (digs x P m)) i=(P - nth (digs x P m) i) % P:=λi hi=>by
  rw [ai (by rw [hNl];exact hi),ai (by rw [bl];exact hi)]
  simp [kL]
 have hNd:=cR.I5 hf (cR.I3 (by omega) (digs x P m)) hNl
 have HNl:=Z5 hNl
 have HNn:=Z5 hNn
 have HNd:=Z5 hNd
 have HNv:=Z5 (lF (P:=P) m x)
 clear hx hNl hNn hNd
 go_enter Tryz.func233,Tryz.ntmps233
 go_wp2_with fail
 obtain ⟨W,hW⟩ : ∃W : World,W=w.alloc (.cells #[.int .i64 P,.int .i64 m,.slice am mn cm] 24):=⟨_,rfl⟩
 rw [<- hW]
 have hbW : Below w.heap.size w W:=by rw [hW];exact an _ _
 have x0 : aV W w.heap.size [.int .i64 P,.int .i64 m,.slice am mn cm]:=by rw [hW];exact aV.new _ _ _ rfl
 have HX:=Z5 x0
 have hsW : w.heap.size<W.heap.size:=x0.1
 clear hW x0
 refine (dJ P m am mn cm x W hf Hx.out).mono ?_
 rintro e w2 ⟨a1,c1,rfl,hown1,hb1⟩
 rw [Hdx.out] at hown1 ⊢
 have hs1:=hb1.size
 have hap1 : a1 ≠ none->W.heap.size<=ablk a1:=λh0=>(aR hown1 h0).1
 obtain ⟨D,hD⟩ : ∃D,digs x P m=D:=⟨_,rfl⟩
 rw [hD] at hown1 Hdx Hbx HNl HNn HNd HNv
 obtain ⟨NN,hNN⟩ : ∃NN,kL P D=NN:=⟨_,rfl⟩
 rw [hNN] at HNl HNn HNd HNv
 clear hD hNN
 go_wp2_with fail
 go_loopw [6] (λiv wr=>∃k : Nat,k<=m/\iv = .int .i64 k/\wr.ownsRow W.heap.size 3 1 (.slice a1 m c1) m ((fD NN D k).map (Value.int .i64))/\bX a1 w2 wr) (λiv _=>m - (intOf iv).toNat)
 case atStart=>exact ⟨0,Nat.zero_le _,rfl,by rw [en];exact hown1,bX.refl _ _⟩
 case round =>
  obtain ⟨k,hk,rfl,hown,honly⟩:=hrel
  have hbr : Below W.heap.size W wr:=hb1.trans (honly.below hap1 (by omega))
  by_cases hlt : k<m
  ·obtain ⟨hi1,hm1⟩:=Ints.own hown
   have ca:=hi1.cell k hlt
   have fa:=(hm1 (by omega)).2 k hlt
   have hpl1:=hi1.pl
   have hkN : NN.length=D.length:=by rw [HNl.out,Hdx.out]
   have hkD : k<D.length:=by rw [Hdx.out];exact hlt
   have hmix:=ed NN D k k hkN (by omega)
   rw [if_neg (by omega)] at hmix
   rw [hmix] at ca
   have hset:=dZ NN D k hkN hkD
   have Hset:=Z5 hset
   have x1:=HX.out.ah hbr
   have d0:=x1.cell 0 rfl
   have b1:=Hbx.out k
   have hP0 : P ≠ 0:=by omega
   have r5 : IntKind.i64.wrap (P - nth D k)=P - nth D k:=IntWalk.i64_in _ (by omega)
   obtain ⟨Z,hZ⟩ : ∃Z,(P - nth D k) % P=Z:=⟨_,rfl⟩
   have r6 : (P - nth D k).tmod P=Z:=by rw [<- hZ];exact IntWalk.rem_in _ _ (by omega)
   have R7 : Hid (nth NN k=Z):=by show _=_;rw [<- hZ];exact HNn.out k hlt
   clear hZ
   clear hmix hset hkN hkD x1
   go_wp2_with fail
   go_still_tail 13,(by kernel_rfl)
   change wpList _ _ _ _ _ wr.drew
   generalize hwd : wr.drew=wd
   have fd : wd.frozen? ⟨ablk a1,aJ a1+k,none⟩=false:=by rw [<- hwd];exact fa
   have cd : wd.cell? ⟨ablk a1,aJ a1+k,none⟩=some (.int .i64 (nth D k)):=by rw [<- hwd];exact ca
   have Hwd:=Z5 hwd
   clear hwd r5 r6
   go_wp2_with fail
   go_roundw
   case rel =>
    obtain rfl:=Hwd.out
    have hdr : bd wr wr.drew:=(bd.refl wr).drew
    refine ⟨k+1,by omega,by go_num,?_,honly.trans ((bX.drawn hdr).trans (bX.set _ k _ (by intro e;have:=hpl1 (by omega);rw [e] at this;cases this)))⟩
    have h1:=bC (w:=wr.drew) hown k hlt (.int .i64 Z)
    rw [<- List.map_set,<- R7.out,Hset.out] at h1
    rw [<- R7.out]
    exact h1
   case measure=>simp [intOf] <;> omega
  ·obtain rfl : k=m:=by omega
   rw [fy NN D k HNl.out Hdx.out] at hown
   have hi1:=(Ints.own hown).1
   have x1:=HX.out.ah hbr
   have d0:=x1.cell 0 rfl
   have d1:=x1.cell 1 rfl
   have d2:=x1.cell 2 rfl
   clear x1
   go_wp2_with fail
   refine (gM P k am mn cm a1 k c1 NN wr hi1 (by omega) (by omega) (by omega) HNd.out).mono ?_
   rintro e w4 ⟨rfl,hb4⟩
   go_wp2_with fail
   go_ret
   exact ⟨aF HNv.out,Below.next (Below.next hbW hbr) hb4⟩
theorem p9.ah {w w' : World} {P : Int} {m : Nat} {am : OA} {mn : Nat} {mod : Lz} (h : p9 w P m am mn mod) (hb : Below w.heap.size w w') : p9 w' P m am mn mod:=⟨h.ints.ah hb,h.low,h.dig⟩
theorem Ints.take {w : World} {a : OA} {n : Nat} {l : Lz} (h : Ints w a n l) {k : Nat} (hk : k<=n) : Ints w a k (l.take k) :=
 ⟨by rw [List.length_take,h.len];omega,λh0=>h.pl (by omega),Nat.le_trans hk h.max,λi hi=>by rw [mB hi];exact h.cell i (by omega)⟩
theorem jY (P : Int) (m : Nat) (am : OA) (mn cm : Nat) (mod : Lz) (x y : Int) (w : World) (hf : RF P m) (hmod : p9 w P m am mn mod) (hx : fG (aK P m) x=true) (hy : fG (aK P m) y=true) :
  Calls Tryz.prog 180 #[.agg #[.int .i64 P,.int .i64 m,.slice am mn cm],.int .i64 x,.int .i64 y] w λe w'=>e = .returned (.int .i64 (mulR P m mod x y))/\Below w.heap.size w w':=by
 have hp2:=hf.p2
 have hp256:=hf.p256
 have hm1:=hf.m1
 have hm8:=hf.m8
 have Hx:=Z5 hx
 have Hy:=Z5 hy
 have Hdx:=Z5 (bl P m x)
 have Hdy:=Z5 (bl P m y)
 have Hbx:=Z5 (j9 hf x)
 have Hby:=Z5 (j9 hf y)
 have Hbm:=Z5 hmod.dig
 have hplm:=hmod.ints.pl
 have Hlow:=Z5 hmod.low
 obtain ⟨n,hn⟩ : ∃n : Nat,2 * m - 1=n:=⟨_,rfl⟩
 have hn1 : m<=n:=by omega
 have hn2 : n<=15:=by omega
 have Hn:=Z5 hn
 have hnv : 2 * (m : Int) - 1=n:=by omega
 have hnv2 : 2 * (m : Int) - 2=(n : Int) - 1:=by omega
 have Hnv2:=Z5 hnv2
 clear hx hy hn hnv2
 go_enter Tryz.func180,Tryz.ntmps180
 go_wp2_with fail
 obtain ⟨W,hW⟩ : ∃W : World,W=w.alloc (.cells #[.int .i64 P,.int .i64 m,.slice am mn cm] 24):=⟨_,rfl⟩
 rw [<- hW]
 have hbW : Below w.heap.size w W:=by rw [hW];exact an _ _
 have x0 : aV W w.heap.size [.int .i64 P,.int .i64 m,.slice am mn cm]:=by rw [hW];exact aV.new _ _ _ rfl
 have HX:=Z5 x0
 clear hW x0
 have hmW:=hmod.ah hbW
 refine (dJ P m am mn cm x W hf Hx.out).mono ?_
 rintro e w1 ⟨a1,c1,rfl,hown1,hb1⟩
 have x1:=HX.out.ah hb1
 have d0:=x1.cell 0 rfl
 have d1:=x1.cell 1 rfl
 have d2:=x1.cell 2 rfl
 rw [Hdx.out] at hown1 ⊢
 clear x1
 go_wp2_with fail
 refine (dJ P m am mn cm y w1 hf Hy.out).mono ?_
 rintro e w2 ⟨a2,c2,rfl,hown2,hb2⟩
 rw [Hdy.out] at hown2 ⊢
 have hb12:=Below.next hb1 hb2
 have x1:=HX.out.ah hb12
 have d0:=x1.cell 0 rfl
 have d1:=x1.cell 1 rfl
 have d2:=x1.cell 2 rfl
 have hi1:=((Ints.own hown1).1).ah hb2
 have hi2:=(Ints.own hown2).1
 have hpl1:=hi1.pl
 have hpl2:=hi2.pl
 have hm2:=hmW.ah hb12
 obtain ⟨D,hD⟩ : ∃D,digs x P m=D:=⟨_,rfl⟩
 obtain ⟨E,hE⟩ : ∃E,digs y P m=E:=⟨_,rfl⟩
 have HR : Hid (mulR P m mod x y=valu P (mulL P m mod D E)):=by show _=_;rw [mulR,hD,hE]
 rw [hD] at hi1 Hdx Hbx
 rw [hE] at hi2 Hdy Hby
 clear hD hE hown1 hown2 x1
 go_wp2_with (at_make;refine bV rfl _ _ 22 3 rfl (.int .i64 0) 8 Tryz.underlying22 aX rfl n rfl rfl (by omega) (by unfold maxLen;omega) ?_;intro a3 w3 hown3 hb3 hge3 hlt3;have d0:=aw hb3 d0;have d1:=aw hb3 d1;have d2:=aw hb3 d2)
 have hP : 0<P:=by omega
 have hS : ∀V,Below w2.heap.size w2 V->V.cell? ⟨w.heap.size,0,none⟩=some (.int .i64 P)/\V.cell? ⟨w.heap.size,1,none⟩=some (.int .i64 m)/\V.cell? ⟨w.heap.size,2,none⟩=some (.slice am mn cm)/\Ints V a1 m D/\Ints V a2 m E/\Ints V am mn mod:=by
  intro V hV
  have x1:=(HX.out.ah hb12).ah hV
  exact ⟨x1.cell 0 rfl,x1.cell 1 rfl,x1.cell 2 rfl,hi1.ah hV,hi2.ah hV,hm2.ints.ah hV⟩
 have HS:=Z5 hS
 have HC : Hid (List.replicate n (Value.int .i64 0)=(qo P D E m n 0).map (Value.int .i64)):=by show _=_;simp [qo]
 rw [HC.out] at hown3
 have ha3 : a3 ≠ none->w2.heap.size<=ablk a3:=λ_=>hge3
 have hb23:=hb12.trans (hb3.mono hb12.size)
 clear hS d0 d1 d2 hi1 hi2 hm2
 go_loopw [10] (λiv wr=>∃i : Nat,i<=m/\iv = .int .i64 i/\wr.ownsRow w2.heap.size 3 1 (.slice a3 n n) n ((qo P D E m n i).map (Value.int .i64))/\bX a3 w3 wr) (λiv _=>m - (intOf iv).toNat)
 case atStart=>exact ⟨0,Nat.zero_le _,rfl,hown3,bX.refl _ _⟩
 case round =>
  obtain ⟨i,hi,rfl,hown,honly⟩:=hrel
  have hbr : Below w2.heap.size w2 wr:=hb3.trans (honly.below ha3 hb3.size)
  obtain ⟨d0,d1,d2,j1,j2,j3⟩:=HS.out wr hbr
  by_cases hlt : i<m
  ·have Hci : Hid (qo P D E m n (i+1)=cvJ P D E i (qo P D E m n i) m):=rfl
   have Hcd : Hid (cR P (qo P D E m n i)):=nM hP D E m n i
   have Hcl : Hid ((qo P D E m n i).length=n):=iL P D E m n i
   obtain ⟨C,hC⟩ : ∃C,qo P D E m n i=C:=⟨_,rfl⟩
   rw [hC] at hown Hci Hcd Hcl
   clear hC
   go_wp2_with fail
   go_loopw [11] (λiv wr=>∃j : Nat,j<=m/\iv = .int .i64 j/\wr.ownsRow w2.heap.size 3 1 (.slice a3 n n) n ((cvJ P D E i C j).map (Value.int .i64))/\bX a3 w3 wr) (λiv _=>m - (intOf iv).toNat)
   case atStart=>exact ⟨0,Nat.zero_le _,rfl,hown,honly⟩
   case round =>
    obtain ⟨j,hj,rfl,hown2,honly2⟩:=hrel
    have hbr2 : Below w2.heap.size w2 wr:=hb3.trans (honly2.below ha3 hb3.size)
    obtain ⟨d0,d1,d2,j1,j2,j3⟩:=HS.out wr hbr2
    by_cases hlt2 : j<m
    ·have Hcj : Hid (cvJ P D E i C (j+1)=(cvJ P D E i C j).set (i+j) ((nth (cvJ P D E i C j) (i+j)+nth D i * nth E j) % P)):=rfl
     have hcd:=sA hP D E i Hcd.out j (i+j)
     obtain ⟨T,hT⟩ : ∃T,cvJ P D E i C j=T:=⟨_,rfl⟩
     rw [hT] at hown2 Hcj hcd
     clear hT
     have hij : i+j<n:=by have:=Hn.out;omega
     obtain ⟨it,mt⟩:=Ints.own hown2
     have ct:=it.cell (i+j) hij
     have ft:=(mt (by omega)).2 (i+j) hij
     have hplt:=it.pl
     have cD:=j1.cell i hlt
     have cE:=j2.cell j hlt2
     have bD:=Hbx.out i
     have bE:=Hby.out j
     have hme:=jh bD.1 (show nth D i<=256 by omega) bE.1 (show nth E j<=256 by omega)
     have hP0 : P ≠ 0:=by omega
     obtain ⟨k,hk⟩ : ∃k,i+j=k:=⟨_,rfl⟩
     rw [hk] at ct ft Hcj hcd hij
     obtain ⟨Z,hZ⟩ : ∃Z,(nth T k+nth D i * nth E j) % P=Z:=⟨_,rfl⟩
     have Hcj2 : Hid (cvJ P D E i C (j+1)=T.set k Z):=by show _=_;rw [Hcj.out,hZ]
     have r1 : IntKind.i64.wrap ((i : Int)+j)=(k : Int):=by rw [IntWalk.i64_in _ (by omega)];omega
     have r2 : IntKind.i64.wrap (nth D i * nth E j)=nth D i * nth E j:=IntWalk.i64_in _ (by omega)
     have r3 : IntKind.i64.wrap (nth T k+nth D i * nth E j)=nth T k+nth D i * nth E j:=IntWalk.i64_in _ (by omega)
     have r4 : (nth T k+nth D i * nth E j).tmod P=Z:=by rw [<- hZ];exact IntWalk.rem_in _ _ (by omega)
     have q1 : (0 : Int)<=k:=by omega
     have q2 : (k : Int)<n:=by omega
     clear hZ hk Hcj
     go_wp2_with fail
     go_still_tail 24,(by kernel_rfl)
     change wpList _ _ _ _ _ wr.drew
     generalize hwd : wr.drew=wd
     have fd : wd.frozen? ⟨ablk a3,aJ a3+k,none⟩=false:=by rw [<- hwd];exact ft
     have cd : wd.cell? ⟨ablk a3,aJ a3+k,none⟩=some (.int .i64 (nth T k)):=by rw [<- hwd];exact ct
     have Hwd:=Z5 hwd
     clear hwd r1 r2 r3 r4
     go_wp2_with fail
     go_roundw
     case rel =>
      obtain rfl:=Hwd.out
      have hdr : bd wr wr.drew:=(bd.refl wr).drew
      refine ⟨j+1,by omega,by go_num,?_,honly2.trans ((bX.drawn hdr).trans (bX.set _ k _ (by intro e;have:=hplt (by omega);rw [e] at this;cases this)))⟩
      have h1:=bC (w:=wr.drew) hown2 k hij (.int .i64 Z)
      rw [<- List.map_set,<- Hcj2.out] at h1
      exact h1
     case measure=>simp [intOf] <;> omega
    ·obtain rfl : j=m:=by omega
     go_wp2_with fail
     go_roundw
     case rel=>exact ⟨i+1,by omega,by go_num,by rw [Hci.out];exact hown2,honly2⟩
     case measure=>simp [intOf] <;> omega
  ·obtain rfl : i=m:=by omega
   have hw2:=Hnv2.out
   obtain ⟨C,hC⟩ : ∃C,qo P D E i n i=C:=⟨_,rfl⟩
   have Hcd : Hid (cR P C):=by show cR P C;rw [<- hC];exact nM hP D E i n i
   have Hcl : Hid (C.length=n):=by show _=_;rw [<- hC];exact iL P D E i n i
   have HL : Hid (mulL P i mod D E=(nZ P i mod C (i - 1)).take i):=by show _=_;rw [mulL,Hn.out,hC]
   rw [hC] at hown
   clear hC
   go_wp2_with fail
   clear hw2 hnv
   go_loopw [12] (λiv wr=>∃k t : Nat,t+k+1=n/\k<=i - 1/\iv = .int .i64 t/\wr.ownsRow w2.heap.size 3 1 (.slice a3 n n) n ((nZ P i mod C k).map (Value.int .i64))/\bX a3 w3 wr) (λiv _=>(intOf iv).toNat)
   case atStart=>exact ⟨0,n - 1,by omega,by omega,by congr 1;omega,hown,honly⟩
   case round =>
    obtain ⟨k,t,htk,hk,rfl,hownk,honlyk⟩:=hrel
    have hbk : Below w2.heap.size w2 wr:=hb3.trans (honlyk.below ha3 hb3.size)
    obtain ⟨d0,d1,d2,j1,j2,j3⟩:=HS.out wr hbk
    by_cases hti : i<=t
    ·have hn':=Hn.out
     have hi1 : 1<i:=by omega
     have hmn:=Hlow.out hi1
     have Hrk : Hid (nZ P i mod C (k+1)=qq P i mod t (nZ P i mod C k) i):=by show _=_;rw [nZ,show 2 * i - 2 - k=t by omega]
     have Hrd : Hid (cR P (nZ P i mod C k)):=nG hP i mod Hcd.out k
     have Hrl : Hid ((nZ P i mod C k).length=n):=by show _=_;rw [jy];exact Hcl.out
     obtain ⟨C2,hC2⟩ : ∃C2,nZ P i mod C k=C2:=⟨_,rfl⟩
     rw [hC2] at hownk Hrk Hrd Hrl
     have Htk:=Z5 htk
     clear hC2 hn'
     go_wp2_with fail
     go_loopw [13] (λiv wr=>∃j : Nat,j<=i/\iv = .int .i64 j/\wr.ownsRow w2.heap.size 3 1 (.slice a3 n n) n ((qq P i mod t C2 j).map (Value.int .i64))/\bX a3 w3 wr) (λiv _=>i - (intOf iv).toNat)
     case atStart=>exact ⟨0,Nat.zero_le _,rfl,hownk,honlyk⟩
     case round =>
      obtain ⟨j,hj,rfl,hown2,honly2⟩:=hrel
      have hbr2 : Below w2.heap.size w2 wr:=hb3.trans (honly2.below ha3 hb3.size)
      obtain ⟨d0,d1,d2,j1,j2,j3⟩:=HS.out wr hbr2
      by_cases hlt2 : j<i
      ·have Hcj : Hid (qq P i mod t C2 (j+1)=(qq P i mod t C2 j).set (t - i+j) ((nth (qq P i mod t C2 j) (t - i+j)+(P - nth (qq P i mod t C2 j) t) * nth mod j) % P)):=rfl
       have hcd:=sk hP i mod t Hrd.out j
       obtain ⟨T,hT⟩ : ∃T,qq P i mod t C2 j=T:=⟨_,rfl⟩
       rw [hT] at hown2 Hcj hcd
       clear hT
       obtain ⟨it,mt⟩:=Ints.own hown2
       obtain ⟨u,hu⟩ : ∃u,t - i+j=u:=⟨_,rfl⟩
       have hun : u<n:=by omega
       have htn : t<n:=by omega
       have hjmn : j<mn:=by omega
       have ct:=it.cell u hun
       have ctt:=it.cell t htn
       have cM:=j3.cell j hjmn
       have ft:=(mt (by omega)).2 u hun
       have hplt:=it.pl
       have b1:=hcd u
       have b2:=hcd t
       have b3:=Hbm.out j
       have hme:=jh (show 0<=P - nth T t by omega) (show P - nth T t<=256 by omega) b3.1 (show nth mod j<=256 by omega)
       have hP0 : P ≠ 0:=by omega
       rw [hu] at Hcj
       obtain ⟨Z,hZ⟩ : ∃Z,(nth T u+(P - nth T t) * nth mod j) % P=Z:=⟨_,rfl⟩
       have Hcj2 : Hid (qq P i mod t C2 (j+1)=T.set u Z):=by show _=_;rw [Hcj.out,hZ]
       obtain ⟨v,hv⟩ : ∃v,t - i=v:=⟨_,rfl⟩
       have r0 : IntKind.i64.wrap ((t : Int) - i)=(v : Int):=by rw [IntWalk.i64_in _ (by omega)];omega
       have r1 : IntKind.i64.wrap ((v : Int)+j)=(u : Int):=by rw [IntWalk.i64_in _ (by omega)];omega
       have r2 : IntKind.i64.wrap (P - nth T t)=P - nth T t:=IntWalk.i64_in _ (by omega)
       have r3 : IntKind.i64.wrap ((P - nth T t) * nth mod j)=(P - nth T t) * nth mod j:=IntWalk.i64_in _ (by omega)
       have r4 : IntKind.i64.wrap (nth T u+(P - nth T t) * nth mod j)=nth T u+(P - nth T t) * nth mod j:=IntWalk.i64_in _ (by omega)
       have r5 : (nth T u+(P - nth T t) * nth mod j).tmod P=Z:=by rw [<- hZ];exact IntWalk.rem_in _ _ (by omega)
       have q1 : (0 : Int)<=u:=by omega
       have q2 : (u : Int)<n:=by omega
       have q3 : (t : Int)<n:=by omega
       have q4 : (j : Int)<mn:=by omega
       clear hZ hu hv Hcj htk hmn
       go_wp2_with fail
       go_still_tail 34,(by kernel_rfl)
       change wpList _ _ _ _ _ wr.drew
       generalize hwd : wr.drew=wd
       have fd : wd.frozen? ⟨ablk a3,aJ a3+u,none⟩=false:=by rw [<- hwd];exact ft
       have cd : wd.cell? ⟨ablk a3,aJ a3+u,none⟩=some (.int .i64 (nth T u)):=by rw [<- hwd];exact ct
       have Hwd:=Z5 hwd
       clear hwd r0 r1 r2 r3 r4 r5
       go_wp2_with fail
       go_roundw
       case rel =>
        obtain rfl:=Hwd.out
        have hdr : bd wr wr.drew:=(bd.refl wr).drew
        refine ⟨j+1,by omega,by go_num,?_,honly2.trans ((bX.drawn hdr).trans (bX.set _ u _ (by intro e;have:=hplt (by omega);rw [e] at this;cases this)))⟩
        have h1:=bC (w:=wr.drew) hown2 u hun (.int .i64 Z)
        rw [<- List.map_set,<- Hcj2.out] at h1
        exact h1
       case measure=>simp [intOf] <;> omega
      ·obtain rfl : j=i:=by omega
       go_wp2_with fail
       go_roundw
       case rel=>exact ⟨k+1,t - 1,by have:=Htk.out;omega,by have:=Htk.out;have:=Hn.out;omega,by congr 1;omega,by rw [Hrk.out];exact hown2,honly2⟩
       case measure=>simp [intOf] <;> omega
    ·have hki : k=i - 1:=by have:=Hn.out;omega
     have hfin : Hid (valu P ((nZ P i mod C k).take i)=mulR P i mod x y):=by show _=_;rw [HR.out,HL.out,hki]
     have hdig : cR P ((nZ P i mod C k).take i):=cR.take hP (nG hP i mod Hcd.out k) i
     have hlen : ((nZ P i mod C k).take i).length=i:=by rw [List.length_take,jy,Hcl.out];omega
     have hbd:=cR.I5 hf hdig hlen
     have hit:=(Ints.own hownk).1
     have hin : i<=n:=hn1
     have hit2 : Ints wr a3 i ((nZ P i mod C k).take i):=hit.take hin
     have Hbd:=Z5 hbd
     have hin' : (i : Int)<=n:=by omega
     have hbwr : Below w.heap.size w wr:=(Below.next hbW hb12).trans (hbk.mono (by have h1:=hb12.size;have h2:=hbW.size;omega))
     have hS2 : ∀V,Below wr.heap.size wr V->V.cell? ⟨w.heap.size,0,none⟩=some (.int .i64 P)/\V.cell? ⟨w.heap.size,1,none⟩=some (.int .i64 i)/\V.cell? ⟨w.heap.size,2,none⟩=some (.slice am mn cm)/\Below wr.heap.size wr V :=
      λV hV=>⟨aw hV d0,aw hV d1,aw hV d2,hV⟩
     have HS2:=Z5 hS2
     have Hit2 : Hid (∀V,Below wr.heap.size wr V->Ints V a3 i ((nZ P i mod C k).take i)):=λV hV=>hit2.ah hV
     clear hki hlen hdig hbd hS2 hit hit2 htk
     go_wp2_with fail
     go_region_held3 (λV=>V.cell? ⟨w.heap.size,0,none⟩=some (.int .i64 P)/\V.cell? ⟨w.heap.size,1,none⟩=some (.int .i64 i)/\V.cell? ⟨w.heap.size,2,none⟩=some (.slice am mn cm)/\Below wr.heap.size wr V)
      ((refine HS2.out _ ?_;first | exact (Below.refl _ _).drew | (go_split_ands;exact Below.next (by assumption) (by assumption))))
      (first
       | (go_at_call 230;((with_reducible refine (gM P i am mn cm a3 i n _ _ (Hit2.out _ (Below.refl _ _).drew) (by omega) (by omega) (by omega) Hbd.out).mono ?_);rintro e w4 ⟨rfl,hb4⟩)))
     go_wp2_with fail
     go_ret
     exact ⟨aF hfin.out,Below.next hbwr (by go_split_ands;assumption)⟩
theorem l5.ah {w w' : World} {P : Int} {m : Nat} {am : OA} {mn : Nat} {mod : Lz} (h : l5 w P m am mn mod) (hb : Below w.heap.size w w') : l5 w' P m am mn mod:=⟨h.rf,h.mods.ah hb⟩
theorem RF.fG {P : Int} {m : Nat} (h : RF P m) {x : Int} (hx : ee P m x) : fG (aK P m) x=true:=by
 unfold Proofs.YtcfmiocdlcapoaaGreat.fG;rw [h.order];simp [hx.1,hx.2]
theorem mK (f : Int->Int) : ∀(n : Nat) (y : Int),0<=y->0<=invTo f n y/\(invTo f n y<y+n\/invTo f n y=0)
 | 0,y,h=>by simp [invTo]
 | n+1,y,h=>by
  unfold invTo
  split
  ·omega
  ·have:=mK f n (y+1) (by omega)
   omega
theorem py {P : Int} {m : Nat} (h : RF P m) (mod : Lz) (x : Int) : ee P m (ei P m mod x):=by
 have h1:=mK (mulR P m mod x) ((aK P m).toNat - 1) 1 (by omega)
 have h2:=h.order
 have h3:=one_lt_pow h.res
 unfold ei ee
 omega
theorem Km {P : Int} {m : Nat} (h : RF P m) (mod : Lz) : sr (fw P m mod) (ee P m) :=
 ⟨λx y _ _=>gT h.res x y,λx y _ _=>pA h mod x y,λx _=>qg h.res x,λx _ _=>py h mod x⟩
theorem qi (P : Int) (m : Nat) (am : OA) (mn cm : Nat) (mod : Lz) (x : Int) (w : World) (hf : l5 w P m am mn mod) (hx : ee P m x) :
  Calls Tryz.prog 116 #[.agg #[.int .i64 P,.int .i64 m,.slice am mn cm],.int .i64 x] w λe w'=>e = .returned (.int .i64 (ei P m mod x))/\Below w.heap.size w w':=by
 have hrf:=hf.rf
 have Hq:=Z5 (hrf.fG hx)
 have hord:=hrf.order
 have h256:=hrf.pw
 obtain ⟨q,hq⟩ : ∃q : Nat,P ^ m=q:=⟨(P ^ m).toNat,by have:=one_lt_pow hrf.res;omega⟩
 have hq2 : 2<=q:=by have:=one_lt_pow hrf.res;omega
 have hord2 : aK P m=q:=by rw [hord,hq]
 have Hord:=Z5 hord2
 have HI : Hid (ei P m mod x=invTo (mulR P m mod x) (q - 1) 1):=by show _=_;rw [ei,hord2];simp
 have Hel : Hid (∀k : Nat,k<q->fG (aK P m) k=true):=λk hk=>hrf.fG ⟨by omega,by rw [hq];omega⟩
 have hq256 : q<=256:=by omega
 clear hord hq hord2 h256
 go_enter Tryz.func116,Tryz.ntmps116
 go_wp2_with fail
 obtain ⟨W,hW⟩ : ∃W : World,W=w.alloc (.cells #[.int .i64 P,.int .i64 m,.slice am mn cm] 24):=⟨_,rfl⟩
 rw [<- hW]
 have hbW : Below w.heap.size w W:=by rw [hW];exact an _ _
 have x0 : aV W w.heap.size [.int .i64 P,.int .i64 m,.slice am mn cm]:=by rw [hW];exact aV.new _ _ _ rfl
 have HX:=Z5 x0
 clear hW x0
 have hfW:=hf.ah hbW
 go_loopw [5] (λyv wr=>∃y : Nat,1<=y/\y<=q/\yv = .int .i64 y/\Hid (ei P m mod x=invTo (mulR P m mod x) (q - y) y)/\Below W.heap.size W wr) (λyv _=>q - (intOf yv).toNat)
 case atStart=>exact ⟨1,by omega,by omega,rfl,by show _=_;rw [HI.out];rfl,Below.refl _ _⟩
 case round =>
  obtain ⟨y,hy1,hyq,rfl,hinv,hbr⟩:=hrel
  have x1:=HX.out.ah hbr
  have d0:=x1.cell 0 rfl
  have d1:=x1.cell 1 rfl
  have d2:=x1.cell 2 rfl
  clear x1
  go_wp2_with fail
  refine (dB P m am mn cm wr).mono ?_
  rintro e w1 ⟨rfl,hb1⟩
  rw [Hord.out]
  have hbr1:=Below.next hbr hb1
  have x1:=HX.out.ah hbr1
  have d0:=x1.cell 0 rfl
  have d1:=x1.cell 1 rfl
  have d2:=x1.cell 2 rfl
  clear x1
  by_cases hlt : y<q
  ·have hlt' : (y : Int)<q:=by omega
   have hst : invTo (mulR P m mod x) (q - y) y=if mulR P m mod x y=1 then (y : Int) else invTo (mulR P m mod x) (q - (y+1)) (y+1):=by
    rw [show q - y=(q - (y+1))+1 by omega,invTo]
   have Hst:=Z5 hst
   clear hst
   go_wp2_with fail
   refine (jY P m am mn cm mod x y w1 hrf ((hfW.ah hbr1).mods) Hq.out (Hel.out y hlt)).mono ?_
   rintro e w2 ⟨rfl,hb2⟩
   have hbr2:=Below.next hbr1 hb2
   by_cases h1 : mulR P m mod x y=1
   ·have Hf : Hid (ei P m mod x=y):=by show _=_;rw [hinv.out,Hst.out,if_pos h1]
    rw [h1]
    clear h1
    go_wp2_with fail
    go_ret
    exact ⟨aF Hf.out.symm,Below.next hbW hbr2⟩
   ·have Hf : Hid (ei P m mod x=invTo (mulR P m mod x) (q - (y+1)) ((y+1 : Nat) : Int)):=by show _=_;rw [hinv.out,Hst.out,if_neg h1];rfl
    have h1' : (mulR P m mod x y == 1)=false:=by simpa using h1
    clear h1
    go_wp2_with fail
    go_roundw
    case rel=>exact ⟨y+1,by omega,by omega,by go_num,Hf.out,hbr2⟩
    case measure=>simp [intOf] <;> omega
  ·obtain rfl : y=q:=by omega
   have Hf : Hid (ei P m mod x=0):=by show _=_;rw [hinv.out,Nat.sub_self];rfl
   go_wp2_with fail
   go_ret
   exact ⟨aF Hf.out.symm,Below.next hbW hbr1⟩
theorem oG (P : Int) (m : Nat) (am : OA) (mn cm : Nat) (mod : Lz) (s : Int) (a : OA) (n c : Nat) (l : Lz) (w : World) (hf : l5 w P m am mn mod) (hs : ee P m s) (hi : Ints w a n l) (hl : ∀x ∈ l,ee P m x) (hn : n<=1000000) :
  Calls Tryz.prog 232 #[.agg #[.int .i64 P,.int .i64 m,.slice am mn cm],.int .i64 s,.slice a n c] w (cC w (l.map (mulR P m mod s))):=by
 have hrf:=hf.rf
 have Hs:=Z5 (hrf.fG hs)
 have Hlen:=Z5 hi.len
 have hpl:=hi.pl
 have Hl : Hid (∀k,k<n->fG (aK P m) (nth l k)=true):=λk hk=>hrf.fG (hl _ (aN (by rw [hi.len];exact hk)))
 clear hl
 go_enter Tryz.func232,Tryz.ntmps232
 go_wp2_with (at_make;refine bV rfl _ _ 22 3 rfl (.int .i64 0) 8 Tryz.underlying22 aX rfl n rfl rfl (by omega) (by unfold maxLen;omega) ?_;intro a1 w1 hown hbel hge hlt)
 obtain ⟨W,hW⟩ : ∃W : World,W=w.alloc (.cells #[.int .i64 P,.int .i64 m,.slice am mn cm] 24):=⟨_,rfl⟩
 rw [<- hW] at hown hbel hge
 have hbW : Below w.heap.size w W:=by rw [hW];exact an _ _
 have x0 : aV W w.heap.size [.int .i64 P,.int .i64 m,.slice am mn cm]:=by rw [hW];exact aV.new _ _ _ rfl
 have hfW:=hf.ah hbW
 have hiW:=hi.ah hbW
 have hS : ∀k,k<n->∀V,Below W.heap.size W V->V.cell? ⟨w.heap.size,0,none⟩=some (.int .i64 P)/\V.cell? ⟨w.heap.size,1,none⟩=some (.int .i64 m)/\V.cell? ⟨w.heap.size,2,none⟩=some (.slice am mn cm) /\
   V.cell? ⟨ablk a,aJ a+k,none⟩=some (.int .i64 (nth l k))/\Below W.heap.size W V:=by
  intro k hk V hV
  have x1:=x0.ah hV
  exact ⟨x1.cell 0 rfl,x1.cell 1 rfl,x1.cell 2 rfl,(hiW.ah hV).cell k hk,hV⟩
 have HS:=Z5 hS
 clear hW x0 hS
 go_loopw [8] (λiv wr=>∃k : Nat,k<=n/\iv = .int .i64 k /\
   wr.ownsRow W.heap.size 3 1 (.slice a1 n n) n ((bT ((l.take k).map (mulR P m mod s)) k n).map (Value.int .i64))/\Below W.heap.size W wr)
  (λi _=>n - (intOf i).toNat)
 case atStart=>exact ⟨0,Nat.zero_le _,rfl,by simpa [bT] using hown,hbel⟩
 case round =>
  obtain ⟨k,hk,rfl,hown,hbel⟩:=hrel
  obtain ⟨hints,hmine⟩:=Ints.own hown
  have hpl1:=hints.pl
  by_cases hlt : k<n
  ·have HSk : Hid (∀V, Below W.heap.size W V -> V.cell? ⟨w.heap.size, 0, none⟩ = some (.int .i64 P) /\ V.cell? ⟨w.heap.size, 1, none⟩ = some (.int .i64 m) /\ V.cell? ⟨w.heap.size, 2, none⟩ = some (.slice am mn cm) /\
     V.cell? ⟨ablk a,aJ a+k,none⟩=some (.int .i64 (nth l k))/\Below W.heap.size W V):=HS.out k hlt
   have hB:=(hmine (by omega)).1
   have HB:=Z5 hB
   have Hbel:=Z5 hbel
   have HK : Hid (∀V,Below wr.drew.heap.size wr.drew V->(∃v,V.cell? ⟨ablk a1,aJ a1+k,none⟩=some v)/\V.frozen? ⟨ablk a1,aJ a1+k,none⟩=false/\Below wr.heap.size wr V):=λV hV=>by
    have hV' : Below wr.heap.size wr V:=Below.next (Below.refl _ _).drew hV
    have ho:=aW hown hV'
    exact ⟨⟨_,(Ints.own ho).1.cell k hlt⟩,((Ints.own ho).2 (by omega)).2 k hlt,hV'⟩
   have hmd:=(hfW.ah hbel).mods
   have Hmd : Hid (p9 wr.drew P m am mn mod):=hmd.ah (Below.refl _ _).drew
   clear hB hbel hmd
   go_wp2_with fail
   go_region_held3 (λV=>V.cell? ⟨w.heap.size,0,none⟩=some (.int .i64 P)/\V.cell? ⟨w.heap.size,1,none⟩=some (.int .i64 m)/\V.cell? ⟨w.heap.size,2,none⟩=some (.slice am mn cm) /\
     V.cell? ⟨ablk a,aJ a+k,none⟩=some (.int .i64 (nth l k))/\Below W.heap.size W V)
    ((refine HSk.out _ ?_;first | exact Hbel.out.drew | exact Below.next Hbel.out hb9 | exact (Below.next Hbel.out hb9).setCell HB.out _))
    (first
     | (go_at_call 180;((with_reducible refine (jY P m am mn cm mod s (nth l k) _ hrf Hmd.out Hs.out (Hl.out k hlt)).mono ?_);rintro e w4 ⟨rfl,hb4⟩;obtain ⟨⟨v9,k9⟩,f9,hb9⟩:=HK.out w4 hb4)))
   clear k9 f9
   go_wp2_with fail
   go_roundw
   case rel =>
    refine ⟨k+1,by omega,by go_num,?_,(Below.next Hbel.out hb9).setCell HB.out _⟩
    have h:=bC (aW hown hb9) k hlt (.int .i64 (mulR P m mod s (nth l k)))
    rw [<- List.map_set,dC _ _ _ _ (by simp [Hlen.out];omega) hlt] at h
    rw [List.take_succ_eq_append_getElem (by rw [Hlen.out];omega),List.map_append]
    rw [ai (by rw [Hlen.out];omega)] at h ⊢
    exact h
   case measure=>simp [intOf] <;> omega
  ·obtain rfl : k=n:=by omega
   have hfin : bT ((l.take k).map (mulR P m mod s)) k k=l.map (mulR P m mod s):=by
    rw [eh,List.take_of_length_le (by rw [Hlen.out];exact Nat.le_refl _)]
   rw [hfin] at hown
   have Hl2 : Hid ((l.map (mulR P m mod s)).length=k):=by show _=_;simp [Hlen.out]
   clear hfin
   go_wp2_with fail
   go_ret
   exact ⟨a1,k,by rw [Hl2.out];rfl,by rw [Hl2.out];exact aP hown hbW.size,Below.next hbW hbel⟩
section
variable {P : Program} {ops : Array Oper} {Q : Exit->Act->World->Prop} {md : Region.Mode} {S : World->Prop} {n : Nat}
def dF (P : Program) (md : Region.Mode) (ops : Array Oper) (Q : Exit->Act->World->Prop) (S : World->Prop) (n : Nat) : Nat->Array Bool->Act->World->Prop
 | 0,listed,a,w=>Region.ready md ops listed=[]/\Q .normal a w
 | fuel+1,listed,a,w =>
  (Region.ready md ops listed=[]->Q .normal a w) /\
  ∀i ∈ Region.ready md ops listed,wpOp P ops Q i (λa' w'=>(i<n->S w')/\dF P md ops Q S n fuel (listed.setIfInBounds i true) a' w') a w
theorem j7 : ∀(fuel : Nat) (listed : Array Bool) (a : Act) (w : World),dF P md ops Q S n fuel listed a w->wpAny P md ops Q fuel listed a w
 | 0,_,_,_,h=>h
 | fuel+1,_,_,_,h=>⟨h.1,λi hi=>wpOp_mono (λa' w' h'=>j7 fuel _ a' w' h'.2) (h.2 i hi)⟩
theorem lX {i : Nat} {oi : Oper} {v : Value} (hi : ops[i]? = some oi) (hsel : ∀(j : Nat) (o : Oper) cs b,ops[j]? = some o->o.op ≠ .select cs b)
  (hQ : ∀c a w,Q (.panic c) (a.put oi.dst v) w->Q (.panic c) a w) (hs : Region.sinkB md ops n=true) (hc : Region.chainB md ops n=true) (hn : n<ops.size) (hin : i<n) :
  ∀(fuel : Nat) (listed : Array Bool) (a : Act) (w : World),HeadInv md ops n listed ->
   (∀j oj,ops[j]? = some oj->j ≠ i->listed.getD j true=false->(∀e ∈ oj.after,Region.binds md e=true->e.on ≠ i)->oi.apart ops oj=true) ->
   i ∈ Region.ready md ops listed->YieldsIf P ops S oi v a->S w ->
   dF P md ops Q S n fuel (listed.setIfInBounds i true) (a.put oi.dst v) w->dF P md ops Q S n (fuel+1) listed a w:=by
 intro fuel
 induction fuel with
 | zero =>
  intro listed a w inv _ hr hy hS H
  refine ⟨λh=>(by rw [h] at hr;cases hr),λj hj=>?_⟩
  by_cases hji : j=i
  ·subst hji;exact hy.wpOp hi hS ⟨λ_=>hS,H⟩
  ·have:=ready_mono hj hji
   rw [H.1] at this
   cases this
 | succ fuel ih =>
  intro listed a w inv hfree hr hy hS H
  have hun:=(mem_ready.1 hr).1
  refine ⟨λh=>(by rw [h] at hr;cases hr),λj hj=>?_⟩
  by_cases hji : j=i
  ·subst hji;exact hy.wpOp hi hS ⟨λ_=>hS,H⟩
  ·have hjn : j<n:=by
    rcases Nat.lt_or_ge j n with h | h
    ·exact h
    ·exact absurd hj (tail_waits hs hc hn inv _ i rfl hin hun j h)
   have h1:=H.2 j (ready_mono hj hji)
   obtain ⟨hjun,oj,hoj,hall⟩:=mem_ready.1 hj
   have hnot : ∀e ∈ oj.after,Region.binds md e=true->e.on ≠ i:=λe he hb heq=>by
    have h1:=hall e he hb
    rw [heq,getD_both hun] at h1
    cases h1
   have h2:=wpOp_putIf hoj (hfree j oj hoj hji hjun hnot) (λcs b=>hsel i oi cs b hi) (λcs b=>hsel j oj cs b hoj) hQ hy h1
   have hfree' : ∀k ok,ops[k]? = some ok->k ≠ i->(listed.setIfInBounds j true).getD k true=false ->
     (∀e ∈ ok.after,Region.binds md e=true->e.on ≠ i)->oi.apart ops ok=true:=λk ok hk hki hku hno=>by
    refine hfree k ok hk hki ?_ hno
    by_cases hjk : j=k
    ·subst hjk;exact hjun
    ·rw [getD_set_ne true hjk] at hku;exact hku
   refine wpOp_mono (λa' w' h3=>?_) h2
   have hSw:=h3.2.1 hjn
   refine ⟨λ_=>hSw,ih (listed.setIfInBounds j true) a' w' (inv.set hj hjn) hfree' (ready_mono hr (Ne.symm hji)) h3.1 hSw ?_⟩
   rw [Array.setIfInBounds_comm _ _ hji]
   exact h3.2.2
theorem aD {i : Nat} {oi : Oper} {v : Value} {fuel : Nat} {listed : Array Bool} {a : Act} {w : World} (hi : ops[i]? = some oi)
  (hs : (Region.noSelect ops && (Region.sinkB md ops n && (Region.chainB md ops n && (decide (n<ops.size) && decide (i<n)))))=true) (hf : Region.free md ops listed i=true) (hr : (Region.ready md ops listed).contains i=true)
  (hQ : ∀c a w,Q (.panic c) (a.put oi.dst v) w->Q (.panic c) a w) (hy : YieldsIf P ops S oi v a) (hI : HeadInv md ops n listed/\S w)
  (h : HeadInv md ops n (listed.setIfInBounds i true)/\S w->dF P md ops Q S n fuel (listed.setIfInBounds i true) (a.put oi.dst v) w) : dF P md ops Q S n (fuel+1) listed a w:=by
 simp only [Bool.and_eq_true,decide_eq_true_eq] at hs
 have hr' : i ∈ Region.ready md ops listed:=by simpa using hr
 exact lX hi (Region.noSelect_spec hs.1) hQ hs.2.1 hs.2.2.1 hs.2.2.2.1 hs.2.2.2.2 fuel listed a w hI.1 (Region.free_spec hi hf) hr' hy hI.2 (h ⟨hI.1.set hr' hs.2.2.2.2,hI.2⟩)
theorem oI {i : Nat} {fuel : Nat} {listed : Array Bool} {a : Act} {w : World} (hr : Region.ready md ops listed=[i]) (hin : i<n) (hI : HeadInv md ops n listed)
  (h : wpOp P ops Q i (λa' w'=>S w'/\(HeadInv md ops n (listed.setIfInBounds i true)/\S w'->dF P md ops Q S n fuel (listed.setIfInBounds i true) a' w')) a w) : dF P md ops Q S n (fuel+1) listed a w :=
 ⟨λh0=>(by rw [hr] at h0;cases h0),λj hj=>by
  rw [hr,List.mem_singleton] at hj;subst hj
  exact wpOp_mono (λa' w' h'=>⟨λ_=>h'.1,h'.2 ⟨hI.set (by rw [hr];simp) hin,h'.1⟩⟩) h⟩
theorem mF {i : Nat} {fuel : Nat} {listed : Array Bool} {a : Act} {w : World} (hr : Region.ready md ops listed=[i]) (hin : n<=i) (hd : Region.ready md ops (listed.setIfInBounds i true)=[])
  (h : wpOp P ops Q i (λa' w'=>Q .normal a' w') a w) : dF P md ops Q S n (fuel+1) listed a w :=
 ⟨λh0=>(by rw [hr] at h0;cases h0),λj hj=>by
  rw [hr,List.mem_singleton] at hj;subst hj
  refine wpOp_mono (λa' w' h'=>⟨λh1=>by omega,?_⟩) h
  cases fuel with
  | zero=>exact ⟨hd,h'⟩
  | succ f=>exact ⟨λ_=>h',by rw [hd];simp⟩⟩
theorem gn {i : Nat} {o : Oper} {fuel : Nat} {listed : Array Bool} {a : Act} {w : World} (hr : Region.ready md ops listed=[i]) (hin : i<n) (hI : HeadInv md ops n listed) (ho : ops[i]? = some o)
  (h : ∀K' : Act->World->Prop,Shut (∀a w,S w->(HeadInv md ops n (listed.setIfInBounds i true)/\S w->dF P md ops Q S n fuel (listed.setIfInBounds i true) a w)->K' a w)->if Region.wanted o (yielded ops a.tmps)=true then Oper.wp P o a w K' Q else K' (a.put o.dst undef) w) :
  dF P md ops Q S n (fuel+1) listed a w :=
 oI hr hin hI (wpOp_step ho λK' hK=>h K' λa w hS hW=>hK a w ⟨hS,hW⟩)
theorem jS {i : Nat} {o : Oper} {fuel : Nat} {listed : Array Bool} {a : Act} {w : World} (hr : Region.ready md ops listed=[i]) (hin : n<=i) (hd : Region.ready md ops (listed.setIfInBounds i true)=[]) (ho : ops[i]? = some o)
  (h : ∀K' : Act->World->Prop,Shut (∀a w,Q .normal a w->K' a w)->if Region.wanted o (yielded ops a.tmps)=true then Oper.wp P o a w K' Q else K' (a.put o.dst undef) w) :
  dF P md ops Q S n (fuel+1) listed a w :=
 mF hr hin hd (wpOp_step ho λK' hK=>h K' λa w hq=>hK a w hq)
theorem tN : HeadInv md ops n (Array.replicate ops.size false) :=
 ⟨by simp,λj oj _ hl=>(by rw [getD_replicate_false] at hl;cases hl),λt _ ht=>by
  have:=getD_replicate_false ops.size t
  exact getD_in (by simpa using ht) this⟩
theorem iX {id : Nat} {a : Act} {w : World} (S : World->Prop) (n : Nat) (hm : P.follows .mixedOrders=true) (hS : S w.drew)
  (h : HeadInv .any ops n (Array.replicate ops.size false)/\S w.drew->dF P .any ops Q S n ops.size (Array.replicate ops.size false) a w.drew) : (Code.region id ops true).wp P Q a w :=
 wp_region_any hm (j7 _ _ _ _ (h ⟨tN,hS⟩))
end
end Go.Proofs.YtcfmiocdlcapoaaGreat
