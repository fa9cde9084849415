/-  -/
import Derived.Test.YtcflcogbpnmjeaaGreatK3
import Derived.Test.YtcflcogbpnmjeaaGreatK6
import Derived.Test.YtcflcogbpnmjeaaGreatK9
import Derived.Test.YtcflcogbpnmjeaaGreatK11
import Derived.Test.YtcflcogbpnmjeaaGreatK8
import Derived.Test.YtcflcogbpnmjeaaGreatK18
namespace Go.Proofs.YtcflcogbpnmjeaaGreat
set_option linter.unusedVariables false
set_option linter.unusedSimpArgs false
set_option linter.unusedSectionVars false

section
variable {P : Int} {M : Nat} {mod : List Int} {q : Nat} {y : Int}
namespace Gen

variable {ex : List Int}
theorem pw_ne (g : Gen P M mod q y ex) (a : Nat) : pw P M mod y a ≠ 0:=by
 have h5:=g.q2
 rw [← g.red a]
 have hlt : a % (q - 1)<q - 1:=Nat.mod_lt _ (by omega)
 rw [← g.val _ hlt]
 exact g.ne _ (nth_mem (by rw [g.len];exact hlt))
end Gen
end

section
open Go.RowKit
set_option maxHeartbeats 1600000 in
theorem rOrder_any (P M : Int) (am : Option Addr) (mn cm : Nat) (w : World) :
  Calls Tryz.prog 53 #[.agg #[.int .i64 P,.int .i64 M,.slice am mn cm]] w fun e w'=>e = .returned (.int .i64 (orderS P M))∧Below w.heap.size w w':=by
 have Hal:=Lib.hid (below1 w (.cells #[.int .i64 P,.int .i64 M,.slice am mn cm] 24))
 by_cases h1 : P<2
 ·have Ho:=Lib.hid (orderS_out (p:=P) (m:=M) (.inl h1))
  go_enter Tryz.func53,Tryz.ntmps53
  go_wp2
  go_ret
  exact ⟨ret_int Ho.out.symm,Hal.out⟩
 have h1' : decide (P<2)=false:=by simpa using h1
 by_cases h2 : M<1
 ·have Ho:=Lib.hid (orderS_out (p:=P) (m:=M) (.inr (.inr (.inl h2))))
  go_enter Tryz.func53,Tryz.ntmps53
  go_wp2
  go_ret
  exact ⟨ret_int Ho.out.symm,Hal.out⟩
 have h2' : decide (M<1)=false:=by simpa using h2
 by_cases h3 : 8<M
 ·have Ho:=Lib.hid (orderS_out (p:=P) (m:=M) (.inr (.inr (.inr h3))))
  go_enter Tryz.func53,Tryz.ntmps53
  go_wp2
  go_ret
  exact ⟨ret_int Ho.out.symm,Hal.out⟩
 have h3' : decide (8<M)=false:=by simpa using h3
 obtain ⟨n,rfl⟩ : ∃ n : Nat,M=n:=⟨M.toNat,by omega⟩
 go_enter Tryz.func53,Tryz.ntmps53
 go_wp2_with fail
 obtain ⟨W,hW⟩ : ∃ W : World,W=w.alloc (.cells #[.int .i64 P,.int .i64 n,.slice am mn cm] 24):=⟨_,rfl⟩
 rw [← hW]
 have hbW : Below w.heap.size w W:=by rw [hW];exact below1 _ _
 have c0 : W.cell? ⟨w.heap.size,0,none⟩=some (.int .i64 P):=by rw [hW];exact cell_alloc_at _ _ _ rfl 0
 have c1 : W.cell? ⟨w.heap.size,1,none⟩=some (.int .i64 n):=by rw [hW];exact cell_alloc_at _ _ _ rfl 1
 clear hW
 go_loop [3,4] (fun qv iv=>∃ k : Nat,k≤n∧iv = .int .i64 k∧qv = .int .i64 (P ^ k)∧P ^ k≤256∧1≤P ^ k) (fun _ i=>n - (intOf i).toNat)
 case atStart=>exact ⟨0,Nat.zero_le _,rfl,by simp,by simp,by simp⟩
 case round =>
  obtain ⟨k,hk,rfl,rfl,hb,hb1⟩:=hrel
  have hP0 : P ≠ 0:=by omega
  by_cases hlt : k<n
  ·have e1 : P ^ (k+1)=P ^ k * P:=Int.pow_succ _ _
   have hd0 : (0 : Int)≤256 / P:=Int.ediv_nonneg (by omega) (by omega)
   have hd1 : 256 / P≤256:=Int.ediv_le_self _ (by omega)
   by_cases h5 : 256 / P<P ^ k
   ·have hbig : orderS P n=0:=orderS_big (by
     intro h
     have h6:=pow_mono (show 1≤P by omega) (show k+1≤n by omega)
     rw [Int.toNat_natCast] at h
     have h7 : 256<P ^ k * P:=Int.lt_mul_of_ediv_lt (by omega) h5
     omega)
    have Hb:=Lib.hid hbig
    clear e1 hbig
    generalize P ^ k=q at *
    go_wp2
    go_ret
    exact ⟨ret_int Hb.out.symm,hbW⟩
   ·have h7 : P ^ k * P≤256:=by
     have h8:=Int.mul_le_mul_of_nonneg_right (show P ^ k≤256 / P by omega) (show 0≤P by omega)
     have h9:=Int.ediv_mul_le 256 hP0
     omega
    have e3 : 1 * 1≤P ^ k * P:=Int.mul_le_mul hb1 (by omega) (by omega) (by omega)
    have E1:=Lib.hid e1
    clear e1
    generalize P ^ k=q at *
    go_wp2
    go_round
    case rel=>exact ⟨k+1,by omega,by go_num,by rw [E1.out],by rw [E1.out];exact h7,by rw [E1.out];omega⟩
    case measure=>simp [intOf] <;> omega
  ·obtain rfl : k=n:=by omega
   by_cases h256 : 256<P
   ·have hk1 : 1≤k:=by omega
    have h6:=pow_mono (show 1≤P by omega) hk1
    have h8 : P ^ 1=P:=by rw [Int.pow_succ,Int.pow_zero,Int.one_mul]
    omega
   ·have Hb:=Lib.hid (orderS_in (p:=P) (m:=k) (by omega) (by simpa using hb))
    go_wp2
    go_ret
    exact ⟨ret_int (by rw [Hb.out];simp),hbW⟩
set_option maxHeartbeats 400000 in
theorem rPrime_any (n : Nat) (w : World) (h2 : 2≤n) (h256 : n≤256) :
  Calls Tryz.prog 139 #[.int .i64 n] w fun e w'=>e = .returned (.bool (primeB n))∧w=w':=by
 go_enter Tryz.func139,Tryz.ntmps139
 go_wp2
 go_loop [3] (fun dv=>∃ d : Nat,2≤d∧d≤n∧dv = .int .i64 d∧Hid (∀ e,2≤e→e<d→n % e ≠ 0)) (fun d=>n+1 - (intOf d).toNat)
 case atStart=>exact ⟨2,Nat.le_refl _,h2,rfl,fun e he he2=>by omega⟩
 case round =>
  obtain ⟨d,hd2,hdn,rfl,hno⟩:=hrel
  have hd0 : (d : Int) ≠ 0:=by omega
  by_cases hs : d<n
  ·by_cases hm : n % d=0
   ·have hm' : ((n : Int) % d == 0)=true:=by simp;exact_mod_cast hm
    have Hf:=Lib.hid (primeB_no hd2 hs hm)
    clear hm
    go_wp2
    go_ret
    exact ⟨ret_bool Hf.out.symm,rfl⟩
   ·have hm' : ((n : Int) % d == 0)=false:=by simp;exact_mod_cast hm
    have Hm:=Lib.hid hm
    clear hm
    go_wp2
    go_round
    case rel =>
     refine ⟨d+1,by omega,by omega,by go_num,fun e he he2=>?_⟩
     rcases Nat.lt_or_ge e d with h | h
     ·exact hno.out e he h
     ·rw [show e=d from by omega];exact Hm.out
    case measure=>simp [intOf] <;> omega
  ·have Hf:=Lib.hid (primeB_yes (n:=n) fun e he he2=>hno.out e he (by omega))
   go_wp2
   go_ret
   exact ⟨ret_bool (by rw [Hf.out]),rfl⟩
set_option maxHeartbeats 400000 in
theorem rdigits_any (x p : Int) (m : Nat) (w : World) (hx : 0≤x) (hx2 : x≤9223372036854775807) (hp : 1≤p) (hm : m≤256) :
  Calls Tryz.prog 160 #[.int .i64 x,.int .i64 p,.int .i64 m] w (NewInts w (digs x p m)):=by
 go_enter Tryz.func160,Tryz.ntmps160
 go_wp2_with (at_make;refine wpList_mk rfl _ _ 22 3 rfl (.int .i64 0) 8 Tryz.underlying22 infoInt rfl m rfl rfl (by omega) (by unfold maxLen;omega) ?_;intro a w1 hown hbel hge hlt)
 go_loopw [0,8] (fun xv iv wr=>∃ k : Nat,k≤m∧iv = .int .i64 k∧xv = .int .i64 (dquo x p k) ∧
   wr.ownsRow w.heap.size 3 1 (.slice a m m) m ((fillTo (digs x p k) k m).map (Value.int .i64))∧Below w.heap.size w wr)
  (fun _ i _=>m - (intOf i).toNat)
 case atStart=>exact ⟨0,Nat.zero_le _,rfl,rfl,by simpa [fillTo,digs] using hown,hbel⟩
 case round =>
  obtain ⟨k,hk,rfl,rfl,hown,hbel⟩:=hrel
  obtain ⟨hints,hmine⟩:=Ints.own hown
  have hq:=dquo_bd x p hx hp k
  have hpl:=hints.pl
  by_cases hlt : k<m
  ·have hc:=hints.cell k hlt
   have hf:=(hmine (by omega)).2 k hlt
   have hB:=(hmine (by omega)).1
   go_wp2
   go_roundw
   case rel =>
    refine ⟨k+1,by omega,by go_num,rfl,?_,hbel.setCell hB _⟩
    have h:=own_set hown k hlt (.int .i64 (dquo x p k % p))
    rw [← List.map_set,fillTo_set _ _ _ _ (digs_length p k x) hlt,← digs_snoc] at h
    exact h
   case measure=>simp [intOf] <;> omega
  ·obtain rfl : k=m:=by omega
   have Hl:=Lib.hid (digs_length p k x)
   rw [fillTo_all] at hown
   go_wp2
   go_ret
   exact ⟨a,k,by rw [Hl.out];rfl,by rw [Hl.out];exact hown,hbel⟩
set_option maxRecDepth 100000 in
set_option maxHeartbeats 800000 in
theorem rIs_any (P M : Int) (am : Option Addr) (mn cm : Nat) (x : Int) (w : World) :
  Calls Tryz.prog 113 #[.agg #[.int .i64 P,.int .i64 M,.slice am mn cm],.int .i64 x] w fun e w'=>e = .returned (.bool (isQ (orderS P M) x))∧Below w.heap.size w w':=by
 have Hal:=Lib.hid (below1 w (.cells #[.int .i64 P,.int .i64 M,.slice am mn cm] 24))
 by_cases h0 : 0≤x
 ·have h0' : decide (0≤x)=true:=by simpa using h0
  have Hq : Hid (isQ (orderS P M) x=decide (x<orderS P M)):=by show _=_;rw [isQ,h0'];simp
  clear h0
  go_enter Tryz.func113,Tryz.ntmps113
  go_wp2_with (go_at_call 53;refine (rOrder_any P M am mn cm _).mono ?_;rintro e w2 ⟨rfl,hb2⟩)
  go_ret
  exact ⟨ret_bool (by rw [Hq.out]),Below.next Hal.out hb2⟩
 ·have h0' : decide (0≤x)=false:=by simpa using h0
  have Hq : Hid (isQ (orderS P M) x=false):=by show _=_;rw [isQ,h0'];simp
  clear h0
  go_enter Tryz.func113,Tryz.ntmps113
  go_wp2_with fail
  go_ret
  exact ⟨ret_bool (by rw [Hq.out]),Hal.out⟩
theorem rIn_any (P M : Int) (am : Option Addr) (mn cm : Nat) (x : Int) (w : World) (hx : isQ (orderS P M) x=true) :
  Calls Tryz.prog 161 #[.agg #[.int .i64 P,.int .i64 M,.slice am mn cm],.int .i64 x] w fun e w'=>e = .returned (.int .i64 x)∧Below w.heap.size w w':=by
 have Hal:=Lib.hid (below1 w (.cells #[.int .i64 P,.int .i64 M,.slice am mn cm] 24))
 have Hx:=Lib.hid hx
 clear hx
 go_enter Tryz.func161,Tryz.ntmps161
 go_wp2_with fail
 refine (rIs_any P M am mn cm x _).mono ?_
 rintro e w2 ⟨rfl,hb2⟩
 rw [Hx.out]
 go_wp2_with fail
 go_ret
 exact ⟨rfl,Below.next Hal.out hb2⟩
end

section
open Go.RowKit
set_option maxRecDepth 100000 in
set_option maxHeartbeats 1600000 in
theorem rDigits_any (P : Int) (m : Nat) (am : Option Addr) (mn cm : Nat) (x : Int) (w : World) (hf : RF P m) (hx : isQ (orderS P m) x=true) :
  Calls Tryz.prog 114 #[.agg #[.int .i64 P,.int .i64 m,.slice am mn cm],.int .i64 x] w (NewInts w (digs x P m)):=by
 have hx0 : 0≤x∧x<256:=by
  have h1:=hf.order
  have h2:=hf.pw
  unfold isQ at hx
  simp only [Bool.and_eq_true,decide_eq_true_eq] at hx
  omega
 have hp1 : 1≤P:=by have:=hf.p2;omega
 have hm:=hf.m8
 have Hx:=Lib.hid hx
 clear hx
 go_enter Tryz.func114,Tryz.ntmps114
 go_wp2_with fail
 obtain ⟨W,hW⟩ : ∃ W : World,W=w.alloc (.cells #[.int .i64 P,.int .i64 m,.slice am mn cm] 24):=⟨_,rfl⟩
 rw [← hW]
 have hbW : Below w.heap.size w W:=by rw [hW];exact below1 _ _
 have x0 : Box W w.heap.size [.int .i64 P,.int .i64 m,.slice am mn cm]:=by rw [hW];exact Box.new _ _ _ rfl
 have HX:=Lib.hid x0
 clear hW x0
 have hS : ∀ V,Below W.heap.size W V→V.cell? ⟨w.heap.size,0,none⟩=some (.int .i64 P)∧V.cell? ⟨w.heap.size,1,none⟩=some (.int .i64 m)∧V.cell? ⟨w.heap.size,2,none⟩=some (.slice am mn cm)∧Below W.heap.size W V:=by
  intro V hV
  have x1:=HX.out.keep hV
  exact ⟨x1.cell 0 rfl,x1.cell 1 rfl,x1.cell 2 rfl,hV⟩
 have HS:=Lib.hid hS
 have HbW:=Lib.hid hbW
 clear hS hbW
 go_region_held3 (fun V=>V.cell? ⟨w.heap.size,0,none⟩=some (.int .i64 P)∧V.cell? ⟨w.heap.size,1,none⟩=some (.int .i64 m)∧V.cell? ⟨w.heap.size,2,none⟩=some (.slice am mn cm)∧Below W.heap.size W V)
  ((refine HS.out _ ?_;first | exact (Below.refl _ _).drew | (go_split_ands;exact Below.next (by assumption) (by assumption))))
  (first
   | (go_at_call 161;((with_reducible refine (rIn_any P m am mn cm x _ Hx.out).mono ?_);rintro e w4 ⟨rfl,hb4⟩))
   | (go_at_call 160;((with_reducible refine (rdigits_any x P m _ hx0.1 (by omega) hp1 (by omega)).mono ?_);rintro e w5 ⟨a5,c5,rfl,hown5,hb5⟩)))
 all_goals (
  have hsz : w.heap.size≤w4.heap.size:=by
   have h1:=HbW.out.size
   have h2:=hb4.size
   have h3 : W.drew.heap.size=W.heap.size:=rfl
   omega
  have Hown:=Lib.hid (own_mono hown5 hsz)
  clear hown5
  go_wp2_with fail
  go_ret
  exact ⟨a5,c5,rfl,Hown.out,Below.next HbW.out (by go_split_ands;assumption)⟩)
set_option maxRecDepth 100000 in
set_option maxHeartbeats 1600000 in
theorem rValue_any (P : Int) (M : Int) (am : Option Addr) (mn cm : Nat) (a : Option Addr) (n c : Nat) (l : List Int) (w : World) (h : Ints w a n l) (hn : n≤1000) (hP1 : 0≤P) (hP : P≤256)
  (hb : ∀ k,0≤valu P (l.drop k) * P∧valu P (l.drop k) * P≤1000000000∧0≤nth l k∧nth l k≤1000000000) :
  Calls Tryz.prog 115 #[.agg #[.int .i64 P,.int .i64 M,.slice am mn cm],.slice a n c] w fun e w'=>e = .returned (.int .i64 (valu P l))∧Below w.heap.size w w':=by
 have HB:=Lib.hid hb
 have Hlen:=Lib.hid h.len
 clear hb
 go_enter Tryz.func115,Tryz.ntmps115
 go_wp2_with fail
 obtain ⟨W,hW⟩ : ∃ W : World,W=w.alloc (.cells #[.int .i64 P,.int .i64 M,.slice am mn cm] 24):=⟨_,rfl⟩
 rw [← hW]
 have hbW : Below w.heap.size w W:=by rw [hW];exact below1 _ _
 have x0 : W.cell? ⟨w.heap.size,0,none⟩=some (.int .i64 P):=by rw [hW];exact cell_alloc_at _ _ _ rfl 0
 clear hW
 have hW:=h.keep hbW
 have hpl:=hW.pl
 go_loopw [5,6] (fun xv iv wr=>∃ k : Nat,k≤n∧iv = .int .i64 ((k : Int) - 1)∧xv = .int .i64 (valu P (l.drop k))∧Drawn W wr) (fun _ i _=>(intOf i+1).toNat)
 case atStart=>exact ⟨n,Nat.le_refl _,rfl,by rw [List.drop_of_length_le (by rw [Hlen.out];exact Nat.le_refl _)];rfl,Drawn.refl _⟩
 case round =>
  obtain ⟨k,hk,rfl,rfl,hd⟩:=hrel
  by_cases hlt : 0<k
  ·obtain ⟨j,rfl⟩ : ∃ j,k=j+1:=⟨k - 1,by omega⟩
   have hc:=(hW.drawn hd).cell j (by omega)
   have c0:=hd.cell x0
   have hjl : j<l.length:=by rw [Hlen.out];omega
   obtain ⟨b1,b2,b3,b4⟩ : 0≤valu P (l.drop (j+1)) * P∧valu P (l.drop (j+1)) * P≤1000000000∧0≤nth l j∧nth l j≤1000000000:=⟨(HB.out (j+1)).1,(HB.out (j+1)).2.1,(HB.out j).2.2⟩
   have e1 : ((j+1 : Nat) : Int) - 1=(j : Int):=by omega
   rw [e1]
   clear e1 hlt
   have hfin : valu P (l.drop (j+1)) * P+nth l j=valu P (l.drop j):=by
    rw [drop_nth l j hjl];simp only [valu];rw [Int.mul_comm P,Int.add_comm]
   generalize valu P (l.drop (j+1))=X at *
   generalize nth l j=Y at *
   have Hfin:=Lib.hid hfin
   clear hfin
   have e1 : (0 : Int)≤j:=by omega
   have e2 : (j : Int)<n:=by omega
   have r1 : IntKind.i64.wrap (X * P)=X * P:=IntWalk.i64_in _ (by omega)
   have r2 : IntKind.i64.wrap (X * P+Y)=X * P+Y:=IntWalk.i64_in _ (by omega)
   go_wp2_with fail
   go_quiet (fail)
   clear r1 r2
   go_wp2
   go_roundw
   case rel=>exact ⟨j,by omega,by go_num,by rw [← Hfin.out],hd.drewN _⟩
   case measure=>simp [intOf] <;> omega
  ·obtain rfl : k=0:=by omega
   go_wp2_with fail
   go_ret
   exact ⟨by simp,Below.next hbW hd.below⟩
def addD (P : Int) (a b : List Int) : List Int:=List.zipWith (fun u v=>(u+v) % P) a b
theorem valu_addD {P : Int} : ∀ (m : Nat) (x y : Int),valu P (addD P (digs x P m) (digs y P m))=fsum P m x y
 | 0,_,_=>rfl
 | m+1,x,y=>by
  simp only [digs,addD,List.zipWith_cons_cons,valu,fsum]
  have:=valu_addD (P:=P) m (x / P) (y / P)
  unfold addD at this
  rw [this,Int.add_emod x y]
theorem valu_negD {P : Int} : ∀ (m : Nat) (x : Int),valu P (negD P (digs x P m))=fneg P m x
 | 0,_=>rfl
 | m+1,x=>by
  simp only [digs,negD,List.map_cons,valu,fneg]
  have:=valu_negD (P:=P) m (x / P)
  unfold negD at this
  rw [this]
end

section
open Go.RowKit
theorem digs_b {P : Int} {m : Nat} (hf : RF P m) (x : Int) (i : Nat) : 0≤nth (digs x P m) i∧nth (digs x P m) i<P:=Dig.digs (by have:=hf.p2;omega) m x i
set_option maxRecDepth 100000 in
set_option maxHeartbeats 1600000 in
theorem rAdd_any (P : Int) (m : Nat) (am : Option Addr) (mn cm : Nat) (x y : Int) (w : World) (hf : RF P m) (hx : isQ (orderS P m) x=true) (hy : isQ (orderS P m) y=true) :
  Calls Tryz.prog 63 #[.agg #[.int .i64 P,.int .i64 m,.slice am mn cm],.int .i64 x,.int .i64 y] w fun e w'=>e = .returned (.int .i64 (fsum P m x y))∧Below w.heap.size w w':=by
 have hp2:=hf.p2
 have hp256:=hf.p256
 have hm8:=hf.m8
 have Hx:=Lib.hid hx
 have Hy:=Lib.hid hy
 have Hdx:=Lib.hid (digs_length P m x)
 have Hdy:=Lib.hid (digs_length P m y)
 have Hbx:=Lib.hid (digs_b hf x)
 have Hby:=Lib.hid (digs_b hf y)
 have hNl : (addD P (digs x P m) (digs y P m)).length=m:=by simp [addD,digs_length]
 have hNn : ∀ i,i<m→nth (addD P (digs x P m) (digs y P m)) i=(nth (digs x P m) i+nth (digs y P m) i) % P:=fun i hi=>by
  rw [nth_getElem (by rw [hNl];exact hi),nth_getElem (by rw [digs_length];exact hi),nth_getElem (by rw [digs_length];exact hi)]
  simp [addD]
 have hNg : Dig P (addD P (digs x P m) (digs y P m)):=Dig.zip (by omega) (fun u v=>u+v) (digs x P m) (digs y P m)
 have hNd:=Dig.bds hf hNg hNl
 have HNl:=Lib.hid hNl
 have HNn:=Lib.hid hNn
 have HNd:=Lib.hid hNd
 have HNv:=Lib.hid (valu_addD (P:=P) m x y)
 clear hx hy hNl hNn hNd hNg
 go_enter Tryz.func63,Tryz.ntmps63
 go_wp2_with fail
 obtain ⟨W,hW⟩ : ∃ W : World,W=w.alloc (.cells #[.int .i64 P,.int .i64 m,.slice am mn cm] 24):=⟨_,rfl⟩
 rw [← hW]
 have hbW : Below w.heap.size w W:=by rw [hW];exact below1 _ _
 have x0 : Box W w.heap.size [.int .i64 P,.int .i64 m,.slice am mn cm]:=by rw [hW];exact Box.new _ _ _ rfl
 have HX:=Lib.hid x0
 have hsW : w.heap.size<W.heap.size:=x0.1
 clear hW x0
 refine (rDigits_any P m am mn cm x W hf Hx.out).mono ?_
 rintro e w1 ⟨a1,c1,rfl,hown1,hb1⟩
 have x1:=HX.out.keep hb1
 have d0:=x1.cell 0 rfl
 have d1:=x1.cell 1 rfl
 have d2:=x1.cell 2 rfl
 rw [Hdx.out] at hown1 ⊢
 clear x1
 go_wp2_with fail
 refine (rDigits_any P m am mn cm y w1 hf Hy.out).mono ?_
 rintro e w2 ⟨a2,c2,rfl,hown2,hb2⟩
 rw [Hdy.out] at hown2 ⊢
 have hs1:=hb1.size
 have hown1':=own_keep hown1 hb2
 have hap : a1 ≠ none→ablk a1<w1.heap.size:=fun h0=>(own_ne hown1 h0).2
 have hi2:=(Ints.own hown2).1
 have hlo2 : 0<m→w1.heap.size≤ablk a2:=fun h0=>(own_lt_pos hown2 h0).1
 have hap1 : a1 ≠ none→W.heap.size≤ablk a1:=fun h0=>(own_ne hown1 h0).1
 have hb12:=Below.next hb1 hb2
 have hpl2:=hi2.pl
 obtain ⟨D,hD⟩ : ∃ D,digs x P m=D:=⟨_,rfl⟩
 obtain ⟨E,hE⟩ : ∃ E,digs y P m=E:=⟨_,rfl⟩
 rw [hD] at hown1' Hdx Hbx HNl HNn HNd HNv
 rw [hE] at hi2 Hdy Hby HNl HNn HNd HNv
 obtain ⟨NN,hNN⟩ : ∃ NN,addD P D E=NN:=⟨_,rfl⟩
 rw [hNN] at HNl HNn HNd HNv
 clear hD hE hNN hown1 hown2
 go_wp2_with fail
 go_loopw [9] (fun iv wr=>∃ k : Nat,k≤m∧iv = .int .i64 k∧wr.ownsRow W.heap.size 3 1 (.slice a1 m c1) m ((mixTo NN D k).map (Value.int .i64))∧Only a1 w2 wr) (fun iv _=>m - (intOf iv).toNat)
 case atStart=>exact ⟨0,Nat.zero_le _,rfl,by rw [mixTo_zero];exact hown1',Only.refl _ _⟩
 case round =>
  obtain ⟨k,hk,rfl,hown,honly⟩:=hrel
  have hbr : Below W.heap.size W wr:=hb12.trans (honly.below hap1 (by have:=hb2.size;omega))
  by_cases hlt : k<m
  ·obtain ⟨hi1,hm1⟩:=Ints.own hown
   have hi2r:=honly.ints hi2 (by
    by_cases h0 : a1=none
    ·exact .inl h0
    ·exact .inr (.inr (by have h1:=hap h0;have h2:=hlo2 (by omega);omega)))
   have ca:=hi1.cell k hlt
   have cb:=hi2r.cell k hlt
   have fa:=(hm1 (by omega)).2 k hlt
   have hpl1:=hi1.pl
   have hkN : NN.length=D.length:=by rw [HNl.out,Hdx.out]
   have hkD : k<D.length:=by rw [Hdx.out];exact hlt
   have hmix:=nth_mixTo NN D k k hkN (by omega)
   rw [if_neg (by omega)] at hmix
   rw [hmix] at ca
   have hset:=mixTo_set NN D k hkN hkD
   have Hset:=Lib.hid hset
   have x1:=HX.out.keep hbr
   have d0:=x1.cell 0 rfl
   have b1:=Hbx.out k
   have b2:=Hby.out k
   have hP0 : P ≠ 0:=by omega
   have r5 : IntKind.i64.wrap (nth D k+nth E k)=nth D k+nth E k:=IntWalk.i64_in _ (by omega)
   have r6 : (nth D k+nth E k).tmod P=(nth D k+nth E k) % P:=IntWalk.rem_in _ _ (by omega)
   have R7:=Lib.hid (HNn.out k hlt)
   clear hmix hset hkN hkD x1
   go_wp2_with fail
   go_still_tail 15,(by kernel_rfl)
   change wpList _ _ _ _ _ wr.drew
   generalize hwd : wr.drew=wd
   have fd : wd.frozen? ⟨ablk a1,aoff a1+k,none⟩=false:=by rw [← hwd];exact fa
   have cd : wd.cell? ⟨ablk a1,aoff a1+k,none⟩=some (.int .i64 (nth D k)):=by rw [← hwd];exact ca
   have Hwd:=Lib.hid hwd
   clear hwd r5 r6
   go_wp2_with fail
   go_roundw
   case rel =>
    obtain rfl:=Hwd.out
    have hdr : Drawn wr wr.drew:=(Drawn.refl wr).drew
    refine ⟨k+1,by omega,by go_num,?_,honly.trans ((Only.drawn hdr).trans (Only.set _ k _ (by intro e;have:=hpl1 (by omega);rw [e] at this;cases this)))⟩
    have h1:=own_set (w:=wr.drew) hown k hlt (.int .i64 ((nth D k+nth E k) % P))
    rw [← List.map_set,← R7.out,Hset.out] at h1
    rw [← R7.out]
    exact h1
   case measure=>simp [intOf] <;> omega
  ·obtain rfl : k=m:=by omega
   rw [mixTo_all NN D k HNl.out Hdx.out] at hown
   have hi1:=(Ints.own hown).1
   have x1:=HX.out.keep hbr
   have d0:=x1.cell 0 rfl
   have d1:=x1.cell 1 rfl
   have d2:=x1.cell 2 rfl
   clear x1
   go_wp2_with fail
   refine (rValue_any P k am mn cm a1 k c1 NN wr hi1 (by omega) (by omega) (by omega) HNd.out).mono ?_
   rintro e w4 ⟨rfl,hb4⟩
   go_wp2_with fail
   go_ret
   exact ⟨ret_int HNv.out,Below.next (Below.next hbW hbr) hb4⟩
set_option maxRecDepth 100000 in
set_option maxHeartbeats 1600000 in
theorem rNeg_any (P : Int) (m : Nat) (am : Option Addr) (mn cm : Nat) (x : Int) (w : World) (hf : RF P m) (hx : isQ (orderS P m) x=true) :
  Calls Tryz.prog 176 #[.agg #[.int .i64 P,.int .i64 m,.slice am mn cm],.int .i64 x] w fun e w'=>e = .returned (.int .i64 (fneg P m x))∧Below w.heap.size w w':=by
 have hp2:=hf.p2
 have hp256:=hf.p256
 have hm8:=hf.m8
 have Hx:=Lib.hid hx
 have Hdx:=Lib.hid (digs_length P m x)
 have Hbx:=Lib.hid (digs_b hf x)
 have hNl : (negD P (digs x P m)).length=m:=by simp [negD,digs_length]
 have hNn : ∀ i,i<m→nth (negD P (digs x P m)) i=(P - nth (digs x P m) i) % P:=fun i hi=>by
  rw [nth_getElem (by rw [hNl];exact hi),nth_getElem (by rw [digs_length];exact hi)]
  simp [negD]
 have hNd:=Dig.bds hf (Dig.mapD (by omega) (digs x P m)) hNl
 have HNl:=Lib.hid hNl
 have HNn:=Lib.hid hNn
 have HNd:=Lib.hid hNd
 have HNv:=Lib.hid (valu_negD (P:=P) m x)
 clear hx hNl hNn hNd
 go_enter Tryz.func176,Tryz.ntmps176
 go_wp2_with fail
 obtain ⟨W,hW⟩ : ∃ W : World,W=w.alloc (.cells #[.int .i64 P,.int .i64 m,.slice am mn cm] 24):=⟨_,rfl⟩
 rw [← hW]
 have hbW : Below w.heap.size w W:=by rw [hW];exact below1 _ _
 have x0 : Box W w.heap.size [.int .i64 P,.int .i64 m,.slice am mn cm]:=by rw [hW];exact Box.new _ _ _ rfl
 have HX:=Lib.hid x0
 have hsW : w.heap.size<W.heap.size:=x0.1
 clear hW x0
 refine (rDigits_any P m am mn cm x W hf Hx.out).mono ?_
 rintro e w2 ⟨a1,c1,rfl,hown1,hb1⟩
 rw [Hdx.out] at hown1 ⊢
 have hs1:=hb1.size
 have hap1 : a1 ≠ none→W.heap.size≤ablk a1:=fun h0=>(own_ne hown1 h0).1
 obtain ⟨D,hD⟩ : ∃ D,digs x P m=D:=⟨_,rfl⟩
 rw [hD] at hown1 Hdx Hbx HNl HNn HNd HNv
 obtain ⟨NN,hNN⟩ : ∃ NN,negD P D=NN:=⟨_,rfl⟩
 rw [hNN] at HNl HNn HNd HNv
 clear hD hNN
 go_wp2_with fail
 go_loopw [6] (fun iv wr=>∃ k : Nat,k≤m∧iv = .int .i64 k∧wr.ownsRow W.heap.size 3 1 (.slice a1 m c1) m ((mixTo NN D k).map (Value.int .i64))∧Only a1 w2 wr) (fun iv _=>m - (intOf iv).toNat)
 case atStart=>exact ⟨0,Nat.zero_le _,rfl,by rw [mixTo_zero];exact hown1,Only.refl _ _⟩
 case round =>
  obtain ⟨k,hk,rfl,hown,honly⟩:=hrel
  have hbr : Below W.heap.size W wr:=hb1.trans (honly.below hap1 (by omega))
  by_cases hlt : k<m
  ·obtain ⟨hi1,hm1⟩:=Ints.own hown
   have ca:=hi1.cell k hlt
   have fa:=(hm1 (by omega)).2 k hlt
   have hpl1:=hi1.pl
   have hkN : NN.length=D.length:=by rw [HNl.out,Hdx.out]
   have hkD : k<D.length:=by rw [Hdx.out];exact hlt
   have hmix:=nth_mixTo NN D k k hkN (by omega)
   rw [if_neg (by omega)] at hmix
   rw [hmix] at ca
   have hset:=mixTo_set NN D k hkN hkD
   have Hset:=Lib.hid hset
   have x1:=HX.out.keep hbr
   have d0:=x1.cell 0 rfl
   have b1:=Hbx.out k
   have hP0 : P ≠ 0:=by omega
   have r5 : IntKind.i64.wrap (P - nth D k)=P - nth D k:=IntWalk.i64_in _ (by omega)
   obtain ⟨Z,hZ⟩ : ∃ Z,(P - nth D k) % P=Z:=⟨_,rfl⟩
   have r6 : (P - nth D k).tmod P=Z:=by rw [← hZ];exact IntWalk.rem_in _ _ (by omega)
   have R7 : Hid (nth NN k=Z):=by show _=_;rw [← hZ];exact HNn.out k hlt
   clear hZ
   clear hmix hset hkN hkD x1
   go_wp2_with fail
   go_still_tail 13,(by kernel_rfl)
   change wpList _ _ _ _ _ wr.drew
   generalize hwd : wr.drew=wd
   have fd : wd.frozen? ⟨ablk a1,aoff a1+k,none⟩=false:=by rw [← hwd];exact fa
   have cd : wd.cell? ⟨ablk a1,aoff a1+k,none⟩=some (.int .i64 (nth D k)):=by rw [← hwd];exact ca
   have Hwd:=Lib.hid hwd
   clear hwd r5 r6
   go_wp2_with fail
   go_roundw
   case rel =>
    obtain rfl:=Hwd.out
    have hdr : Drawn wr wr.drew:=(Drawn.refl wr).drew
    refine ⟨k+1,by omega,by go_num,?_,honly.trans ((Only.drawn hdr).trans (Only.set _ k _ (by intro e;have:=hpl1 (by omega);rw [e] at this;cases this)))⟩
    have h1:=own_set (w:=wr.drew) hown k hlt (.int .i64 Z)
    rw [← List.map_set,← R7.out,Hset.out] at h1
    rw [← R7.out]
    exact h1
   case measure=>simp [intOf] <;> omega
  ·obtain rfl : k=m:=by omega
   rw [mixTo_all NN D k HNl.out Hdx.out] at hown
   have hi1:=(Ints.own hown).1
   have x1:=HX.out.keep hbr
   have d0:=x1.cell 0 rfl
   have d1:=x1.cell 1 rfl
   have d2:=x1.cell 2 rfl
   clear x1
   go_wp2_with fail
   refine (rValue_any P k am mn cm a1 k c1 NN wr hi1 (by omega) (by omega) (by omega) HNd.out).mono ?_
   rintro e w4 ⟨rfl,hb4⟩
   go_wp2_with fail
   go_ret
   exact ⟨ret_int HNv.out,Below.next (Below.next hbW hbr) hb4⟩
end

section
open Go.RowKit
def cvJ (P : Int) (a b : List Int) (i : Nat) (c : List Int) : Nat→List Int
 | 0=>c
 | j+1=>(cvJ P a b i c j).set (i+j) ((nth (cvJ P a b i c j) (i+j)+nth a i * nth b j) % P)
def cvI (P : Int) (a b : List Int) (M n : Nat) : Nat→List Int
 | 0=>List.replicate n 0
 | i+1=>cvJ P a b i (cvI P a b M n i) M
def rdJ (P : Int) (M : Nat) (mod : List Int) (i : Nat) (c : List Int) : Nat→List Int
 | 0=>c
 | j+1=>(rdJ P M mod i c j).set (i - M+j) ((nth (rdJ P M mod i c j) (i - M+j)+(P - nth (rdJ P M mod i c j) i) * nth mod j) % P)
def rdT (P : Int) (M : Nat) (mod : List Int) (c : List Int) : Nat→List Int
 | 0=>c
 | k+1=>rdJ P M mod (2 * M - 2 - k) (rdT P M mod c k) M
def mulL (P : Int) (M : Nat) (mod : List Int) (a b : List Int) : List Int:=(rdT P M mod (cvI P a b M (2 * M - 1) M) (M - 1)).take M
def mulR (P : Int) (M : Nat) (mod : List Int) (x y : Int) : Int:=valu P (mulL P M mod (digs x P M) (digs y P M))
theorem cvJ_len (P : Int) (a b : List Int) (i : Nat) (c : List Int) : ∀ j,(cvJ P a b i c j).length=c.length
 | 0=>rfl
 | j+1=>by rw [cvJ,List.length_set,cvJ_len P a b i c j]
theorem cvJ_dig {P : Int} (hP : 0<P) (a b : List Int) (i : Nat) {c : List Int} (h : Dig P c) : ∀ j,Dig P (cvJ P a b i c j)
 | 0=>h
 | j+1=>Dig.setMod hP (cvJ_dig hP a b i h j) _ _
theorem cvI_len (P : Int) (a b : List Int) (M n : Nat) : ∀ i,(cvI P a b M n i).length=n
 | 0=>by simp [cvI]
 | i+1=>by rw [cvI,cvJ_len,cvI_len P a b M n i]
theorem cvI_dig {P : Int} (hP : 0<P) (a b : List Int) (M n : Nat) : ∀ i,Dig P (cvI P a b M n i)
 | 0=>Dig.replicate hP n
 | i+1=>cvJ_dig hP a b i (cvI_dig hP a b M n i) M
theorem rdJ_len (P : Int) (M : Nat) (mod : List Int) (i : Nat) (c : List Int) : ∀ j,(rdJ P M mod i c j).length=c.length
 | 0=>rfl
 | j+1=>by rw [rdJ,List.length_set,rdJ_len P M mod i c j]
theorem rdJ_dig {P : Int} (hP : 0<P) (M : Nat) (mod : List Int) (i : Nat) {c : List Int} (h : Dig P c) : ∀ j,Dig P (rdJ P M mod i c j)
 | 0=>h
 | j+1=>Dig.setMod hP (rdJ_dig hP M mod i h j) _ _
theorem rdT_len (P : Int) (M : Nat) (mod : List Int) (c : List Int) : ∀ k,(rdT P M mod c k).length=c.length
 | 0=>rfl
 | k+1=>by rw [rdT,rdJ_len,rdT_len P M mod c k]
theorem rdT_dig {P : Int} (hP : 0<P) (M : Nat) (mod : List Int) {c : List Int} (h : Dig P c) : ∀ k,Dig P (rdT P M mod c k)
 | 0=>h
 | k+1=>rdJ_dig hP M mod _ (rdT_dig hP M mod h k) M
theorem mulL_len (P : Int) {M : Nat} (mod : List Int) (a b : List Int) (hM : 1≤M) : (mulL P M mod a b).length=M:=by
 unfold mulL;rw [List.length_take,rdT_len,cvI_len];omega
theorem mulL_dig {P : Int} (hP : 0<P) (M : Nat) (mod : List Int) (a b : List Int) : Dig P (mulL P M mod a b):=Dig.take hP (rdT_dig hP M mod (cvI_dig hP a b M _ M) _) M
set_option maxRecDepth 100000 in
set_option maxHeartbeats 4000000 in
theorem rMul_any (P : Int) (m : Nat) (am : Option Addr) (mn cm : Nat) (mod : List Int) (x y : Int) (w : World) (hf : RF P m) (hmod : Mods w P m am mn mod) (hx : isQ (orderS P m) x=true) (hy : isQ (orderS P m) y=true) :
  Calls Tryz.prog 64 #[.agg #[.int .i64 P,.int .i64 m,.slice am mn cm],.int .i64 x,.int .i64 y] w fun e w'=>e = .returned (.int .i64 (mulR P m mod x y))∧Below w.heap.size w w':=by
 have hp2:=hf.p2
 have hp256:=hf.p256
 have hm1:=hf.m1
 have hm8:=hf.m8
 have Hx:=Lib.hid hx
 have Hy:=Lib.hid hy
 have Hdx:=Lib.hid (digs_length P m x)
 have Hdy:=Lib.hid (digs_length P m y)
 have Hbx:=Lib.hid (digs_b hf x)
 have Hby:=Lib.hid (digs_b hf y)
 have Hbm:=Lib.hid hmod.dig
 have hplm:=hmod.ints.pl
 have Hlow:=Lib.hid hmod.low
 obtain ⟨n,hn⟩ : ∃ n : Nat,2 * m - 1=n:=⟨_,rfl⟩
 have hn1 : m≤n:=by omega
 have hn2 : n≤15:=by omega
 have Hn:=Lib.hid hn
 have hnv : 2 * (m : Int) - 1=n:=by omega
 have hnv2 : 2 * (m : Int) - 2=(n : Int) - 1:=by omega
 have Hnv2:=Lib.hid hnv2
 clear hx hy hn hnv2
 go_enter Tryz.func64,Tryz.ntmps64
 go_wp2_with fail
 obtain ⟨W,hW⟩ : ∃ W : World,W=w.alloc (.cells #[.int .i64 P,.int .i64 m,.slice am mn cm] 24):=⟨_,rfl⟩
 rw [← hW]
 have hbW : Below w.heap.size w W:=by rw [hW];exact below1 _ _
 have x0 : Box W w.heap.size [.int .i64 P,.int .i64 m,.slice am mn cm]:=by rw [hW];exact Box.new _ _ _ rfl
 have HX:=Lib.hid x0
 clear hW x0
 have hmW:=hmod.keep hbW
 refine (rDigits_any P m am mn cm x W hf Hx.out).mono ?_
 rintro e w1 ⟨a1,c1,rfl,hown1,hb1⟩
 have x1:=HX.out.keep hb1
 have d0:=x1.cell 0 rfl
 have d1:=x1.cell 1 rfl
 have d2:=x1.cell 2 rfl
 rw [Hdx.out] at hown1 ⊢
 clear x1
 go_wp2_with fail
 refine (rDigits_any P m am mn cm y w1 hf Hy.out).mono ?_
 rintro e w2 ⟨a2,c2,rfl,hown2,hb2⟩
 rw [Hdy.out] at hown2 ⊢
 have hb12:=Below.next hb1 hb2
 have x1:=HX.out.keep hb12
 have d0:=x1.cell 0 rfl
 have d1:=x1.cell 1 rfl
 have d2:=x1.cell 2 rfl
 have hi1:=((Ints.own hown1).1).keep hb2
 have hi2:=(Ints.own hown2).1
 have hpl1:=hi1.pl
 have hpl2:=hi2.pl
 have hm2:=hmW.keep hb12
 obtain ⟨D,hD⟩ : ∃ D,digs x P m=D:=⟨_,rfl⟩
 obtain ⟨E,hE⟩ : ∃ E,digs y P m=E:=⟨_,rfl⟩
 have HR : Hid (mulR P m mod x y=valu P (mulL P m mod D E)):=by show _=_;rw [mulR,hD,hE]
 rw [hD] at hi1 Hdx Hbx
 rw [hE] at hi2 Hdy Hby
 clear hD hE hown1 hown2 x1
 go_wp2_with (at_make;refine wpList_mk rfl _ _ 22 3 rfl (.int .i64 0) 8 Tryz.underlying22 infoInt rfl n rfl rfl (by omega) (by unfold maxLen;omega) ?_;intro a3 w3 hown3 hb3 hge3 hlt3;have d0:=cell_keep hb3 d0;have d1:=cell_keep hb3 d1;have d2:=cell_keep hb3 d2)
 have hP : 0<P:=by omega
 have hS : ∀ V,Below w2.heap.size w2 V→V.cell? ⟨w.heap.size,0,none⟩=some (.int .i64 P)∧V.cell? ⟨w.heap.size,1,none⟩=some (.int .i64 m)∧V.cell? ⟨w.heap.size,2,none⟩=some (.slice am mn cm)∧Ints V a1 m D∧Ints V a2 m E∧Ints V am mn mod:=by
  intro V hV
  have x1:=(HX.out.keep hb12).keep hV
  exact ⟨x1.cell 0 rfl,x1.cell 1 rfl,x1.cell 2 rfl,hi1.keep hV,hi2.keep hV,hm2.ints.keep hV⟩
 have HS:=Lib.hid hS
 have HC : Hid (List.replicate n (Value.int .i64 0)=(cvI P D E m n 0).map (Value.int .i64)):=by show _=_;simp [cvI]
 rw [HC.out] at hown3
 have ha3 : a3 ≠ none→w2.heap.size≤ablk a3:=fun _=>hge3
 have hb23:=hb12.trans (hb3.mono hb12.size)
 clear hS d0 d1 d2 hi1 hi2 hm2
 go_loopw [10] (fun iv wr=>∃ i : Nat,i≤m∧iv = .int .i64 i∧wr.ownsRow w2.heap.size 3 1 (.slice a3 n n) n ((cvI P D E m n i).map (Value.int .i64))∧Only a3 w3 wr) (fun iv _=>m - (intOf iv).toNat)
 case atStart=>exact ⟨0,Nat.zero_le _,rfl,hown3,Only.refl _ _⟩
 case round =>
  obtain ⟨i,hi,rfl,hown,honly⟩:=hrel
  have hbr : Below w2.heap.size w2 wr:=hb3.trans (honly.below ha3 hb3.size)
  obtain ⟨d0,d1,d2,j1,j2,j3⟩:=HS.out wr hbr
  by_cases hlt : i<m
  ·have Hci : Hid (cvI P D E m n (i+1)=cvJ P D E i (cvI P D E m n i) m):=rfl
   have Hcd : Hid (Dig P (cvI P D E m n i)):=cvI_dig hP D E m n i
   have Hcl : Hid ((cvI P D E m n i).length=n):=cvI_len P D E m n i
   obtain ⟨C,hC⟩ : ∃ C,cvI P D E m n i=C:=⟨_,rfl⟩
   rw [hC] at hown Hci Hcd Hcl
   clear hC
   go_wp2_with fail
   go_loopw [11] (fun iv wr=>∃ j : Nat,j≤m∧iv = .int .i64 j∧wr.ownsRow w2.heap.size 3 1 (.slice a3 n n) n ((cvJ P D E i C j).map (Value.int .i64))∧Only a3 w3 wr) (fun iv _=>m - (intOf iv).toNat)
   case atStart=>exact ⟨0,Nat.zero_le _,rfl,hown,honly⟩
   case round =>
    obtain ⟨j,hj,rfl,hown2,honly2⟩:=hrel
    have hbr2 : Below w2.heap.size w2 wr:=hb3.trans (honly2.below ha3 hb3.size)
    obtain ⟨d0,d1,d2,j1,j2,j3⟩:=HS.out wr hbr2
    by_cases hlt2 : j<m
    ·have Hcj : Hid (cvJ P D E i C (j+1)=(cvJ P D E i C j).set (i+j) ((nth (cvJ P D E i C j) (i+j)+nth D i * nth E j) % P)):=rfl
     have hcd:=cvJ_dig hP D E i Hcd.out j (i+j)
     obtain ⟨T,hT⟩ : ∃ T,cvJ P D E i C j=T:=⟨_,rfl⟩
     rw [hT] at hown2 Hcj hcd
     clear hT
     have hij : i+j<n:=by have:=Hn.out;omega
     obtain ⟨it,mt⟩:=Ints.own hown2
     have ct:=it.cell (i+j) hij
     have ft:=(mt (by omega)).2 (i+j) hij
     have hplt:=it.pl
     have cD:=j1.cell i hlt
     have cE:=j2.cell j hlt2
     have bD:=Hbx.out i
     have bE:=Hby.out j
     have hme:=mul_bd bD.1 (show nth D i≤256 by omega) bE.1 (show nth E j≤256 by omega)
     have hP0 : P ≠ 0:=by omega
     obtain ⟨k,hk⟩ : ∃ k,i+j=k:=⟨_,rfl⟩
     rw [hk] at ct ft Hcj hcd hij
     obtain ⟨Z,hZ⟩ : ∃ Z,(nth T k+nth D i * nth E j) % P=Z:=⟨_,rfl⟩
     have Hcj2 : Hid (cvJ P D E i C (j+1)=T.set k Z):=by show _=_;rw [Hcj.out,hZ]
     have r1 : IntKind.i64.wrap ((i : Int)+j)=(k : Int):=by rw [IntWalk.i64_in _ (by omega)];omega
     have r2 : IntKind.i64.wrap (nth D i * nth E j)=nth D i * nth E j:=IntWalk.i64_in _ (by omega)
     have r3 : IntKind.i64.wrap (nth T k+nth D i * nth E j)=nth T k+nth D i * nth E j:=IntWalk.i64_in _ (by omega)
     have r4 : (nth T k+nth D i * nth E j).tmod P=Z:=by rw [← hZ];exact IntWalk.rem_in _ _ (by omega)
     have q1 : (0 : Int)≤k:=by omega
     have q2 : (k : Int)<n:=by omega
     clear hZ hk Hcj
     go_wp2_with fail
     go_still_tail 24,(by kernel_rfl)
     change wpList _ _ _ _ _ wr.drew
     generalize hwd : wr.drew=wd
     have fd : wd.frozen? ⟨ablk a3,aoff a3+k,none⟩=false:=by rw [← hwd];exact ft
     have cd : wd.cell? ⟨ablk a3,aoff a3+k,none⟩=some (.int .i64 (nth T k)):=by rw [← hwd];exact ct
     have Hwd:=Lib.hid hwd
     clear hwd r1 r2 r3 r4
     go_wp2_with fail
     go_roundw
     case rel =>
      obtain rfl:=Hwd.out
      have hdr : Drawn wr wr.drew:=(Drawn.refl wr).drew
      refine ⟨j+1,by omega,by go_num,?_,honly2.trans ((Only.drawn hdr).trans (Only.set _ k _ (by intro e;have:=hplt (by omega);rw [e] at this;cases this)))⟩
      have h1:=own_set (w:=wr.drew) hown2 k hij (.int .i64 Z)
      rw [← List.map_set,← Hcj2.out] at h1
      exact h1
     case measure=>simp [intOf] <;> omega
    ·obtain rfl : j=m:=by omega
     go_wp2_with fail
     go_roundw
     case rel=>exact ⟨i+1,by omega,by go_num,by rw [Hci.out];exact hown2,honly2⟩
     case measure=>simp [intOf] <;> omega
  ·obtain rfl : i=m:=by omega
   have hw2:=Hnv2.out
   obtain ⟨C,hC⟩ : ∃ C,cvI P D E i n i=C:=⟨_,rfl⟩
   have Hcd : Hid (Dig P C):=by show Dig P C;rw [← hC];exact cvI_dig hP D E i n i
   have Hcl : Hid (C.length=n):=by show _=_;rw [← hC];exact cvI_len P D E i n i
   have HL : Hid (mulL P i mod D E=(rdT P i mod C (i - 1)).take i):=by show _=_;rw [mulL,Hn.out,hC]
   rw [hC] at hown
   clear hC
   go_wp2_with fail
   clear hw2 hnv
   go_loopw [12] (fun iv wr=>∃ k t : Nat,t+k+1=n∧k≤i - 1∧iv = .int .i64 t∧wr.ownsRow w2.heap.size 3 1 (.slice a3 n n) n ((rdT P i mod C k).map (Value.int .i64))∧Only a3 w3 wr) (fun iv _=>(intOf iv).toNat)
   case atStart=>exact ⟨0,n - 1,by omega,by omega,by congr 1;omega,hown,honly⟩
   case round =>
    obtain ⟨k,t,htk,hk,rfl,hownk,honlyk⟩:=hrel
    have hbk : Below w2.heap.size w2 wr:=hb3.trans (honlyk.below ha3 hb3.size)
    obtain ⟨d0,d1,d2,j1,j2,j3⟩:=HS.out wr hbk
    by_cases hti : i≤t
    ·have hn':=Hn.out
     have hi1 : 1<i:=by omega
     have hmn:=Hlow.out hi1
     have Hrk : Hid (rdT P i mod C (k+1)=rdJ P i mod t (rdT P i mod C k) i):=by show _=_;rw [rdT,show 2 * i - 2 - k=t by omega]
     have Hrd : Hid (Dig P (rdT P i mod C k)):=rdT_dig hP i mod Hcd.out k
     have Hrl : Hid ((rdT P i mod C k).length=n):=by show _=_;rw [rdT_len];exact Hcl.out
     obtain ⟨C2,hC2⟩ : ∃ C2,rdT P i mod C k=C2:=⟨_,rfl⟩
     rw [hC2] at hownk Hrk Hrd Hrl
     have Htk:=Lib.hid htk
     clear hC2 hn'
     go_wp2_with fail
     go_loopw [13] (fun iv wr=>∃ j : Nat,j≤i∧iv = .int .i64 j∧wr.ownsRow w2.heap.size 3 1 (.slice a3 n n) n ((rdJ P i mod t C2 j).map (Value.int .i64))∧Only a3 w3 wr) (fun iv _=>i - (intOf iv).toNat)
     case atStart=>exact ⟨0,Nat.zero_le _,rfl,hownk,honlyk⟩
     case round =>
      obtain ⟨j,hj,rfl,hown2,honly2⟩:=hrel
      have hbr2 : Below w2.heap.size w2 wr:=hb3.trans (honly2.below ha3 hb3.size)
      obtain ⟨d0,d1,d2,j1,j2,j3⟩:=HS.out wr hbr2
      by_cases hlt2 : j<i
      ·have Hcj : Hid (rdJ P i mod t C2 (j+1)=(rdJ P i mod t C2 j).set (t - i+j) ((nth (rdJ P i mod t C2 j) (t - i+j)+(P - nth (rdJ P i mod t C2 j) t) * nth mod j) % P)):=rfl
       have hcd:=rdJ_dig hP i mod t Hrd.out j
       obtain ⟨T,hT⟩ : ∃ T,rdJ P i mod t C2 j=T:=⟨_,rfl⟩
       rw [hT] at hown2 Hcj hcd
       clear hT
       obtain ⟨it,mt⟩:=Ints.own hown2
       obtain ⟨u,hu⟩ : ∃ u,t - i+j=u:=⟨_,rfl⟩
       have hun : u<n:=by omega
       have htn : t<n:=by omega
       have hjmn : j<mn:=by omega
       have ct:=it.cell u hun
       have ctt:=it.cell t htn
       have cM:=j3.cell j hjmn
       have ft:=(mt (by omega)).2 u hun
       have hplt:=it.pl
       have b1:=hcd u
       have b2:=hcd t
       have b3:=Hbm.out j
       have hme:=mul_bd (show 0≤P - nth T t by omega) (show P - nth T t≤256 by omega) b3.1 (show nth mod j≤256 by omega)
       have hP0 : P ≠ 0:=by omega
       rw [hu] at Hcj
       obtain ⟨Z,hZ⟩ : ∃ Z,(nth T u+(P - nth T t) * nth mod j) % P=Z:=⟨_,rfl⟩
       have Hcj2 : Hid (rdJ P i mod t C2 (j+1)=T.set u Z):=by show _=_;rw [Hcj.out,hZ]
       obtain ⟨v,hv⟩ : ∃ v,t - i=v:=⟨_,rfl⟩
       have r0 : IntKind.i64.wrap ((t : Int) - i)=(v : Int):=by rw [IntWalk.i64_in _ (by omega)];omega
       have r1 : IntKind.i64.wrap ((v : Int)+j)=(u : Int):=by rw [IntWalk.i64_in _ (by omega)];omega
       have r2 : IntKind.i64.wrap (P - nth T t)=P - nth T t:=IntWalk.i64_in _ (by omega)
       have r3 : IntKind.i64.wrap ((P - nth T t) * nth mod j)=(P - nth T t) * nth mod j:=IntWalk.i64_in _ (by omega)
       have r4 : IntKind.i64.wrap (nth T u+(P - nth T t) * nth mod j)=nth T u+(P - nth T t) * nth mod j:=IntWalk.i64_in _ (by omega)
       have r5 : (nth T u+(P - nth T t) * nth mod j).tmod P=Z:=by rw [← hZ];exact IntWalk.rem_in _ _ (by omega)
       have q1 : (0 : Int)≤u:=by omega
       have q2 : (u : Int)<n:=by omega
       have q3 : (t : Int)<n:=by omega
       have q4 : (j : Int)<mn:=by omega
       clear hZ hu hv Hcj htk hmn
       go_wp2_with fail
       go_still_tail 34,(by kernel_rfl)
       change wpList _ _ _ _ _ wr.drew
       generalize hwd : wr.drew=wd
       have fd : wd.frozen? ⟨ablk a3,aoff a3+u,none⟩=false:=by rw [← hwd];exact ft
       have cd : wd.cell? ⟨ablk a3,aoff a3+u,none⟩=some (.int .i64 (nth T u)):=by rw [← hwd];exact ct
       have Hwd:=Lib.hid hwd
       clear hwd r0 r1 r2 r3 r4 r5
       go_wp2_with fail
       go_roundw
       case rel =>
        obtain rfl:=Hwd.out
        have hdr : Drawn wr wr.drew:=(Drawn.refl wr).drew
        refine ⟨j+1,by omega,by go_num,?_,honly2.trans ((Only.drawn hdr).trans (Only.set _ u _ (by intro e;have:=hplt (by omega);rw [e] at this;cases this)))⟩
        have h1:=own_set (w:=wr.drew) hown2 u hun (.int .i64 Z)
        rw [← List.map_set,← Hcj2.out] at h1
        exact h1
       case measure=>simp [intOf] <;> omega
      ·obtain rfl : j=i:=by omega
       go_wp2_with fail
       go_roundw
       case rel=>exact ⟨k+1,t - 1,by have:=Htk.out;omega,by have:=Htk.out;have:=Hn.out;omega,by congr 1;omega,by rw [Hrk.out];exact hown2,honly2⟩
       case measure=>simp [intOf] <;> omega
    ·have hki : k=i - 1:=by have:=Hn.out;omega
     have hfin : Hid (valu P ((rdT P i mod C k).take i)=mulR P i mod x y):=by show _=_;rw [HR.out,HL.out,hki]
     have hdig : Dig P ((rdT P i mod C k).take i):=Dig.take hP (rdT_dig hP i mod Hcd.out k) i
     have hlen : ((rdT P i mod C k).take i).length=i:=by rw [List.length_take,rdT_len,Hcl.out];omega
     have hbd:=Dig.bds hf hdig hlen
     have hit:=(Ints.own hownk).1
     have hin : i≤n:=hn1
     have hit2 : Ints wr a3 i ((rdT P i mod C k).take i):=hit.take hin
     have Hbd:=Lib.hid hbd
     have hin' : (i : Int)≤n:=by omega
     have hbwr : Below w.heap.size w wr:=(Below.next hbW hb12).trans (hbk.mono (by have h1:=hb12.size;have h2:=hbW.size;omega))
     have hS2 : ∀ V,Below wr.heap.size wr V→V.cell? ⟨w.heap.size,0,none⟩=some (.int .i64 P)∧V.cell? ⟨w.heap.size,1,none⟩=some (.int .i64 i)∧V.cell? ⟨w.heap.size,2,none⟩=some (.slice am mn cm)∧Below wr.heap.size wr V :=
      fun V hV=>⟨cell_keep hV d0,cell_keep hV d1,cell_keep hV d2,hV⟩
     have HS2:=Lib.hid hS2
     have Hit2 : Hid (∀ V,Below wr.heap.size wr V→Ints V a3 i ((rdT P i mod C k).take i)):=fun V hV=>hit2.keep hV
     clear hki hlen hdig hbd hS2 hit hit2 htk
     go_wp2_with fail
     go_region_held3 (fun V=>V.cell? ⟨w.heap.size,0,none⟩=some (.int .i64 P)∧V.cell? ⟨w.heap.size,1,none⟩=some (.int .i64 i)∧V.cell? ⟨w.heap.size,2,none⟩=some (.slice am mn cm)∧Below wr.heap.size wr V)
      ((refine HS2.out _ ?_;first | exact (Below.refl _ _).drew | (go_split_ands;exact Below.next (by assumption) (by assumption))))
      (first
       | (go_at_call 115;((with_reducible refine (rValue_any P i am mn cm a3 i n _ _ (Hit2.out _ (Below.refl _ _).drew) (by omega) (by omega) (by omega) Hbd.out).mono ?_);rintro e w4 ⟨rfl,hb4⟩)))
     go_wp2_with fail
     go_ret
     exact ⟨ret_int hfin.out,Below.next hbwr (by go_split_ands;assumption)⟩
end

section
open Go.RowKit
theorem mulR_el {P : Int} {m : Nat} (h : RF P m) (mod : List Int) (x y : Int) : ElP P m (mulR P m mod x y):=by
 have hP : 0<P:=by have:=h.p2;omega
 have:=valu_bd hP (mulL P m mod (digs x P m) (digs y P m)) (mulL_dig hP m mod _ _)
 rwa [mulL_len P mod _ _ h.m1] at this
def invTo (f : Int→Int) : Nat→Int→Int
 | 0,_=>0
 | n+1,y=>if f y=1 then y else invTo f n (y+1)
def invR (P : Int) (m : Nat) (mod : List Int) (x : Int) : Int:=invTo (mulR P m mod x) ((orderS P m).toNat - 1) 1
def rops (P : Int) (m : Nat) (mod : List Int) : FOps:=⟨fsum P m,mulR P m mod,fneg P m,invR P m mod⟩
theorem invTo_bd (f : Int→Int) : ∀ (n : Nat) (y : Int),0≤y→0≤invTo f n y∧(invTo f n y<y+n∨invTo f n y=0)
 | 0,y,h=>by simp [invTo]
 | n+1,y,h=>by
  unfold invTo
  split
  ·omega
  ·have:=invTo_bd f n (y+1) (by omega)
   omega
theorem invR_el {P : Int} {m : Nat} (h : RF P m) (mod : List Int) (x : Int) : ElP P m (invR P m mod x):=by
 have h1:=invTo_bd (mulR P m mod x) ((orderS P m).toNat - 1) 1 (by omega)
 have h2:=h.order
 have h3:=one_lt_pow h.res
 unfold invR ElP
 omega
theorem rcl {P : Int} {m : Nat} (h : RF P m) (mod : List Int) : FCl (rops P m mod) (ElP P m) :=
 ⟨fun x y _ _=>fsum_el h.res x y,fun x y _ _=>mulR_el h mod x y,fun x _=>fneg_el h.res x,fun x _ _=>invR_el h mod x⟩
set_option maxRecDepth 100000 in
set_option maxHeartbeats 1600000 in
theorem rInv_any (P : Int) (m : Nat) (am : Option Addr) (mn cm : Nat) (mod : List Int) (x : Int) (w : World) (hf : RFld w P m am mn mod) (hx : ElP P m x) :
  Calls Tryz.prog 210 #[.agg #[.int .i64 P,.int .i64 m,.slice am mn cm],.int .i64 x] w fun e w'=>e = .returned (.int .i64 (invR P m mod x))∧Below w.heap.size w w':=by
 have hrf:=hf.rf
 have Hq:=Lib.hid (hrf.isQ hx)
 have hord:=hrf.order
 have h256:=hrf.pw
 obtain ⟨q,hq⟩ : ∃ q : Nat,P ^ m=q:=⟨(P ^ m).toNat,by have:=one_lt_pow hrf.res;omega⟩
 have hq2 : 2≤q:=by have:=one_lt_pow hrf.res;omega
 have hord2 : orderS P m=q:=by rw [hord,hq]
 have Hord:=Lib.hid hord2
 have HI : Hid (invR P m mod x=invTo (mulR P m mod x) (q - 1) 1):=by show _=_;rw [invR,hord2];simp
 have Hel : Hid (∀ k : Nat,k<q→isQ (orderS P m) k=true):=fun k hk=>hrf.isQ ⟨by omega,by rw [hq];omega⟩
 have hq256 : q≤256:=by omega
 clear hord hq hord2 h256
 go_enter Tryz.func210,Tryz.ntmps210
 go_wp2_with fail
 obtain ⟨W,hW⟩ : ∃ W : World,W=w.alloc (.cells #[.int .i64 P,.int .i64 m,.slice am mn cm] 24):=⟨_,rfl⟩
 rw [← hW]
 have hbW : Below w.heap.size w W:=by rw [hW];exact below1 _ _
 have x0 : Box W w.heap.size [.int .i64 P,.int .i64 m,.slice am mn cm]:=by rw [hW];exact Box.new _ _ _ rfl
 have HX:=Lib.hid x0
 clear hW x0
 have hfW:=hf.keep hbW
 go_loopw [5] (fun yv wr=>∃ y : Nat,1≤y∧y≤q∧yv = .int .i64 y∧Hid (invR P m mod x=invTo (mulR P m mod x) (q - y) y)∧Below W.heap.size W wr) (fun yv _=>q - (intOf yv).toNat)
 case atStart=>exact ⟨1,by omega,by omega,rfl,by show _=_;rw [HI.out];rfl,Below.refl _ _⟩
 case round =>
  obtain ⟨y,hy1,hyq,rfl,hinv,hbr⟩:=hrel
  have x1:=HX.out.keep hbr
  have d0:=x1.cell 0 rfl
  have d1:=x1.cell 1 rfl
  have d2:=x1.cell 2 rfl
  clear x1
  go_wp2_with fail
  refine (rOrder_any P m am mn cm wr).mono ?_
  rintro e w1 ⟨rfl,hb1⟩
  rw [Hord.out]
  have hbr1:=Below.next hbr hb1
  have x1:=HX.out.keep hbr1
  have d0:=x1.cell 0 rfl
  have d1:=x1.cell 1 rfl
  have d2:=x1.cell 2 rfl
  clear x1
  by_cases hlt : y<q
  ·have hlt' : (y : Int)<q:=by omega
   have hst : invTo (mulR P m mod x) (q - y) y=if mulR P m mod x y=1 then (y : Int) else invTo (mulR P m mod x) (q - (y+1)) (y+1):=by
    rw [show q - y=(q - (y+1))+1 by omega,invTo]
   have Hst:=Lib.hid hst
   clear hst
   go_wp2_with fail
   refine (rMul_any P m am mn cm mod x y w1 hrf ((hfW.keep hbr1).mods) Hq.out (Hel.out y hlt)).mono ?_
   rintro e w2 ⟨rfl,hb2⟩
   have hbr2:=Below.next hbr1 hb2
   by_cases h1 : mulR P m mod x y=1
   ·have Hf : Hid (invR P m mod x=y):=by show _=_;rw [hinv.out,Hst.out,if_pos h1]
    rw [h1]
    clear h1
    go_wp2_with fail
    go_ret
    exact ⟨ret_int Hf.out.symm,Below.next hbW hbr2⟩
   ·have Hf : Hid (invR P m mod x=invTo (mulR P m mod x) (q - (y+1)) ((y+1 : Nat) : Int)):=by show _=_;rw [hinv.out,Hst.out,if_neg h1];rfl
    have h1' : (mulR P m mod x y == 1)=false:=by simpa using h1
    clear h1
    go_wp2_with fail
    go_roundw
    case rel=>exact ⟨y+1,by omega,by omega,by go_num,Hf.out,hbr2⟩
    case measure=>simp [intOf] <;> omega
  ·obtain rfl : y=q:=by omega
   have Hf : Hid (invR P m mod x=0):=by show _=_;rw [hinv.out,Nat.sub_self];rfl
   go_wp2_with fail
   go_ret
   exact ⟨ret_int Hf.out.symm,Below.next hbW hbr1⟩
set_option maxRecDepth 100000 in
set_option maxHeartbeats 1600000 in
theorem rScale_any (P : Int) (m : Nat) (am : Option Addr) (mn cm : Nat) (mod : List Int) (s : Int) (a : Option Addr) (n c : Nat) (l : List Int) (w : World) (hf : RFld w P m am mn mod) (hs : ElP P m s) (hi : Ints w a n l) (hl : ∀ x ∈ l,ElP P m x) (hn : n≤1000000) :
  Calls Tryz.prog 209 #[.agg #[.int .i64 P,.int .i64 m,.slice am mn cm],.int .i64 s,.slice a n c] w (NewInts w (l.map (mulR P m mod s))):=by
 have hrf:=hf.rf
 have Hs:=Lib.hid (hrf.isQ hs)
 have Hlen:=Lib.hid hi.len
 have hpl:=hi.pl
 have Hl : Hid (∀ k,k<n→isQ (orderS P m) (nth l k)=true):=fun k hk=>hrf.isQ (hl _ (nth_mem (by rw [hi.len];exact hk)))
 clear hl
 go_enter Tryz.func209,Tryz.ntmps209
 go_wp2_with (at_make;refine wpList_mk rfl _ _ 22 3 rfl (.int .i64 0) 8 Tryz.underlying22 infoInt rfl n rfl rfl (by omega) (by unfold maxLen;omega) ?_;intro a1 w1 hown hbel hge hlt)
 obtain ⟨W,hW⟩ : ∃ W : World,W=w.alloc (.cells #[.int .i64 P,.int .i64 m,.slice am mn cm] 24):=⟨_,rfl⟩
 rw [← hW] at hown hbel hge
 have hbW : Below w.heap.size w W:=by rw [hW];exact below1 _ _
 have x0 : Box W w.heap.size [.int .i64 P,.int .i64 m,.slice am mn cm]:=by rw [hW];exact Box.new _ _ _ rfl
 have hfW:=hf.keep hbW
 have hiW:=hi.keep hbW
 have hS : ∀ k,k<n→∀ V,Below W.heap.size W V→V.cell? ⟨w.heap.size,0,none⟩=some (.int .i64 P)∧V.cell? ⟨w.heap.size,1,none⟩=some (.int .i64 m)∧V.cell? ⟨w.heap.size,2,none⟩=some (.slice am mn cm) ∧
   V.cell? ⟨ablk a,aoff a+k,none⟩=some (.int .i64 (nth l k))∧Below W.heap.size W V:=by
  intro k hk V hV
  have x1:=x0.keep hV
  exact ⟨x1.cell 0 rfl,x1.cell 1 rfl,x1.cell 2 rfl,(hiW.keep hV).cell k hk,hV⟩
 have HS:=Lib.hid hS
 clear hW x0 hS
 go_loopw [8] (fun iv wr=>∃ k : Nat,k≤n∧iv = .int .i64 k ∧
   wr.ownsRow W.heap.size 3 1 (.slice a1 n n) n ((fillTo ((l.take k).map (mulR P m mod s)) k n).map (Value.int .i64))∧Below W.heap.size W wr)
  (fun i _=>n - (intOf i).toNat)
 case atStart=>exact ⟨0,Nat.zero_le _,rfl,by simpa [fillTo] using hown,hbel⟩
 case round =>
  obtain ⟨k,hk,rfl,hown,hbel⟩:=hrel
  obtain ⟨hints,hmine⟩:=Ints.own hown
  have hpl1:=hints.pl
  by_cases hlt : k<n
  ·have HSk : Hid (∀ V, Below W.heap.size W V → V.cell? ⟨w.heap.size, 0, none⟩ = some (.int .i64 P) ∧ V.cell? ⟨w.heap.size, 1, none⟩ = some (.int .i64 m) ∧ V.cell? ⟨w.heap.size, 2, none⟩ = some (.slice am mn cm) ∧
     V.cell? ⟨ablk a,aoff a+k,none⟩=some (.int .i64 (nth l k))∧Below W.heap.size W V):=HS.out k hlt
   have hB:=(hmine (by omega)).1
   have HB:=Lib.hid hB
   have Hbel:=Lib.hid hbel
   have HK : Hid (∀ V,Below wr.drew.heap.size wr.drew V→(∃ v,V.cell? ⟨ablk a1,aoff a1+k,none⟩=some v)∧V.frozen? ⟨ablk a1,aoff a1+k,none⟩=false∧Below wr.heap.size wr V):=fun V hV=>by
    have hV' : Below wr.heap.size wr V:=Below.next (Below.refl _ _).drew hV
    have ho:=own_keep hown hV'
    exact ⟨⟨_,(Ints.own ho).1.cell k hlt⟩,((Ints.own ho).2 (by omega)).2 k hlt,hV'⟩
   have hmd:=(hfW.keep hbel).mods
   have Hmd : Hid (Mods wr.drew P m am mn mod):=hmd.keep (Below.refl _ _).drew
   clear hB hbel hmd
   go_wp2_with fail
   go_region_held3 (fun V=>V.cell? ⟨w.heap.size,0,none⟩=some (.int .i64 P)∧V.cell? ⟨w.heap.size,1,none⟩=some (.int .i64 m)∧V.cell? ⟨w.heap.size,2,none⟩=some (.slice am mn cm) ∧
     V.cell? ⟨ablk a,aoff a+k,none⟩=some (.int .i64 (nth l k))∧Below W.heap.size W V)
    ((refine HSk.out _ ?_;first | exact Hbel.out.drew | exact Below.next Hbel.out hb9 | exact (Below.next Hbel.out hb9).setCell HB.out _))
    (first
     | (go_at_call 64;((with_reducible refine (rMul_any P m am mn cm mod s (nth l k) _ hrf Hmd.out Hs.out (Hl.out k hlt)).mono ?_);rintro e w4 ⟨rfl,hb4⟩;obtain ⟨⟨v9,k9⟩,f9,hb9⟩:=HK.out w4 hb4)))
   clear k9 f9
   go_wp2_with fail
   go_roundw
   case rel =>
    refine ⟨k+1,by omega,by go_num,?_,(Below.next Hbel.out hb9).setCell HB.out _⟩
    have h:=own_set (own_keep hown hb9) k hlt (.int .i64 (mulR P m mod s (nth l k)))
    rw [← List.map_set,fillTo_set _ _ _ _ (by simp [Hlen.out];omega) hlt] at h
    rw [List.take_succ_eq_append_getElem (by rw [Hlen.out];omega),List.map_append]
    rw [nth_getElem (by rw [Hlen.out];omega)] at h ⊢
    exact h
   case measure=>simp [intOf] <;> omega
  ·obtain rfl : k=n:=by omega
   have hfin : fillTo ((l.take k).map (mulR P m mod s)) k k=l.map (mulR P m mod s):=by
    rw [fillTo_all,List.take_of_length_le (by rw [Hlen.out];exact Nat.le_refl _)]
   rw [hfin] at hown
   have Hl2 : Hid ((l.map (mulR P m mod s)).length=k):=by show _=_;simp [Hlen.out]
   clear hfin
   go_wp2_with fail
   go_ret
   exact ⟨a1,k,by rw [Hl2.out];rfl,by rw [Hl2.out];exact own_mono hown hbW.size,Below.next hbW hbel⟩
end

section
namespace Fld

variable {O : FOps} {El : Int→Prop} (F : Fld O El)
include F
end Fld
variable {O : FOps} {El : Int→Prop} {n : Nat}
theorem clV_clo (F : Fld O El) {c : Nat→List Int} (hc : ∀ i,Vc El n (c i)) : Clo (clV O El n c) where
 mem l x hx φ _ h:=h x hx
 mono l l' h y hy φ hφ h0:=hy φ hφ fun x hx=>h x hx φ hφ h0
 exch l x y h hn:=by
  intro b hb h0
  apply Classical.byContradiction
  intro hbx
  apply hn
  intro a ha ha0
  apply Classical.byContradiction
  intro hay
  have hax : a (c x) ≠ 0:=fun e=>hay (h a ha fun z hz=>by
   rcases List.mem_cons.1 hz with rfl | hz
   ·exact e
   ·exact ha0 z hz)
  have h1:=ha.el _ (hc x)
  have h2:=hb.el _ (hc x)
  have hbi:=F.cl.inv _ h2 hbx
  have hs:=F.cl.mul _ _ hbi h1
  have:=h _ (ha.comb F hb hs) fun z hz=>by
   rcases List.mem_cons.1 hz with rfl | hz
   ·show O.add (a (c z)) (O.neg (O.mul (b (c z)) (O.mul (O.inv (b (c z))) (a (c z)))))=0
    rw [← F.mul_assoc _ _ _ h2 hbi h1,F.mul_inv _ h2 hbx,F.one_mul _ h1,F.add_neg _ h1]
   ·show O.add (a (c z)) (O.neg (O.mul (b (c z)) _))=0
    rw [ha0 z hz,h0 z (List.mem_cons.2 (.inr hz)),F.zmul hs,F.nzero,F.add_zero 0 F.zero]
  have h3 : O.add (a (c y)) (O.neg (O.mul (b (c y)) (O.mul (O.inv (b (c x))) (a (c x)))))=0:=this
  rw [h0 y (by simp),F.zmul hs,F.nzero,F.add_zero _ (ha.el _ (hc y))] at h3
  exact hay h3
namespace BS.Inv

variable {s : BS}
end BS.Inv
theorem col_clo (F : Fld O El) {m : Nat} {L : List (List Int)} (hL : Rws El m L) : Clo (clV O El L.length (colS L)):=clV_clo F (colS_vc hL F.zero)
end

section
section
variable {O : FOps} {El : Int→Prop} {m n : Nat}
section
variable {L : List (List Int)} {t k c : Nat}
variable (F : Fld O El) (hL : Rws El m L) (ht : t<L.length) (hk : k<L.length) (hc : c<m) (h0 : nth (nthR L k) c ≠ 0)
include F hL ht hk hc h0
end
theorem piv_rk (F : Fld O El) {L : List (List Int)} (hL : Rws El m L) : Rk (clV O El L.length (colS L)) (List.range m) (elimTo O L m).2.length:=by
 obtain ⟨h1,h2,h3⟩:=elim_inv F hL m (Nat.le_refl _)
 have hR:=elim_rws F hL m (Nat.le_refl _)
 have hC:=col_clo F hR
 have k1:=(h1.ind F _ (Nat.le_refl _)).absorb hC (List.range m) fun x hx=>h1.all F hR (List.mem_range.1 hx)
 have k2:=Rk.map (cl':=clV O El L.length (colS L)) (fun y=>y<m) id (fun l x hl hx=>by rw [List.map_id];exact ⟨h3.cl hl hx,h2.cl hl hx⟩) k1 fun y hy=>by
  rcases List.mem_append.1 hy with hy | hy
  ·exact List.mem_range.1 hy
  ·obtain ⟨j,hj,rfl⟩:=(mem_grL _ _ _).1 hy
   have:=h1.lt j hj
   omega
 obtain ⟨r,hr⟩:=Rk.ex (clV O El L.length (colS L)) (List.range m)
 have e:=Rk.same (col_clo F hL) k2 hr fun x=>by
  rw [List.map_id,List.mem_append]
  constructor
  ·rintro (h | h)
   ·exact h
   ·obtain ⟨j,hj,rfl⟩:=(mem_grL _ _ _).1 h
    have:=h1.lt j hj
    exact List.mem_range.2 (by omega)
  ·exact .inl
 rw [e];exact hr
theorem pick_rk (F : Fld O El) {L : List (List Int)} (hL : Rws El n L) {Q : List Int} (hQ : ∀ j,j<Q.length→0≤nth Q j∧nth Q j<n) :
  Rk (clV O El L.length (colS L)) ((List.range Q.length).map fun j=>(nth Q j).toNat) (elimTo O (L.map (pickL Q)) Q.length).2.length:=by
 have hR:=pick_rws hL hQ
 have hcol : ∀ j,j<Q.length→colS (L.map (pickL Q)) j=colS L (nth Q j).toNat:=fun j hj=>by
  unfold colS
  rw [List.map_map]
  exact List.map_congr_left fun r _=>nth_pickL Q r hj
 refine Rk.map (fun j=>j<Q.length) _ (fun l x hl hx=>?_) (piv_rk F hR) fun y hy=>List.mem_range.1 hy
 unfold clV
 rw [List.length_map]
 constructor
 ·intro h φ hφ h0
  rw [← hcol x hx]
  refine h φ hφ fun y hy=>?_
  rw [hcol y (hl y hy)]
  exact h0 _ (List.mem_map.2 ⟨y,hy,rfl⟩)
 ·intro h φ hφ h0
  rw [hcol x hx]
  refine h φ hφ fun y hy=>?_
  obtain ⟨j,hj,rfl⟩:=List.mem_map.1 hy
  rw [← hcol j (hl j hj)]
  exact h0 j hj
end
end

section
theorem swp_perm {X : List Int} {j : Nat} (h0 : 0<j) (hj : j<X.length) : (swp X j).Perm X:=by
 obtain ⟨A,u,v,C,rfl,hA⟩ : ∃ A u v C,X=A ++ u :: v :: C∧A.length+1=j:=by
  refine ⟨X.take (j - 1),X[j - 1],X[j],X.drop (j+1),?_,by rw [List.length_take];omega⟩
  have h1 : X.drop (j - 1)=X[j - 1] :: X.drop j:=by
   rw [List.drop_eq_getElem_cons (by omega)]
   congr 2;omega
  rw [← List.drop_eq_getElem_cons hj,← h1,List.take_append_drop]
 subst hA
 have h1 : nth (A ++ u :: v :: C) A.length=u:=by unfold nth;simp
 have h2 : nth (A ++ u :: v :: C) (A.length+1)=v:=by unfold nth;simp [List.getElem?_append]
 have h3 : swp (A ++ u :: v :: C) (A.length+1)=A ++ v :: u :: C:=by
  unfold swp
  rw [Nat.add_sub_cancel,h1,h2]
  simp [List.set_append]
 rw [h3]
 exact List.Perm.append_left A (List.Perm.swap u v C)
end

end Go.Proofs.YtcflcogbpnmjeaaGreat
