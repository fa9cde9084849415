/-  -/
import Derived.Test.YtcflcogbpnmjeaaGreatK24
import Derived.Test.YtcflcogbpnmjeaaGreatK21
import Derived.Laws.Bits64
import Derived.Laws.Bits64b
import Derived.Test.YtcflcogbpnmjeaaGreatK18
import Derived.Test.YtcflcogbpnmjeaaGreatK20
import Derived.Test.YtcflcogbpnmjeaaGreatK22
namespace Go.Proofs.YtcflcogbpnmjeaaGreat
set_option linter.unusedVariables false
set_option linter.unusedSimpArgs false
set_option linter.unusedSectionVars false

section
open Go.RowKit
theorem and17_i64 (x i : Nat) (hx : x<131072) : bits .and .i64 ((x : Int) / 2 ^ i) 1=((x / 2 ^ i % 2 : Nat) : Int):=by
 have h0 : x / 2 ^ i≤x:=Nat.div_le_self _ _
 have e : ((x : Int) / 2 ^ i)=((x / 2 ^ i : Nat) : Int):=by simp
 rw [e]
 generalize x / 2 ^ i=y at *
 have h1 : (BitVec.ofInt 64 (y : Int)).toNat=y:=by
  rw [BitVec.ofInt_natCast,BitVec.toNat_ofNat];exact Nat.mod_eq_of_lt (by omega)
 have h2 : (BitVec.ofInt 64 1).toNat=1:=by decide
 show IntKind.i64.wrap ((BitVec.ofInt 64 (y : Int) &&& BitVec.ofInt 64 1).toNat : Int)=_
 rw [BitVec.toNat_and,h1,h2,Nat.and_one_is_mod]
 exact IntWalk.i64_in _ (by omega)
theorem bits_stop {x k : Nat} (h : x / 2 ^ k=0) : ∀ d,bitsTo x (k+d)=bitsTo x k
 | 0=>rfl
 | d+1=>by
  have ih:=bits_stop h d
  have hx : x<2 ^ k:=by
   rcases Nat.lt_or_ge x (2 ^ k) with h1 | h1
   ·exact h1
   ·have:=Nat.div_pos h1 (Nat.two_pow_pos k);omega
  have hb : x.testBit (k+d)=false:=Nat.testBit_lt_two_pow (Nat.lt_of_lt_of_le hx (Nat.pow_le_pow_right (by omega) (by omega)))
  rw [show k+(d+1)=(k+d)+1 by omega,bitsTo,if_neg (by rw [hb];decide),ih]
set_option maxHeartbeats 2000000 in
theorem hlist_any (x n : Nat) (hx : x<2 ^ n) (hn : n≤16) (w : World) : Calls Tryz.prog 73 #[.int .i64 x] w (NewInts w (bitsTo x n)):=by
 have hx17 : x<131072:=by
  have : 2 ^ n≤2 ^ 16:=Nat.pow_le_pow_right (by omega) hn
  omega
 have Hend : Hid (x / 2 ^ n=0):=Nat.div_eq_of_lt hx
 clear hx
 go_enter Tryz.func73,Tryz.ntmps73
 go_wp2_with fail
 go_loopw [3,4] (fun sv iv wr=>∃ (k : Nat) (aq : Option Addr) (cq : Nat),k≤n∧iv = .int .i64 k∧sv = .slice aq (bitsTo x k).length cq∧wr.ownsRow w.heap.size 3 1 (.slice aq (bitsTo x k).length cq) (bitsTo x k).length ((bitsTo x k).map (Value.int .i64))∧Below w.heap.size w wr)
  (fun _ iv _=>n - (intOf iv).toNat)
 case atStart=>exact ⟨0,none,0,Nat.zero_le _,rfl,rfl,own_none,Below.refl _ _⟩
 case round =>
  obtain ⟨k,aq,cq,hk,rfl,rfl,hop,hbr⟩:=hrel
  have hlen:=bitsTo_len x k
  by_cases hz : x / 2 ^ k=0
  ·have hz' : decide ((0 : Int)<(x : Int) / 2 ^ k)=false:=by
    have e : ((x : Int) / 2 ^ k)=((x / 2 ^ k : Nat) : Int):=by simp
    rw [e,hz];simp
   have Hb : Hid (bitsTo x n=bitsTo x k):=by
    show _=_
    obtain ⟨d,rfl⟩ : ∃ d,n=k+d:=⟨n - k,by omega⟩
    exact bits_stop hz d
   clear hz
   go_wp2_with fail
   go_ret
   exact ⟨aq,cq,by rw [Hb.out];rfl,by rw [Hb.out];exact hop,hbr⟩
  ·have hlt : k<n:=by
    rcases Nat.lt_or_ge k n with h | h
    ·exact h
    ·exact absurd (by rw [show k=n by omega];exact Hend.out) hz
   have hz' : decide ((0 : Int)<(x : Int) / 2 ^ k)=true:=by
    have e : ((x : Int) / 2 ^ k)=((x / 2 ^ k : Nat) : Int):=by simp
    rw [e]
    have h0 : 0<x / 2 ^ k:=Nat.pos_of_ne_zero hz
    exact decide_eq_true (Int.natCast_pos.2 h0)
   have hand:=and17_i64 x k hx17
   have htb:=testBit_div x k
   by_cases ht : x.testBit k=true
   ·have hb : Hid (bitsTo x (k+1)=bitsTo x k ++ [(k : Int)]):=by show _=_;rw [bitsTo,if_pos ht]
    have h1 : x / 2 ^ k % 2=1:=by rw [ht] at htb;simpa using htb.symm
    rw [h1] at hand
    clear ht htb h1 hz
    generalize bitsTo x k=out at *
    have hcn:=cell_new wr (.int .i64 k) 3
    have hbn:=below1 wr (.cells #[.int .i64 k] 3)
    have hsz:=hbr.size
    go_wp2_with (at_builtin;refine wpList_push rfl _ _ 22 3 rfl (.int .i64 0) 8 Tryz.underlying22 infoInt rfl w.heap.size aq out.length cq _ rfl (hop.alloc _) ⟨wr.heap.size,0,none⟩ 1 (.int .i64 k) rfl hcn rfl (by omega) (by unfold maxLen;omega) (by simp;omega) ?_;intro a5 c5 w5 hown5 hgr5 hap5)
    go_roundw
    case rel =>
     refine ⟨k+1,a5,c5,by omega,by go_num,by rw [hb.out];simp,?_,Below.app (Below.trans hbr (hbn.mono hsz)) (hop.alloc _) hgr5 (Nat.le_refl _) (Nat.le_trans hsz hbn.size)⟩
     rw [hb.out];simpa using hown5
    case measure=>simp [intOf] <;> omega
   ·have hb : Hid (bitsTo x (k+1)=bitsTo x k):=by show _=_;rw [bitsTo,if_neg ht]
    have h1 : x / 2 ^ k % 2=0:=by
     have h2:=Nat.mod_two_eq_zero_or_one (x / 2 ^ k)
     have h3 : ¬ x / 2 ^ k % 2=1:=fun h=>by rw [h] at htb;simp at htb;exact ht htb
     omega
    rw [h1] at hand
    clear ht htb h1 hz
    generalize bitsTo x k=out at *
    go_wp2_with fail
    go_roundw
    case rel=>exact ⟨k+1,aq,cq,by omega,by go_num,by rw [hb.out],by rw [hb.out];exact hop,hbr⟩
    case measure=>simp [intOf] <;> omega
theorem isNaN_any (x : Int) (w : World) : Calls Tryz.prog 207 #[.int .i64 x] w fun e w'=>e = .returned (.bool false)∧w=w':=by
 go_enter Tryz.func207,Tryz.ntmps207
 go_wp2
 go_ret
 exact ⟨by simp,rfl⟩
def cmp1 (x y : Int) : Int:=if x<y then -1 else if y<x then 1 else 0
set_option maxHeartbeats 1000000 in
theorem cmpInt_any (x y : Int) (w : World) : Calls Tryz.prog 172 #[.int .i64 x,.int .i64 y] w fun e w'=>e = .returned (.int .i64 (cmp1 x y))∧w=w':=by
 obtain ⟨r,hr⟩ : ∃ r,cmp1 x y=r:=⟨_,rfl⟩
 rw [hr]
 go_enter Tryz.func172,Tryz.ntmps172
 unfold cmp1 at hr
 by_cases h1 : x<y
 ·have d1 : decide (x<y)=true:=by simpa using h1
  rw [if_pos h1] at hr
  clear h1
  go_wp2_with (go_at_call 207;refine (isNaN_any _ _).mono ?_;rintro e w' ⟨rfl,rfl⟩)
  go_ret
  exact ⟨by rw [← hr];rfl,rfl⟩
 ·have d1 : decide (x<y)=false:=by simpa using h1
  rw [if_neg h1] at hr
  by_cases h2 : y<x
  ·have d2 : decide (y<x)=true:=by simpa using h2
   rw [if_pos h2] at hr
   clear h1 h2
   go_wp2_with (go_at_call 207;refine (isNaN_any _ _).mono ?_;rintro e w' ⟨rfl,rfl⟩)
   go_ret
   exact ⟨by rw [← hr];rfl,rfl⟩
  ·have d2 : decide (y<x)=false:=by simpa using h2
   rw [if_neg h2] at hr
   clear h1 h2
   go_wp2_with (go_at_call 207;refine (isNaN_any _ _).mono ?_;rintro e w' ⟨rfl,rfl⟩)
   go_ret
   exact ⟨by rw [← hr];rfl,rfl⟩
theorem cmpL_at : ∀ {a b : List Int} {k : Nat},(∀ j,j<k→nth a j=nth b j)→k<a.length→k<b.length→cmp1 (nth a k) (nth b k) ≠ 0→cmpL a b=cmp1 (nth a k) (nth b k)
 | [],_,k,_,h,_,_=>by simp at h
 | x :: a,[],k,_,_,h,_=>by simp at h
 | x :: a,y :: b,0,_,_,_,hne=>by
  have e1 : nth (x :: a) 0=x:=rfl
  have e2 : nth (y :: b) 0=y:=rfl
  rw [e1,e2] at hne ⊢
  rw [cmpL]
  unfold cmp1 at hne ⊢
  split
  ·rfl
  ·split
   ·rfl
   ·rename_i h1 h2;rw [if_neg h1,if_neg h2] at hne;exact absurd rfl hne
 | x :: a,y :: b,k+1,h0,ha,hb,hne=>by
  have e : x=y:=by simpa [nth] using h0 0 (by omega)
  rw [cmpL,if_neg (by omega),if_neg (by omega)]
  have h1:=cmpL_at (a:=a) (b:=b) (k:=k) (fun j hj=>by simpa [nth] using h0 (j+1) (by omega)) (by simpa using ha) (by simpa using hb) (by simpa [nth] using hne)
  simpa [nth] using h1
theorem cmpL_pre : ∀ {a b : List Int} {k : Nat},(∀ j,j<k→nth a j=nth b j)→(k=a.length∨k=b.length)→k≤a.length→k≤b.length→cmpL a b=if a.length<b.length then -1 else if b.length<a.length then 1 else 0
 | [],[],_,_,_,_,_=>by simp [cmpL]
 | [],y :: b,_,_,_,_,_=>by simp [cmpL]
 | x :: a,[],_,_,_,_,_=>by simp [cmpL]
 | x :: a,y :: b,0,_,h,_,_=>by simp at h
 | x :: a,y :: b,k+1,h0,h,ha,hb=>by
  have e : x=y:=by simpa [nth] using h0 0 (by omega)
  rw [cmpL,if_neg (by omega),if_neg (by omega)]
  have h1:=cmpL_pre (a:=a) (b:=b) (k:=k) (fun j hj=>by simpa [nth] using h0 (j+1) (by omega)) (by simpa using h) (by simpa using ha) (by simpa using hb)
  rw [h1];simp
set_option maxHeartbeats 2000000 in
theorem compare_any (a : Option Addr) (n c : Nat) (l : List Int) (a2 : Option Addr) (n2 c2 : Nat) (l2 : List Int) (w : World) (hi : Ints w a n l) (hi2 : Ints w a2 n2 l2) :
  Calls Tryz.prog 127 #[.slice a n c,.slice a2 n2 c2] w fun e w'=>e = .returned (.int .i64 (cmpL l l2))∧w=w':=by
 have Hl:=Lib.hid hi.len
 have Hl2:=Lib.hid hi2.len
 have hpl:=hi.pl
 have hpl2:=hi2.pl
 have hmax:=hi.max
 have hmax2:=hi2.max
 unfold maxLen at hmax hmax2
 go_enter Tryz.func127,Tryz.ntmps127
 go_wp2_with fail
 go_loop [11] (fun iv=>∃ k : Nat,k≤n∧k≤n2∧iv = .int .i64 k∧Hid (∀ j,j<k→nth l j=nth l2 j)) (fun iv=>n - (intOf iv).toNat)
 case atStart=>exact ⟨0,Nat.zero_le _,Nat.zero_le _,rfl,fun j hj=>by omega⟩
 case round =>
  obtain ⟨k,hk,hk2,rfl,hall⟩:=hrel
  by_cases hlt : k<n
  ·have ck:=hi.cell k hlt
   by_cases hlt2 : k<n2
   ·have ck2:=hi2.cell k hlt2
    have hge : decide ((n2 : Int)≤(k : Int))=false:=by simp;omega
    by_cases he : cmp1 (nth l k) (nth l2 k)=0
    ·have hEq : Hid (nth l k=nth l2 k):=by
      show _=_
      unfold cmp1 at he
      split at he
      ·omega
      ·split at he
       ·omega
       ·omega
     have hc:=cmpInt_any (nth l k) (nth l2 k)
     rw [he] at hc
     have Hc:=Lib.hid hc
     clear he hc
     go_wp2_with (go_at_call 172;refine (Hc.out _).mono ?_;rintro e w' ⟨rfl,rfl⟩)
     go_round
     case rel=>exact ⟨k+1,by omega,by omega,by go_num,fun j hj=>by
      rcases Nat.lt_or_ge j k with h | h
      ·exact hall.out j h
      ·rw [show j=k by omega];exact hEq.out⟩
     case measure=>simp [intOf] <;> omega
    ·have Hv:=Lib.hid (cmpL_at hall.out (by rw [Hl.out];exact hlt) (by rw [Hl2.out];exact hlt2) he)
     have Hc:=Lib.hid (cmpInt_any (nth l k) (nth l2 k))
     have hne : (cmp1 (nth l k) (nth l2 k) != 0)=true:=by simpa using he
     clear he
     generalize cmp1 (nth l k) (nth l2 k)=r at *
     go_wp2_with (go_at_call 172;refine (Hc.out _).mono ?_;rintro e w' ⟨rfl,rfl⟩)
     go_ret
     exact ⟨ret_int Hv.out.symm,rfl⟩
   ·have hge : decide ((n2 : Int)≤(k : Int))=true:=by simp;omega
    have Hv : Hid (cmpL l l2=1):=by
     show _=_
     rw [cmpL_pre hall.out (.inr (by rw [Hl2.out];omega)) (by rw [Hl.out];exact hk) (by rw [Hl2.out];exact hk2),Hl.out,Hl2.out,if_neg (by omega),if_pos (by omega)]
    go_wp2_with fail
    go_ret
    exact ⟨ret_int Hv.out.symm,rfl⟩
  ·have Hv : Hid (cmpL l l2=if n<n2 then -1 else 0):=by
    show _=_
    rw [cmpL_pre hall.out (.inl (by rw [Hl.out];omega)) (by rw [Hl.out];exact hk) (by rw [Hl2.out];exact hk2),Hl.out,Hl2.out,if_neg (show ¬ n2<n by omega)]
   obtain rfl : k=n:=by omega
   by_cases h2 : k<n2
   ·rw [if_pos h2] at Hv
    go_wp2_with fail
    go_ret
    exact ⟨ret_int Hv.out.symm,rfl⟩
   ·rw [if_neg h2] at Hv
    go_wp2_with fail
    go_ret
    exact ⟨ret_int Hv.out.symm,rfl⟩
set_option maxRecDepth 100000 in
set_option maxHeartbeats 4000000 in
theorem witness_any (a : Option Addr) (c n : Nat) (l : List Int) (r : Int) (w : World) (hn : n≤16) (hi : Ints w a (2 ^ n) l) :
  Calls Tryz.prog 77 #[.slice a (2 ^ n) c,.int .i64 r] w (NewInts w (witTo l n r (2 ^ n)).2):=by
 obtain ⟨q,hq⟩ : ∃ q,2 ^ n=q:=⟨_,rfl⟩
 have hq17 : q≤65536:=by rw [← hq];exact Nat.pow_le_pow_right (by omega) hn
 rw [hq] at hi ⊢
 have hpl:=hi.pl
 have HL : Hid (∀ x,x<q→∀ V,Calls Tryz.prog 73 #[.int .i64 x] V (NewInts V (bitsTo x n))):=fun x hx V=>hlist_any x n (by rw [hq];exact hx) hn V
 clear hq
 go_enter Tryz.func77,Tryz.ntmps77
 go_wp2_with fail
 go_loopw [5,6,12] (fun ov fv iv wr=>∃ (k : Nat) (z : Bool) (b : List Int) (ao : Option Addr) (co : Nat),k≤q∧iv = .int .i64 k∧fv = .bool z∧ov = .slice ao b.length co∧Hid (witTo l n r k=(z,b)) ∧
   wr.ownsRow w.heap.size 3 1 (.slice ao b.length co) b.length (b.map (Value.int .i64))∧Below w.heap.size w wr) (fun _ _ iv _=>q - (intOf iv).toNat)
 case atStart=>exact ⟨0,false,[],none,0,Nat.zero_le _,rfl,rfl,rfl,rfl,own_none,Below.refl _ _⟩
 case round =>
  obtain ⟨k,z,b,ao,co,hk,rfl,rfl,rfl,hst,hown,hbr⟩:=hrel
  by_cases hlt : k<q
  ·have ck:=(hi.keep hbr).cell k hlt
   by_cases hr : nth l k<r
   ·have hr' : decide (nth l k<r)=true:=by simpa using hr
    have Hst : Hid (witTo l n r (k+1)=(z,b)):=by show _=_;rw [witTo,if_pos hr,hst.out]
    clear hr
    go_wp2_with fail
    go_roundw
    case rel=>exact ⟨k+1,z,b,ao,co,by omega,by go_num,rfl,rfl,Hst.out,hown,hbr⟩
    case measure=>simp [intOf] <;> omega
   have hr' : decide (nth l k<r)=false:=by simpa using hr
   have Hst : Hid (witTo l n r (k+1)=if z=false∨lessS (bitsTo k n) b=true then (true,bitsTo k n) else (z,b)):=by show _=_;rw [witTo,if_neg hr,hst.out]
   clear hr
   have Hlist:=Lib.hid (HL.out k hlt wr)
   obtain ⟨s,hs⟩ : ∃ s,bitsTo k n=s:=⟨_,rfl⟩
   rw [hs] at Hlist Hst
   clear hs
   go_wp2_with fail
   refine Hlist.out.mono ?_
   rintro e w4 ⟨a4,c4,rfl,hown4,hb4⟩
   have hbr4:=Below.next hbr hb4
   have i4:=(Ints.own hown4).1
   have ib:=(Ints.own (own_keep hown hb4)).1
   have Hcmp:=Lib.hid (compare_any a4 s.length c4 s ao b.length co b w4 i4 ib)
   cases z
   ·have Hst2 : Hid (witTo l n r (k+1)=(true,s)):=by show _=_;rw [Hst.out,if_pos (.inl rfl)]
    go_wp2_with fail
    go_roundw
    case rel=>exact ⟨k+1,true,s,a4,c4,by omega,by go_num,rfl,rfl,Hst2.out,own_mono hown4 hbr.size,hbr4⟩
    case measure=>simp [intOf] <;> omega
   ·by_cases h1 : s.length<b.length
    ·have Hst2 : Hid (witTo l n r (k+1)=(true,s)):=by show _=_;rw [Hst.out,if_pos (.inr (lessS_iff.2 (.inl h1)))]
     go_wp2_with fail
     go_roundw
     case rel=>exact ⟨k+1,true,s,a4,c4,by omega,by go_num,rfl,rfl,Hst2.out,own_mono hown4 hbr.size,hbr4⟩
     case measure=>simp [intOf] <;> omega
    ·by_cases h2 : s.length=b.length
     ·have hd2 : ((s.length : Int) == (b.length : Int))=true:=by simp;omega
      by_cases h3 : cmpL s b<0
      ·have Hst2 : Hid (witTo l n r (k+1)=(true,s)):=by show _=_;rw [Hst.out,if_pos (.inr (lessS_iff.2 (.inr ⟨h2,h3⟩)))]
       have hd3 : decide (cmpL s b<0)=true:=by simpa using h3
       have hle : b.length≤s.length:=by omega
       have Ho4:=Lib.hid hown4
       clear h1 h2 h3 hown4 i4
       go_wp2_with (go_at_call 127;refine Hcmp.out.mono ?_;rintro e w' ⟨rfl,rfl⟩)
       go_roundw
       case rel=>exact ⟨k+1,true,s,a4,c4,by omega,by go_num,rfl,rfl,Hst2.out,own_mono Ho4.out hbr.size,hbr4⟩
       case measure=>simp [intOf] <;> omega
      ·have Hst2 : Hid (witTo l n r (k+1)=(true,b)):=by
        show _=_
        rw [Hst.out,if_neg fun hh=>?_]
        rcases hh with hh | hh
        ·cases hh
        ·rcases lessS_iff.1 hh with hh | hh
         ·exact h1 hh
         ·exact h3 hh.2
       have hd3 : decide (cmpL s b<0)=false:=by simpa using h3
       have hle : b.length≤s.length:=by omega
       have Ho:=Lib.hid (own_keep hown hb4)
       clear h1 h2 h3 hown4 i4 hown
       go_wp2_with (go_at_call 127;refine Hcmp.out.mono ?_;rintro e w' ⟨rfl,rfl⟩)
       go_roundw
       case rel=>exact ⟨k+1,true,b,ao,co,by omega,by go_num,rfl,rfl,Hst2.out,Ho.out,hbr4⟩
       case measure=>simp [intOf] <;> omega
     ·have Hst2 : Hid (witTo l n r (k+1)=(true,b)):=by
       show _=_
       rw [Hst.out,if_neg fun hh=>?_]
       rcases hh with hh | hh
       ·cases hh
       ·rcases lessS_iff.1 hh with hh | hh
        ·exact h1 hh
        ·exact h2 hh.1
      have hd2 : ((s.length : Int) == (b.length : Int))=false:=by simp;omega
      have hle : b.length≤s.length:=by omega
      have Ho:=Lib.hid (own_keep hown hb4)
      clear h1 h2 hown4 i4 hown
      go_wp2_with fail
      go_roundw
      case rel=>exact ⟨k+1,true,b,ao,co,by omega,by go_num,rfl,rfl,Hst2.out,Ho.out,hbr4⟩
      case measure=>simp [intOf] <;> omega
  ·obtain rfl : k=q:=by omega
   have Hb : Hid ((witTo l n r k).2=b):=by show _=_;rw [hst.out]
   go_wp2_with fail
   go_ret
   exact ⟨ao,co,by rw [Hb.out];rfl,by rw [Hb.out];exact hown,hbr⟩
end

section
open Go.RowKit
def supS (G : Tbl) (m : Nat) (L : List (List Int)) (S : List Int) : List (List Int):=suppO G.ops m L (frTo false S m)
def SSPost (P M : Int) (mod : List Int) (m : Nat) (L : List (List Int)) (S : List Int) (w : World) (e : Ending) (w' : World) : Prop :=
 Below w.heap.size w w'∧((okSet m S=false∧e = .returned (.tuple #[.agg #[.int .i64 0,.slice none 0 0],.int .i64 6])) ∨
  (okSet m S=true∧∃ a1 c1,e = .returned (.tuple #[.agg #[.int .i64 m,.slice a1 (supS (tblOf P M.toNat mod) m L S).length c1],.int .i64 0])∧MatN w.heap.size w' a1 (supS (tblOf P M.toNat mod) m L S).length (supS (tblOf P M.toNat mod) m L S)))
theorem fmat_of {P M : Int} {mod : List Int} {m : Nat} {L : List (List Int)} (hB : fieldB P M mod=true) (hR : Rws (tblOf P M.toNat mod).El m L) (hm : m≤256) (hL : L.length≤256) : fmatE P M mod m L=0:=by
 unfold fmatE
 rw [if_pos hB]
 unfold matE
 rw [if_neg (by omega)]
 have h1 : shapeQ m L=true:=by
  unfold shapeQ
  rw [List.all_eq_true]
  intro r hr
  have:=(hR r hr).1
  simp;omega
 rw [if_neg (by rw [h1];decide)]
 have h2 : L.all (elsQ (tblOf P M.toNat mod).q)=true:=by
  rw [List.all_eq_true]
  intro r hr
  unfold elsQ
  rw [List.all_eq_true]
  intro x hx
  have:=(hR r hr).2 x hx
  have h3 : 0≤x∧x<((tblOf P M.toNat mod).q : Int):=this
  unfold isQ
  simp;exact h3
 rw [if_pos h2]
theorem code_le {P M : Int} {mod : List Int} {m : Nat} {L : List (List Int)} (hE : codeE P M mod m L=0) : L.length≤m:=by
 obtain ⟨_,_,_,h4⟩:=codeE_zero hE
 obtain ⟨_,h6⟩:=spaceE_zero h4
 rw [Int.toNat_natCast] at h6
 rw [← h6,canS_length]
 exact (elimTo_piv _ _ _).1
theorem Box.setA {w : World} {g : Nat} {x y : Value} (h : Box w g [x,y]) (u : Value) : Box (w.setCell ⟨g,0,none⟩ u) g [u,y]:=by
 have hc0:=h.cell 0 rfl
 have hc1:=h.cell 1 rfl
 refine ⟨by have:=h.1;simpa using this,fun i v hv=>?_,fun i=>by rw [World.frozen?_setCell];exact h.2.2 i⟩
 match i,hv with
 | 0,hv=>simp at hv;subst hv;exact World.cell?_setCell_same w _ _ hc0
 | 1,hv=>simp at hv;subst hv;rw [World.cell?_setCell_other _ _ _ _ (by simp)];exact hc1
 | i+2,hv=>simp at hv
theorem Box.setB {w : World} {g : Nat} {x y : Value} (h : Box w g [x,y]) (u : Value) : Box (w.setCell ⟨g,1,none⟩ u) g [x,u]:=by
 have hc0:=h.cell 0 rfl
 have hc1:=h.cell 1 rfl
 refine ⟨by have:=h.1;simpa using this,fun i v hv=>?_,fun i=>by rw [World.frozen?_setCell];exact h.2.2 i⟩
 match i,hv with
 | 0,hv=>simp at hv;subst hv;rw [World.cell?_setCell_other _ _ _ _ (by simp)];exact hc0
 | 1,hv=>simp at hv;subst hv;exact World.cell?_setCell_same w _ _ hc1
 | i+2,hv=>simp at hv
def MatPost (m : Int) (D : List (List Int)) (w : World) (e : Ending) (w' : World) : Prop :=
 ∃ a c,e = .returned (.tuple #[.agg #[.int .i64 m,.slice a D.length c],.int .i64 0])∧MatN w.heap.size w' a D.length D∧Below w.heap.size w w'
set_option maxRecDepth 100000 in
set_option maxHeartbeats 8000000 in
theorem spaceSupp_any (P M : Int) (am : Option Addr) (mn cm : Nat) (mod : List Int) (m : Nat) (a : Option Addr) (n c : Nat) (L : List (List Int)) (as' : Option Addr) (ns cs : Nat) (S : List Int) (w : World) (hmod : Ints w am mn mod) (hi : Mat w a n L) (hs : Ints w as' ns S)
  (hE : codeE P M mod m L=0) :
  Calls Tryz.prog 78 #[.agg #[.int .i64 P,.int .i64 M,.slice am mn cm],.agg #[.int .i64 m,.slice a n c],.slice as' ns cs] w (SSPost P M mod m L S w):=by
 obtain ⟨N',em,hm1,hm64,F,hR⟩:=codeE_fld hE
 obtain rfl : m=N':=by omega
 obtain ⟨hB,_,_,hE4⟩:=codeE_zero hE
 have hle:=code_le hE
 have hnl : L.length=n:=hi.len
 have hZl:=frTo_len false S m
 have hZm : ∀ j,j<(frTo false S m).length→0≤nth (frTo false S m) j∧nth (frTo false S m) j<m:=fun j hj=>by
  obtain ⟨i,h1,h2,_⟩:=(mem_frTo m).1 (nth_mem hj)
  omega
 have hPk : Rws (tblOf P M.toNat mod).El (frTo false S m).length (L.map (pickL (frTo false S m))):=pick_rws hR hZm
 have hT:=trn_rws (Z:=frTo false S m) F hR
 have hK : Rws (tblOf P M.toNat mod).El L.length (nulO (tblOf P M.toNat mod).ops L.length ((List.range (frTo false S m).length).map (colS (L.map (pickL (frTo false S m)))))):=nul_rws F hT
 have hKl : (nulO (tblOf P M.toNat mod).ops L.length ((List.range (frTo false S m).length).map (colS (L.map (pickL (frTo false S m)))))).length≤L.length:=by
  unfold nulO
  have h1:=canO_len F (kerL_rws F (canO_rws F hT) (canO_piv F hT).1 (canO_len F hT))
  have h2:=(elimTo_piv (tblOf P M.toNat mod).ops (kerL (tblOf P M.toNat mod).ops L.length (canO (tblOf P M.toNat mod).ops L.length ((List.range (frTo false S m).length).map (colS (L.map (pickL (frTo false S m)))))) (elimTo (tblOf P M.toNat mod).ops ((List.range (frTo false S m).length).map (colS (L.map (pickL (frTo false S m))))) L.length).2 L.length) L.length).1
  omega
 have hMr:=mtL_rws F hR hK
 have HC : Hid (∀ V ao co,Below w.heap.size w V→Ints V ao (frTo false S m).length (frTo false S m)→Calls Tryz.prog 129 #[.agg #[.int .i64 P,.int .i64 M,.slice am mn cm],.agg #[.int .i64 m,.slice a n c],.slice ao (frTo false S m).length co] V (MatPost (frTo false S m).length (L.map (pickL (frTo false S m))) V)):=fun V ao co hV h1=>by
  refine (columns_any P M am mn cm mod m a n c L ao _ co _ V (hmod.keep hV) (hi.keep hV) h1 hE hZm (by omega)).mono ?_
  rintro e w' ⟨a1,c1,rfl,h2,h3⟩
  exact ⟨a1,c1,by rw [List.length_map,hnl],by rw [List.length_map,hnl];exact h2,h3⟩
 have HT : Hid (∀ V a1 c1,Below w.heap.size w V→Mat V a1 (L.map (pickL (frTo false S m))).length (L.map (pickL (frTo false S m)))→Calls Tryz.prog 130 #[.agg #[.int .i64 P,.int .i64 M,.slice am mn cm],.agg #[.int .i64 ((frTo false S m).length : Nat),.slice a1 (L.map (pickL (frTo false S m))).length c1]] V (MatPost n ((List.range (frTo false S m).length).map (colS (L.map (pickL (frTo false S m))))) V)):=fun V a1 c1 hV h1=>by
  refine (transpose_any P M am mn cm mod _ a1 _ c1 _ V (hmod.keep hV) h1 (fmat_of hB hPk (by omega) (by rw [List.length_map];omega))).mono ?_
  rintro e w' ⟨a2,c2,rfl,h2,h3⟩
  exact ⟨a2,c2,by rw [List.length_map,List.length_map,List.length_range,hnl],by rw [List.length_map,List.length_range];exact h2,h3⟩
 have HK : Hid (∀ V a1 c1,Below w.heap.size w V→Mat V a1 ((List.range (frTo false S m).length).map (colS (L.map (pickL (frTo false S m))))).length ((List.range (frTo false S m).length).map (colS (L.map (pickL (frTo false S m)))))→Calls Tryz.prog 94 #[.agg #[.int .i64 P,.int .i64 M,.slice am mn cm],.agg #[.int .i64 n,.slice a1 ((List.range (frTo false S m).length).map (colS (L.map (pickL (frTo false S m))))).length c1]] V (MatPost n (nulO (tblOf P M.toNat mod).ops L.length ((List.range (frTo false S m).length).map (colS (L.map (pickL (frTo false S m)))))) V)):=fun V a1 c1 hV h1=>by
  rw [← hnl]
  exact kernelM_any P M am mn cm mod L.length a1 _ c1 _ V (hmod.keep hV) h1 (fmat_of hB hT (by omega) (by rw [List.length_map,List.length_range];omega)) (by omega)
 have HM : Hid (∀ V a1 c1,Below w.heap.size w V→Mat V a1 (nulO (tblOf P M.toNat mod).ops L.length ((List.range (frTo false S m).length).map (colS (L.map (pickL (frTo false S m)))))).length (nulO (tblOf P M.toNat mod).ops L.length ((List.range (frTo false S m).length).map (colS (L.map (pickL (frTo false S m))))))→Calls Tryz.prog 131 #[.agg #[.int .i64 P,.int .i64 M,.slice am mn cm],.agg #[.int .i64 n,.slice a1 (nulO (tblOf P M.toNat mod).ops L.length ((List.range (frTo false S m).length).map (colS (L.map (pickL (frTo false S m)))))).length c1],.agg #[.int .i64 m,.slice a n c]] V
   (MatPost m (mtL (tblOf P M.toNat mod).ops m (nulO (tblOf P M.toNat mod).ops L.length ((List.range (frTo false S m).length).map (colS (L.map (pickL (frTo false S m)))))) L) V)):=fun V a1 c1 hV h1=>by
  refine (mul_any P M am mn cm mod n a1 _ c1 _ m a c L V (hmod.keep hV) h1 (hi.keep hV) hB (by rw [← hnl];exact hK) hR (by omega) hm1 hm64 (by omega)).mono ?_
  rintro e w' ⟨a2,c2,rfl,h2,h3⟩
  exact ⟨a2,c2,by simp [mtL],by simpa [mtL] using h2,h3⟩
 have HN : Hid (∀ V a1 c1,Below w.heap.size w V→Mat V a1 (mtL (tblOf P M.toNat mod).ops m (nulO (tblOf P M.toNat mod).ops L.length ((List.range (frTo false S m).length).map (colS (L.map (pickL (frTo false S m)))))) L).length (mtL (tblOf P M.toNat mod).ops m (nulO (tblOf P M.toNat mod).ops L.length ((List.range (frTo false S m).length).map (colS (L.map (pickL (frTo false S m)))))) L) →
   Calls Tryz.prog 99 #[.agg #[.int .i64 P,.int .i64 M,.slice am mn cm],.agg #[.int .i64 m,.slice a1 (mtL (tblOf P M.toNat mod).ops m (nulO (tblOf P M.toNat mod).ops L.length ((List.range (frTo false S m).length).map (colS (L.map (pickL (frTo false S m)))))) L).length c1]] V fun e w' =>
    ∃ a2 c2 ap cp,e = .returned (.tuple #[.agg #[.int .i64 m,.slice a2 (supS (tblOf P M.toNat mod) m L S).length c2],.slice ap (supS (tblOf P M.toNat mod) m L S).length cp,.int .i64 0])∧MatN V.heap.size w' a2 (supS (tblOf P M.toNat mod) m L S).length (supS (tblOf P M.toNat mod) m L S)∧Below V.heap.size V w'):=fun V a1 c1 hV h1=>by
  refine (canonical_any P M am mn cm mod m a1 _ c1 _ V (hmod.keep hV) h1).mono ?_
  have hf:=fmat_of hB hMr (by omega) (by simp [mtL];omega)
  rintro e w' ⟨hb1,⟨h0,_⟩ | ⟨_,m',hm',a2,c2,ap,cp,rfl,hN1,_⟩⟩
  ·exact absurd hf h0
  ·obtain rfl : m=m':=by omega
   rw [← canS_length] at hN1 ⊢
   exact ⟨a2,c2,ap,cp,rfl,hN1,hb1⟩
 have HPost : Hid (∀ a1 c1 w',okSet m S=true→MatN w.heap.size w' a1 (supS (tblOf P M.toNat mod) m L S).length (supS (tblOf P M.toNat mod) m L S)→Below w.heap.size w w'→SSPost P M mod m L S w (.returned (.tuple #[.agg #[.int .i64 m,.slice a1 (supS (tblOf P M.toNat mod) m L S).length c1],.int .i64 0])) w'):=fun a1 c1 w' h0 h1 h2=>⟨h2,.inr ⟨h0,a1,c1,rfl,h1⟩⟩
 have HErr : Hid (∀ w',okSet m S=false→Below w.heap.size w w'→SSPost P M mod m L S w (.returned (.tuple #[.agg #[.int .i64 0,.slice none 0 0],.int .i64 6])) w'):=fun w' h0 h2=>⟨h2,.inl ⟨h0,rfl⟩⟩
 unfold MatPost at HC HT HK HM
 obtain ⟨D5,hD5⟩ : ∃ D,supS (tblOf P M.toNat mod) m L S=D:=⟨_,rfl⟩
 rw [hD5] at HN HPost
 obtain ⟨D4,hD4⟩ : ∃ D,mtL (tblOf P M.toNat mod).ops m (nulO (tblOf P M.toNat mod).ops L.length ((List.range (frTo false S m).length).map (colS (L.map (pickL (frTo false S m)))))) L=D:=⟨_,rfl⟩
 rw [hD4] at HM HN
 obtain ⟨D3,hD3⟩ : ∃ D,nulO (tblOf P M.toNat mod).ops L.length ((List.range (frTo false S m).length).map (colS (L.map (pickL (frTo false S m)))))=D:=⟨_,rfl⟩
 rw [hD3] at HK HM
 obtain ⟨D2,hD2⟩ : ∃ D,(List.range (frTo false S m).length).map (colS (L.map (pickL (frTo false S m))))=D:=⟨_,rfl⟩
 rw [hD2] at HT HK
 obtain ⟨D1,hD1⟩ : ∃ D,L.map (pickL (frTo false S m))=D:=⟨_,rfl⟩
 rw [hD1] at HC HT
 have HG1 : Hid (∀ k : Nat,decide ((k : Int) ∈ S)=false→frTo false S (k+1)=frTo false S k ++ [(k : Int)]):=fun k h=>by rw [frTo,if_pos h]
 have HG2 : Hid (∀ k : Nat,decide ((k : Int) ∈ S)=true→frTo false S (k+1)=frTo false S k):=fun k h=>by rw [frTo,if_neg (by rw [h];decide)]
 have HGl : Hid (∀ k,(frTo false S k).length≤k):=fun k=>frTo_len _ _ _
 obtain ⟨Z,hZ⟩ : ∃ Z,frTo false S=Z:=⟨_,rfl⟩
 rw [hZ] at HC HT HG1 HG2 HGl
 have HZ0 : Hid (Z 0=[]):=by rw [← hZ];rfl
 clear hD1 hD2 hD3 hD4 hD5 hZ hMr hKl hK hT hPk hZm hZl hB F hR hE
 have Hsl:=Lib.hid hs.len
 have hpls:=hs.pl
 have hmaxs:=hs.max
 unfold maxLen at hmaxs
 go_enter Tryz.func78,Tryz.ntmps78
 go_wp2_with fail
 obtain ⟨W,hW⟩ : ∃ W : World,W=((w.alloc (.cells #[.int .i64 P,.int .i64 M,.slice am mn cm] 24)).alloc (.cells #[.int .i64 m,.slice a n c] 73)).alloc (.cells #[.int .i64 0,.slice none 0 0] 73):=⟨_,rfl⟩
 rw [← hW]
 have hbW : Below w.heap.size w W:=by rw [hW];exact below3 _ _ _ _
 have hsW : W.heap.size=w.heap.size+3:=by rw [hW];simp
 have x0 : Box W w.heap.size [.int .i64 P,.int .i64 M,.slice am mn cm]:=by rw [hW];exact ((Box.new _ _ _ rfl).alloc _).alloc _
 have y0 : Box W (w.heap.size+1) [.int .i64 m,.slice a n c]:=by rw [hW];exact (Box.new _ _ _ (by simp)).alloc _
 have z0 : Box W (w.heap.size+1+1) [.int .i64 0,.slice none 0 0]:=by rw [hW];exact Box.new _ _ _ (by simp)
 have HS : Hid (∀ V,Below W.heap.size W V→V.cell? ⟨w.heap.size,0,none⟩=some (.int .i64 P)∧V.cell? ⟨w.heap.size,1,none⟩=some (.int .i64 M)∧V.cell? ⟨w.heap.size,2,none⟩=some (.slice am mn cm)∧V.cell? ⟨w.heap.size+1,0,none⟩=some (.int .i64 m)∧V.cell? ⟨w.heap.size+1,1,none⟩=some (.slice a n c) ∧
   V.cell? ⟨w.heap.size+1+1,0,none⟩=some (.int .i64 0)∧V.cell? ⟨w.heap.size+1+1,1,none⟩=some (.slice none 0 0)∧V.frozen? ⟨w.heap.size+1+1,0,none⟩=false∧V.frozen? ⟨w.heap.size+1+1,1,none⟩=false):=fun V hV=>by
  have x1:=x0.keep hV
  have y1:=y0.keep hV
  have z1:=z0.keep hV
  exact ⟨x1.cell 0 rfl,x1.cell 1 rfl,x1.cell 2 rfl,y1.cell 0 rfl,y1.cell 1 rfl,z1.cell 0 rfl,z1.cell 1 rfl,z1.frozen 0,z1.frozen 1⟩
 have HbW:=Lib.hid hbW
 have HsW:=Lib.hid hsW
 have HEr2 : Hid (∀ V,okSet m S=false→Below W.heap.size W V→SSPost P M mod m L S w (.returned (.tuple #[.agg #[.int .i64 0,.slice none 0 0],.int .i64 6])) ((V.setCell ⟨w.heap.size+1+1,0,none⟩ (.int .i64 0)).setCell ⟨w.heap.size+1+1,1,none⟩ (.slice none 0 0))):=fun V h0 hV=>HErr.out _ h0 (((Below.next hbW hV).setCell (p:=⟨w.heap.size+1+1,0,none⟩) (by simp;omega) _).setCell (p:=⟨w.heap.size+1+1,1,none⟩) (by simp;omega) _)
 clear hW x0 y0 z0
 refine (spaceOpen_any P M am mn cm mod m a n c L W (hmod.keep hbW) (hi.keep hbW)).mono ?_
 rintro e w1 ⟨hb1,⟨h0,_⟩ | ⟨_,m',b,em',ap,cp,rfl,_,_,_⟩⟩
 ·exact absurd hE4 h0
 obtain rfl : m=m':=by omega
 generalize (pivS (tblOf P M.toNat mod) L m).length=k9 at *
 have HEs:=Lib.hid hE4
 clear hE4
 go_upto_region 4 with fail
 obtain ⟨X,hX⟩ : ∃ X,w1.alloc (.cells #[.pointer (some ⟨b,0,none⟩),.int .i64 m,.slice a n c,.slice ap k9 cp] 144)=X:=⟨_,rfl⟩
 rw [hX]
 have hbX : Below W.heap.size W X:=by rw [← hX];exact Below.next hb1 (below1 _ _)
 clear hX hb1
 obtain ⟨q0,q1,q2,q3,q4,z3,z4,f3,f4⟩:=HS.out X hbX
 go_wp2_with fail
 go_loop [32] (fun iv=>∃ j : Nat,j≤ns∧iv = .int .i64 j∧Hid (okTo m S j=true)) (fun iv=>ns - (intOf iv).toNat)
 case atStart=>exact ⟨0,Nat.zero_le _,rfl,by show _=_;simp [okTo]⟩
 case round =>
  obtain ⟨j,hj,rfl,hok⟩:=hrel
  have hsX:=(hs.keep hbW).keep hbX
  by_cases hlt2 : j<ns
  ·have cj:=hsX.cell j hlt2
   have Hbad : Hid (okAt m S j=false→okSet m S=false):=fun hb=>okTo_no (by rw [Hsl.out];exact hlt2) hb
   by_cases h0 : 0≤nth S j
   ·by_cases h1 : nth S j<m
    ·have d1 : decide (nth S j<0)=false:=by simp;omega
     have d2 : decide ((m : Int)≤nth S j)=false:=by simp;omega
     by_cases hj0 : j=0
     ·subst hj0
      have Hgood : Hid (okAt m S 0=true):=by show _=_;unfold okAt;simp [h0,h1]
      rw [Nat.add_zero] at cj
      go_wp2_with fail
      go_round
      case rel=>exact ⟨1,by omega,by go_num,okTo_succ hok.out Hgood.out⟩
      case measure=>simp [intOf] <;> omega
     ·have cp':=hsX.cell (j - 1) (by omega)
      have e1 : ((j : Int) - 1).toNat=j - 1:=by omega
      have d3 : decide (0<(j : Int))=true:=by simp;omega
      have d4 : (0 : Int)≤(j : Int) - 1:=by omega
      have d5 : (1 : Int)≤(j : Int):=by omega
      have d6 : (j : Int) - 1<ns:=by omega
      by_cases h2 : nth S (j - 1)<nth S j
      ·have Hgood : Hid (okAt m S j=true):=by show _=_;unfold okAt;simp [h0,h1,h2]
       have h2' : decide (nth S j≤nth S (j - 1))=false:=by simp;omega
       clear hj0 e1
       go_wp2_with fail
       go_round
       case rel=>exact ⟨j+1,by omega,by go_num,okTo_succ hok.out Hgood.out⟩
       case measure=>simp [intOf] <;> omega
      ·have Hb : Hid (okSet m S=false):=Hbad.out (by unfold okAt;simp [h2,hj0])
       have h2' : decide (nth S j≤nth S (j - 1))=true:=by simp;omega
       clear hj0 e1
       have HR:=Lib.hid (HEr2.out X Hb.out hbX)
       go_wp2_with fail
       exact bodyPost_ret (v:=.tuple #[.agg #[.int .i64 0,.slice none 0 0],.int .i64 6]) (by simp [results,Tryz.results78,go_sem,z3,z4]) rfl HR.out
    ·have Hb : Hid (okSet m S=false):=Hbad.out (by unfold okAt;simp [h1])
     have d1 : decide (nth S j<0)=false:=by simp;omega
     have d2 : decide ((m : Int)≤nth S j)=true:=by simp;omega
     have HR:=Lib.hid (HEr2.out X Hb.out hbX)
     go_wp2_with fail
     exact bodyPost_ret (v:=.tuple #[.agg #[.int .i64 0,.slice none 0 0],.int .i64 6]) (by simp [results,Tryz.results78,go_sem,z3,z4]) rfl HR.out
   ·have Hb : Hid (okSet m S=false):=Hbad.out (by unfold okAt;simp [h0])
    have d1 : decide (nth S j<0)=true:=by simp;omega
    have HR:=Lib.hid (HEr2.out X Hb.out hbX)
    go_wp2_with fail
    exact bodyPost_ret (v:=.tuple #[.agg #[.int .i64 0,.slice none 0 0],.int .i64 6]) (by simp [results,Tryz.results78,go_sem,z3,z4]) rfl HR.out
  ·obtain rfl : j=ns:=by omega
   have Hg : Hid (okSet m S=true):=by show _=_;rw [okSet,Hsl.out];exact hok.out
   have HP2 : Hid (∀ a1 c1 w',MatN w.heap.size w' a1 D5.length D5→Below w.heap.size w w'→SSPost P M mod m L S w (.returned (.tuple #[.agg #[.int .i64 m,.slice a1 D5.length c1],.int .i64 0])) w'):=fun a1 c1 w' h1 h2=>HPost.out a1 c1 w' Hg.out h1 h2
   clear HPost HErr HEr2 z3 z4 f3 f4
   go_wp2_with fail
   go_loopw [12,62] (fun ov iv wr=>∃ (k g : Nat) (a1 : Option Addr) (c1 : Nat),k≤m∧iv = .int .i64 k∧Hid ((Z k).length=g)∧ov = .slice a1 g c1∧wr.ownsRow X.heap.size 3 1 (.slice a1 g c1) g ((Z k).map (Value.int .i64))∧Below X.heap.size X wr) (fun _ iv _=>m - (intOf iv).toNat)
   case atStart=>exact ⟨0,0,none,0,Nat.zero_le _,rfl,by show _=_;rw [HZ0.out];rfl,rfl,by rw [HZ0.out];exact own_none,Below.refl _ _⟩
   case round =>
    obtain ⟨k,g,a1,c1,hk,rfl,Hg2,rfl,hown,hbr⟩:=hrel
    by_cases hlt : k<m
    ·have hgk : g≤64:=by have h:=HGl.out k;rw [Hg2.out] at h;omega
     have hcont:=contains_any as' j cs S k wr (hsX.keep hbr)
     have hG1:=HG1.out k
     have hG2:=HG2.out k
     obtain ⟨b2,hb2⟩ : ∃ b2,decide ((k : Int) ∈ S)=b2:=⟨_,rfl⟩
     rw [hb2] at hcont hG1 hG2
     have Hcont:=Lib.hid hcont
     clear hb2 hcont
     cases b2
     ·have Hn:=Lib.hid (hG1 rfl)
      clear hG1 hG2
      have hsz:=hbr.size
      have hcn:=cell_new wr (.int .i64 k) 3
      have hbn:=below1 wr (.cells #[.int .i64 k] 3)
      go_wp2_with (first | (go_at_call 83;refine Hcont.out.mono ?_;rintro e w3 ⟨rfl,rfl⟩) | (at_builtin;refine wpList_push rfl _ _ 22 3 rfl (.int .i64 0) 8 Tryz.underlying22 infoInt rfl X.heap.size a1 g c1 _ rfl (hown.alloc _) ⟨w3.heap.size,0,none⟩ 1 (.int .i64 k) rfl hcn rfl (by omega) (by unfold maxLen;omega) (by simp;omega) ?_;intro a5 c5 w5 hown5 hgr5 hap5))
      go_roundw
      case rel =>
       refine ⟨k+1,g+1,a5,c5,by omega,by go_num,by show _=_;rw [Hn.out,List.length_append,Hg2.out];rfl,rfl,by rw [Hn.out];simpa using hown5,Below.app (Below.allocN hbr _) (hown.alloc _) hgr5 (Nat.le_refl _) (Below.allocN hbr _).size⟩
      case measure=>simp [intOf] <;> omega
     ·have Hn:=Lib.hid (hG2 rfl)
      clear hG1 hG2
      go_wp2_with (go_at_call 83;refine Hcont.out.mono ?_;rintro e w3 ⟨rfl,rfl⟩)
      go_roundw
      case rel=>exact ⟨k+1,g,a1,c1,by omega,by go_num,by show _=_;rw [Hn.out];exact Hg2.out,rfl,by rw [Hn.out];exact hown,hbr⟩
      case measure=>simp [intOf] <;> omega
    ·obtain rfl : k=m:=by omega
     have HCx:=HC.out wr a1 c1 (Below.next hbW (Below.next hbX hbr)) (by rw [Hg2.out];exact (Ints.own hown).1)
     rw [Hg2.out] at HCx
     have HCX:=Lib.hid HCx
     rw [Hg2.out] at HT
     have hbXr:=Below.next hbX hbr
     have HbXr:=Lib.hid hbXr
     obtain ⟨q0,q1,q2,q3,q4,z3,z4,f3,f4⟩:=HS.out wr hbXr
     generalize wr=Y at *
     obtain ⟨d1,hd1⟩ : ∃ d,D1.length=d:=⟨_,rfl⟩
     obtain ⟨d2,hd2⟩ : ∃ d,D2.length=d:=⟨_,rfl⟩
     obtain ⟨d3,hd3⟩ : ∃ d,D3.length=d:=⟨_,rfl⟩
     obtain ⟨d4,hd4⟩ : ∃ d,D4.length=d:=⟨_,rfl⟩
     obtain ⟨d5,hd5⟩ : ∃ d,D5.length=d:=⟨_,rfl⟩
     rw [hd1] at HCX HT
     rw [hd2] at HT HK
     rw [hd3] at HK HM
     rw [hd4] at HM HN
     rw [hd5] at HN HP2
     have HYw : Hid (Below w.heap.size w Y):=Below.next hbW hbXr
     have HYn : Hid (∀ V,Below Y.heap.size Y V→V.cell? ⟨w.heap.size,0,none⟩=some (.int .i64 P)∧V.cell? ⟨w.heap.size,1,none⟩=some (.int .i64 M)∧V.cell? ⟨w.heap.size,2,none⟩=some (.slice am mn cm)∧V.cell? ⟨w.heap.size+1,0,none⟩=some (.int .i64 k)∧V.cell? ⟨w.heap.size+1,1,none⟩=some (.slice a n c) ∧
       V.cell? ⟨w.heap.size+1+1,0,none⟩=some (.int .i64 0)∧V.cell? ⟨w.heap.size+1+1,1,none⟩=some (.slice none 0 0)∧V.frozen? ⟨w.heap.size+1+1,0,none⟩=false∧V.frozen? ⟨w.heap.size+1+1,1,none⟩=false):=fun V hV=>HS.out V (Below.next hbXr hV)
     have hsY:=hbXr.size
     clear hown hbr hbXr hd1 hd2 hd3 hd4 hd5 HCx hsX q3 q4 z3 z4 f3 f4 q0 q1 q2 HS hbW HbW hbX
     go_upto_region 17 with fail
     go_cut [14,15] (fun v14 v15 wx=>∃ (q : Nat) (a5 : Option Addr) (c5 : Nat),v14 = .pointer (some ⟨q,0,none⟩)∧v15 = .int .i64 0∧Box wx q [.int .i64 g,.slice a5 d1 c5]∧MatN Y.heap.size wx a5 d1 D1∧Y.heap.size≤q∧Below Y.heap.size Y wx)
     case first =>
      obtain ⟨q0,q1,q2,q3,q4,_⟩:=HYn.out Y (Below.refl _ _)
      go_wp2_with fail
      refine HCX.out.mono ?_
      rintro e w3 ⟨a5,c5,rfl,hN5,hb5⟩
      clear q0 q1 q2 q3 q4
      go_wp2_with fail
      go_meet
      exact ⟨_,a5,c5,rfl,rfl,Box.new _ _ _ rfl,hN5.keep (below1 _ _),hb5.size,Below.next hb5 (below1 _ _)⟩
     obtain ⟨q,a5,c5,rfl,rfl,hBq,hN5,hq,hb5⟩:=hcut
     generalize wc=V1 at *
     have HT1:=Lib.hid (HT.out V1 a5 c5 (Below.next HYw.out hb5) hN5.mat)
     clear hN5 HT HC HCX
     go_upto_region 20 with fail
     go_cut [14,15] (fun v14 v15 wx=>∃ (a5 : Option Addr) (c5 : Nat),v14 = .pointer (some ⟨q,0,none⟩)∧Box wx q [.int .i64 n,.slice a5 d2 c5]∧MatN V1.heap.size wx a5 d2 D2∧Below Y.heap.size Y wx)
     case first =>
      obtain ⟨q0,q1,q2,q3,q4,_⟩:=HYn.out V1 hb5
      have g0:=hBq.cell 0 rfl
      have g1:=hBq.cell 1 rfl
      go_wp2_with fail
      refine HT1.out.mono ?_
      rintro e w3 ⟨a6,c6,rfl,hN6,hb6⟩
      clear q0 q1 q2 q3 q4 g0 g1
      have hBq3:=hBq.keep hb6
      have g0:=hBq3.cell 0 rfl
      have g1:=hBq3.cell 1 rfl
      have g2:=hBq3.frozen 0
      have g3:=hBq3.frozen 1
      obtain ⟨q0,q1,q2,q3,q4,_⟩:=HYn.out w3 (Below.next hb5 hb6)
      have HF : Hid (Box ((w3.setCell ⟨q,0,none⟩ (.int .i64 n)).setCell ⟨q,1,none⟩ (.slice a6 d2 c6)) q [.int .i64 n,.slice a6 d2 c6]∧MatN V1.heap.size ((w3.setCell ⟨q,0,none⟩ (.int .i64 n)).setCell ⟨q,1,none⟩ (.slice a6 d2 c6)) a6 d2 D2∧Below Y.heap.size Y ((w3.setCell ⟨q,0,none⟩ (.int .i64 n)).setCell ⟨q,1,none⟩ (.slice a6 d2 c6))):=by
       have hqV : q<V1.heap.size:=hBq.1
       refine ⟨(hBq3.setA _).setB _,?_,((Below.next hb5 hb6).setCell (p:=⟨q,0,none⟩) hq _).setCell (p:=⟨q,1,none⟩) hq _⟩
       exact (hN6.setCell (p:=⟨q,0,none⟩) hqV _).setCell (p:=⟨q,1,none⟩) hqV _
      go_wp2_with fail
      go_meet
      first | exact ⟨a6,c6,rfl,HF.out.1,HF.out.2.1,HF.out.2.2⟩ | exact ⟨a6,c6,rfl,by simpa using HF.out.1,by simpa using HF.out.2.1,by simpa using HF.out.2.2⟩
     have hqV : q<V1.heap.size:=hBq.1
     obtain ⟨a6,c6,rfl,hBq2,hN6,hb6⟩:=hcut
     generalize wc=V2 at *
     have g0:=hBq2.cell 0 rfl
     have g2:=hBq2.frozen 0
     obtain ⟨q0,q1,q2,q3,q4,_⟩:=HYn.out V2 hb6
     have hB3:=hBq2.setA (.int .i64 n)
     have hN3:=(hN6.setCell (p:=⟨q,0,none⟩) hqV (.int .i64 n)).mono hb5.size
     have hb3:=hb6.setCell (p:=⟨q,0,none⟩) hq (.int .i64 n)
     clear hBq hb5 HT1 hN6
     go_upto_region 22 with fail
     clear q0 q1 q2 q3 q4 g0 g2 hBq2 hb6
     obtain ⟨V3,hV3⟩ : ∃ V3,V2.setCell ⟨q,0,none⟩ (.int .i64 n)=V3:=⟨_,rfl⟩
     rw [hV3] at hB3 hN3 hb3 ⊢
     clear hV3
     have HK1:=Lib.hid (HK.out V3 a6 c6 (Below.next HYw.out hb3) hN3.mat)
     clear hN3 HK
     go_cut [16,15] (fun v16 v15 wx=>∃ (q : Nat) (a5 : Option Addr) (c5 : Nat),v16 = .pointer (some ⟨q,0,none⟩)∧v15 = .int .i64 0∧Box wx q [.int .i64 n,.slice a5 d3 c5]∧MatN Y.heap.size wx a5 d3 D3∧Y.heap.size≤q∧Below Y.heap.size Y wx)
     case first =>
      obtain ⟨q0,q1,q2,q3,q4,_⟩:=HYn.out V3 hb3
      have g0:=hB3.cell 0 rfl
      have g1:=hB3.cell 1 rfl
      go_wp2_with fail
      refine HK1.out.mono ?_
      rintro e w3 ⟨a5,c5,rfl,hN5,hb5⟩
      clear q0 q1 q2 q3 q4 g0 g1
      go_wp2_with fail
      go_meet
      have hs3:=hb3.size
      exact ⟨_,a5,c5,rfl,rfl,Box.new _ _ _ rfl,(hN5.keep (below1 _ _)).mono hs3,Nat.le_trans hs3 hb5.size,Below.next (Below.next hb3 hb5) (below1 _ _)⟩
     clear hB3 hb3 HK1
     obtain ⟨qk,ak,ck,rfl,rfl,hBk,hNk,hqk,hbk⟩:=hcut
     generalize wc=V4 at *
     have HM1:=Lib.hid (HM.out V4 ak ck (Below.next HYw.out hbk) hNk.mat)
     clear hNk HM
     go_upto_region 25 with fail
     go_cut [17,15] (fun v17 v15 wx=>∃ (q : Nat) (a5 : Option Addr) (c5 : Nat),v17 = .pointer (some ⟨q,0,none⟩)∧v15 = .int .i64 0∧Box wx q [.int .i64 k,.slice a5 d4 c5]∧MatN Y.heap.size wx a5 d4 D4∧Y.heap.size≤q∧Below Y.heap.size Y wx)
     case first =>
      obtain ⟨q0,q1,q2,q3,q4,_⟩:=HYn.out V4 hbk
      have g0:=hBk.cell 0 rfl
      have g1:=hBk.cell 1 rfl
      go_wp2_with fail
      refine HM1.out.mono ?_
      rintro e w3 ⟨a5,c5,rfl,hN5,hb5⟩
      clear q0 q1 q2 q3 q4 g0 g1
      go_wp2_with fail
      go_meet
      have hs3:=hbk.size
      exact ⟨_,a5,c5,rfl,rfl,Box.new _ _ _ rfl,(hN5.keep (below1 _ _)).mono hs3,Nat.le_trans hs3 hb5.size,Below.next (Below.next hbk hb5) (below1 _ _)⟩
     clear hBk hbk HM1
     obtain ⟨qm,am',cm',rfl,rfl,hBm,hNm,hqm,hbm⟩:=hcut
     generalize wc=V5 at *
     have HN1:=Lib.hid (HN.out V5 am' cm' (Below.next HYw.out hbm) hNm.mat)
     clear hNm HN
     go_upto_region 28 with fail
     go_cut [18,15] (fun v18 v15 wx=>∃ (q : Nat) (a5 : Option Addr) (c5 : Nat),v18 = .pointer (some ⟨q,0,none⟩)∧v15 = .int .i64 0∧Box wx q [.int .i64 k,.slice a5 d5 c5]∧MatN Y.heap.size wx a5 d5 D5∧Y.heap.size≤q∧Below Y.heap.size Y wx)
     case first =>
      obtain ⟨q0,q1,q2,q3,q4,_⟩:=HYn.out V5 hbm
      have g0:=hBm.cell 0 rfl
      have g1:=hBm.cell 1 rfl
      go_wp2_with fail
      refine HN1.out.mono ?_
      rintro e w3 ⟨a5,c5,apx,cpx,rfl,hN5,hb5⟩
      clear q0 q1 q2 q3 q4 g0 g1
      go_wp2_with fail
      go_meet
      have hs3:=hbm.size
      exact ⟨_,a5,c5,rfl,rfl,Box.new _ _ _ rfl,(hN5.keep (below1 _ _)).mono hs3,Nat.le_trans hs3 hb5.size,Below.next (Below.next hbm hb5) (below1 _ _)⟩
     clear hBm hbm HN1
     obtain ⟨qc,ac,cc,rfl,rfl,hBc,hNc,hqc,hbc⟩:=hcut
     generalize wc=V6 at *
     have g0:=hBc.cell 0 rfl
     have g1:=hBc.cell 1 rfl
     obtain ⟨q0,q1,q2,q3,q4,z3,z4,f3,f4⟩:=HYn.out V6 hbc
     have hs6:=HsW.out
     have hsY2 : w.heap.size+3≤Y.heap.size:=by omega
     have HF:=Lib.hid (HP2.out ac cc ((V6.setCell ⟨w.heap.size+1+1,0,none⟩ (.int .i64 k)).setCell ⟨w.heap.size+1+1,1,none⟩ (.slice ac d5 cc))
      (((hNc.setCell (p:=⟨w.heap.size+1+1,0,none⟩) (by simp;omega) _).setCell (p:=⟨w.heap.size+1+1,1,none⟩) (by simp;omega) _).mono (by omega))
      (((Below.next HYw.out hbc).setCell (p:=⟨w.heap.size+1+1,0,none⟩) (by simp;omega) _).setCell (p:=⟨w.heap.size+1+1,1,none⟩) (by simp;omega) _))
     clear hNc hBc q0 q1 q2 q3 q4
     go_wp2_with fail
     exact bodyPost_ret (v:=.tuple #[.agg #[.int .i64 k,.slice ac d5 cc],.int .i64 0]) (by simp [results,Tryz.results78,go_sem,z3,z4]) rfl HF.out
end

section
open Go.RowKit
def profTo (l : List Int) (n : Nat) : Nat→List Int
 | 0=>List.replicate (n+1) 0
 | k+1=>(profTo l n k).set (bitsTo k n).length (max (nth (profTo l n k) (bitsTo k n).length) (nth l k))
def profS (l : List Int) (n : Nat) : List Int:=profTo l n (2 ^ n)
def ProfPost (P M : Int) (mod : List Int) (N : Int) (L : List (List Int)) (w : World) (e : Ending) (w' : World) : Prop :=
 Below w.heap.size w w'∧((dimE P M mod N L ≠ 0∧e = .returned (.tuple #[.slice none 0 0,.int .i64 (dimE P M mod N L)])) ∨
  (dimE P M mod N L=0∧∃ a c,e = .returned (.tuple #[.slice a (N.toNat+1) c,.int .i64 0])∧w'.ownsRow w.heap.size 3 1 (.slice a (N.toNat+1) c) (N.toNat+1) ((profS (dimsS (tblOf P M.toNat mod).ops N.toNat L) N.toNat).map (Value.int .i64))))
theorem dimE_zero {P M : Int} {mod : List Int} {N : Int} {L : List (List Int)} (h : dimE P M mod N L=0) : codeE P M mod N L=0∧1≤N∧N≤16:=by
 unfold dimE at h
 by_cases hE : codeE P M mod N L=0
 ·rw [if_pos hE] at h
  obtain ⟨m,e,h1,_,_⟩:=codeE_fld hE
  by_cases h2 : 16<N
  ·rw [if_pos h2] at h;cases h
  ·exact ⟨hE,by omega,by omega⟩
 ·rw [if_neg hE] at h;exact absurd h hE
set_option maxRecDepth 100000 in
set_option maxHeartbeats 4000000 in
theorem profile_any (P M : Int) (am : Option Addr) (mn cm : Nat) (mod : List Int) (N : Int) (a : Option Addr) (n c : Nat) (L : List (List Int)) (w : World) (hmod : Ints w am mn mod) (hi : Mat w a n L) :
  Calls Tryz.prog 30 #[.agg #[.int .i64 P,.int .i64 M,.slice am mn cm,.int .i64 N,.slice a n c]] w (ProfPost P M mod N L w):=by
 go_enter Tryz.func30,Tryz.ntmps30
 go_wp2_with fail
 obtain ⟨U,hU⟩ : ∃ U : World,U=w.alloc (.cells #[.int .i64 P,.int .i64 M,.slice am mn cm,.int .i64 N,.slice a n c] 27):=⟨_,rfl⟩
 rw [← hU]
 have hbU : Below w.heap.size w U:=by rw [hU];exact below1 _ _
 have x0 : Box U w.heap.size [.int .i64 P,.int .i64 M,.slice am mn cm,.int .i64 N,.slice a n c]:=by rw [hU];exact Box.new _ _ _ rfl
 have HX:=Lib.hid x0
 clear hU x0
 refine (dims_any P M am mn cm mod N a n c L U (hmod.keep hbU) (hi.keep hbU)).mono ?_
 rintro e w1 ⟨hb1,⟨hE,rfl⟩ | ⟨hE,a1,c1,rfl,hown⟩⟩
 ·obtain ⟨er,her⟩ : ∃ er,dimE P M mod N L=er:=⟨_,rfl⟩
  have Her:=Lib.hid her
  rw [her] at hE ⊢
  have Hne:=Lib.hid hE
  have hE' : (er != 0)=true:=by simpa using hE
  have hF:=Below.next hbU hb1
  clear hE her
  go_wp2_with fail
  go_ret2
  exact ⟨hF,.inl ⟨by rw [Her.out];exact Hne.out,by rw [Her.out];rfl⟩⟩
 obtain ⟨hc0,hN1,hN16⟩:=dimE_zero hE
 obtain ⟨m,rfl⟩ : ∃ m : Nat,N=m:=⟨N.toNat,by omega⟩
 have hm16 : m≤16:=by omega
 have HE:=Lib.hid hE
 rw [Int.toNat_natCast] at hown ⊢
 obtain ⟨l,hl⟩ : ∃ l,dimsS (tblOf P M.toNat mod).ops m L=l:=⟨_,rfl⟩
 rw [hl] at hown
 have Hl:=Lib.hid hl
 obtain ⟨q,hq⟩ : ∃ q,2 ^ m=q:=⟨_,rfl⟩
 have hq17 : q≤65536:=by rw [← hq];exact Nat.pow_le_pow_right (by omega) hm16
 have HL : Hid (∀ x,x<q→∀ V,Calls Tryz.prog 73 #[.int .i64 x] V (NewInts V (bitsTo x m))):=fun x hx V=>hlist_any x m (by rw [hq];exact hx) hm16 V
 rw [hq] at hown ⊢
 have Hq:=Lib.hid hq
 have x1:=HX.out.keep hb1
 have c3:=x1.cell 3 rfl
 have hi1:=(Ints.own hown).1
 have hpl1:=hi1.pl
 have hbw1:=Below.next hbU hb1
 have Ho:=Lib.hid hown
 clear hE hc0 x1 hl hq hown
 obtain ⟨m1,hm1⟩ : ∃ m1,m+1=m1:=⟨_,rfl⟩
 have em : (m : Int)+1=(m1 : Int):=by omega
 have Hm1:=Lib.hid hm1
 have hm1b : m1≤17:=by omega
 have hml : m<m1:=by omega
 clear hm1
 go_wp2_with (at_make;refine wpList_mk rfl _ _ 22 3 rfl (.int .i64 0) 8 Tryz.underlying22 infoInt rfl m1 rfl rfl (by omega) (by unfold maxLen;omega) ?_;intro a4 w4 hown4 hb4 hge4 hlt4)
 have hb4w : Below w1.heap.size w1 w4:=hb4
 have hown4' : w4.ownsRow w1.heap.size 3 1 (.slice a4 m1 m1) m1 (List.replicate m1 (.int .i64 0)):=hown4
 clear hown4 hb4
 go_loopw [24] (fun iv wr=>∃ k : Nat,k≤q∧iv = .int .i64 k∧wr.ownsRow w1.heap.size 3 1 (.slice a4 m1 m1) m1 ((profTo l m k).map (Value.int .i64))∧Below w1.heap.size w1 wr) (fun iv _=>q - (intOf iv).toNat)
 case atStart=>exact ⟨0,Nat.zero_le _,rfl,by rw [profTo,Hm1.out,List.map_replicate];exact hown4',hb4w⟩
 case round =>
  obtain ⟨k,hk,rfl,hown,hbr⟩:=hrel
  by_cases hlt : k<q
  ·have ck:=(hi1.keep hbr).cell k hlt
   have Hlist:=Lib.hid (HL.out k hlt wr)
   have hbl:=bitsTo_len k m
   obtain ⟨s,hs⟩ : ∃ s,bitsTo k m=s:=⟨_,rfl⟩
   have Hst : Hid (profTo l m (k+1)=(profTo l m k).set s.length (max (nth (profTo l m k) s.length) (nth l k))):=by show _=_;rw [profTo,hs]
   rw [hs] at Hlist hbl
   clear hs
   have hsl : s.length<m1:=by omega
   have hsl' : (s.length : Int)<(m1 : Int):=by omega
   generalize profTo l m k=out at *
   have Hown:=Lib.hid hown
   clear hown
   go_wp2_with (go_at_call 73;refine Hlist.out.mono ?_;rintro e w5 ⟨a5,c5,rfl,hown5,hb5⟩;have hownr:=own_keep Hown.out hb5;obtain ⟨ir,mr⟩:=Ints.own hownr;have hplr:=ir.pl;have cir:=ir.cell s.length (by omega);have fir:=(mr (by omega)).2 s.length (by omega);have hBr:=(mr (by omega)).1;clear hown5)
   go_roundw
   case rel =>
    refine ⟨k+1,by omega,by go_num,?_,?_⟩
    ·rw [Hst.out,List.map_set]
     have h1:=own_set hownr s.length (by omega) (.int .i64 (max (nth out s.length) (nth l k)))
     first | exact h1 | simpa using h1
    ·first | exact (Below.next hbr hb5).setCell hBr _ | exact ((Below.next hbr hb5).setCell (p:=⟨ablk a4,aoff a4+s.length,none⟩) hBr _)
   case measure=>simp [intOf] <;> omega
  ·obtain rfl : k=q:=by omega
   have hF:=Below.next hbw1 hbr
   have Hown:=Lib.hid hown
   clear hown
   go_wp2_with fail
   go_ret2
   refine ⟨hF,.inr ⟨HE.out,a4,m1,by rw [Int.toNat_natCast,Hm1.out];rfl,?_⟩⟩
   rw [Int.toNat_natCast,Hl.out,profS,Hq.out,Hm1.out]
   exact own_mono Hown.out hbw1.size
end

section
open Go.RowKit
def wthS (G : Tbl) (m : Nat) (L : List (List Int)) (S : List Int) : List (List Int):=dualL G (dualL G L m ++ (frTo false S m).map (unitZ m)) m
theorem wthS_eq (G : Tbl) (m : Nat) (L : List (List Int)) (S : List Int) : wthS G m L S=withO G.ops m L (frTo false S m):=rfl
end

end Go.Proofs.YtcflcogbpnmjeaaGreat
