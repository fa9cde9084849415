/-  -/
import Derived.Test.YtcflcogbpnmjeaaGreatK29
import Derived.Test.YtcflcogbpnmjeaaGreatK24
import Derived.Test.YtcflcogbpnmjeaaGreatK11
import Derived.Test.YtcflcogbpnmjeaaGreatK15
import Derived.Test.YtcflcogbpnmjeaaGreatK21
import Derived.Test.YtcflcogbpnmjeaaGreatK17
namespace Go.Proofs.YtcflcogbpnmjeaaGreat
set_option linter.unusedVariables false
set_option linter.unusedSimpArgs false
set_option linter.unusedSectionVars false

section
open Go.RowKit
def ixGo (r : Int) : List Int→Nat→Int
 | [],_=>-1
 | x :: l,k=>if r≤x then k else ixGo r l (k+1)
def ixGe (l : List Int) (r : Int) : Int:=ixGo r l 0
theorem ixGo_at (r : Int) : ∀ (l : List Int) (k s : Nat),k<l.length→(∀ j,j<k→nth l j<r)→r≤nth l k→ixGo r l s=(s+k : Nat)
 | [],k,s,h,_,_=>by simp at h
 | x :: l,0,s,_,_,h=>by
  have : r≤x:=by simpa [nth] using h
  rw [ixGo,if_pos this];simp
 | x :: l,k+1,s,hk,h0,h1=>by
  have hx : x<r:=by simpa [nth] using h0 0 (by omega)
  rw [ixGo,if_neg (by omega),ixGo_at r l k (s+1) (by simpa using hk) (fun j hj=>by simpa [nth] using h0 (j+1) (by omega)) (by simpa [nth] using h1)]
  congr 1;omega
theorem ixGo_none (r : Int) : ∀ (l : List Int) (s : Nat),(∀ j,j<l.length→nth l j<r)→ixGo r l s = -1
 | [],s,_=>rfl
 | x :: l,s,h=>by
  have hx : x<r:=by simpa [nth] using h 0 (by simp)
  rw [ixGo,if_neg (by omega),ixGo_none r l (s+1) (fun j hj=>by simpa [nth] using h (j+1) (by simpa using hj))]
theorem wt1_any (q : Nat) (r x : Int) (w : World) (hc : w.cell? ⟨q,0,none⟩=some (.int .i64 r)) :
  Calls Tryz.prog 69 #[.int .i64 x,.pointer (some ⟨q,0,none⟩)] w fun e w'=>e = .returned (.bool (decide (r≤x)))∧w=w':=by
 go_enter Tryz.func69,Tryz.ntmps69
 go_wp2
 go_ret
 exact ⟨rfl,rfl⟩
set_option maxHeartbeats 1600000 in
theorem indexWt_any (q : Nat) (r : Int) (a : Option Addr) (n c : Nat) (l : List Int) (w : World) (hc : w.cell? ⟨q,0,none⟩=some (.int .i64 r)) (hi : Ints w a n l) :
  Calls Tryz.prog 68 #[.slice a n c,.func (.func 69) #[] #[.pointer (some ⟨q,0,none⟩)]] w fun e w'=>e = .returned (.int .i64 (ixGe l r))∧w=w':=by
 have Hlen:=Lib.hid hi.len
 have hpl:=hi.pl
 have hmax:=hi.max
 unfold maxLen at hmax
 go_enter Tryz.func68,Tryz.ntmps68
 go_wp2_with fail
 go_loop [8] (fun iv=>∃ k : Nat,k≤n∧iv = .int .i64 k∧Hid (∀ j,j<k→nth l j<r)) (fun iv=>n - (intOf iv).toNat)
 case atStart=>exact ⟨0,Nat.zero_le _,rfl,fun j hj=>by omega⟩
 case round =>
  obtain ⟨k,hk,rfl,hall⟩:=hrel
  by_cases hlt : k<n
  ·have ck:=hi.cell k hlt
   have hct:=wt1_any q r (nth l k) w hc
   by_cases hz : r≤nth l k
   ·have Hf : Hid (ixGe l r=k):=by
     show _=_
     rw [ixGe,ixGo_at r l k 0 (by rw [Hlen.out];exact hlt) hall.out hz];simp
    rw [show decide (r≤nth l k)=true by simpa using hz] at hct
    have Hc:=Lib.hid hct
    clear hz hct
    go_wp2_with fail
    refine Hc.out.mono ?_
    rintro e w' ⟨rfl,rfl⟩
    go_wp2_with fail
    go_ret
    exact ⟨ret_int Hf.out.symm,rfl⟩
   ·have Hz : Hid (nth l k<r):=by show _<_;omega
    rw [show decide (r≤nth l k)=false by simpa using hz] at hct
    have Hc:=Lib.hid hct
    clear hz hct
    go_wp2_with fail
    refine Hc.out.mono ?_
    rintro e w' ⟨rfl,rfl⟩
    go_wp2_with fail
    go_round
    case rel=>exact ⟨k+1,by omega,by go_num,fun j hj=>by
     rcases Nat.lt_or_ge j k with h | h
     ·exact hall.out j h
     ·rw [show j=k by omega];exact Hz.out⟩
    case measure=>simp [intOf] <;> omega
  ·obtain rfl : k=n:=by omega
   have Hf : Hid (ixGe l r = -1):=by
    show _=_
    rw [ixGe,ixGo_none r l 0 (by rw [Hlen.out];exact hall.out)]
   go_wp2_with fail
   go_ret
   exact ⟨ret_int Hf.out.symm,rfl⟩
def wtsTo (p : List Int) (k : Nat) : List Int:=(List.range k).map fun (i : Nat)=>ixGe p ((i : Int)+1)
theorem wtsTo_succ (p : List Int) (k : Nat) : wtsTo p (k+1)=wtsTo p k ++ [ixGe p ((k : Int)+1)]:=by unfold wtsTo;rw [List.range_succ];simp
theorem wtsTo_len (p : List Int) (k : Nat) : (wtsTo p k).length=k:=by simp [wtsTo]
def wtsS (O : FOps) (m : Nat) (L : List (List Int)) : List Int:=wtsTo (profS (dimsS O m L) m) L.length
def WtsPost (P M : Int) (mod : List Int) (N : Int) (L : List (List Int)) (n : Nat) (w : World) (e : Ending) (w' : World) : Prop :=
 Below w.heap.size w w'∧((dimE P M mod N L ≠ 0∧e = .returned (.tuple #[.slice none 0 0,.int .i64 (dimE P M mod N L)])) ∨
  (dimE P M mod N L=0∧∃ a c,e = .returned (.tuple #[.slice a n c,.int .i64 0])∧w'.ownsRow w.heap.size 3 1 (.slice a n c) n ((wtsS (tblOf P M.toNat mod).ops N.toNat L).map (Value.int .i64))))
set_option maxRecDepth 100000 in
set_option maxHeartbeats 4000000 in
theorem weights_any (P M : Int) (am : Option Addr) (mn cm : Nat) (mod : List Int) (N : Int) (a : Option Addr) (n c : Nat) (L : List (List Int)) (w : World) (hmod : Ints w am mn mod) (hi : Mat w a n L) :
  Calls Tryz.prog 28 #[.agg #[.int .i64 P,.int .i64 M,.slice am mn cm,.int .i64 N,.slice a n c]] w (WtsPost P M mod N L n w):=by
 have hmf : ∀ (fn : Fn) (first cap : Array Value) (w : World),(Instr.makeFunc fn first cap).run Tryz.prog w = .ok (.func fn first cap) w:=fun _ _ _ _=>rfl
 have Hil:=Lib.hid hi.len
 go_enter Tryz.func28,Tryz.ntmps28
 go_wp2_with fail
 obtain ⟨U,hU⟩ : ∃ U : World,U=w.alloc (.cells #[.int .i64 P,.int .i64 M,.slice am mn cm,.int .i64 N,.slice a n c] 27):=⟨_,rfl⟩
 rw [← hU]
 have hbU : Below w.heap.size w U:=by rw [hU];exact below1 _ _
 have x0 : Box U w.heap.size [.int .i64 P,.int .i64 M,.slice am mn cm,.int .i64 N,.slice a n c]:=by rw [hU];exact Box.new _ _ _ rfl
 have HX:=Lib.hid x0
 clear hU x0
 refine (profile_any P M am mn cm mod N a n c L U (hmod.keep hbU) (hi.keep hbU)).mono ?_
 rintro e w1 ⟨hb1,⟨hE,rfl⟩ | ⟨hE,a1,c1,rfl,hown⟩⟩
 ·obtain ⟨er,her⟩ : ∃ er,dimE P M mod N L=er:=⟨_,rfl⟩
  have Her:=Lib.hid her
  rw [her] at hE ⊢
  have Hne:=Lib.hid hE
  have hE' : (er != 0)=true:=by simpa using hE
  have hF:=Below.next hbU hb1
  clear hE her
  go_wp2_with fail
  go_ret2
  exact ⟨hF,.inl ⟨by rw [Her.out];exact Hne.out,by rw [Her.out];rfl⟩⟩
 have hn256 : n≤256:=by rw [← hi.len];exact (codeE_rws (dimE_zero hE).1).choose_spec.2.2.2.1
 have HE:=Lib.hid hE
 obtain ⟨p,hp⟩ : ∃ p,profS (dimsS (tblOf P M.toNat mod).ops N.toNat L) N.toNat=p:=⟨_,rfl⟩
 rw [hp] at hown
 have Hp : Hid (wtsS (tblOf P M.toNat mod).ops N.toNat L=wtsTo p n):=by show _=_;rw [wtsS,hp,Hil.out]
 have hi1:=(Ints.own hown).1
 have hbw1:=Below.next hbU hb1
 clear hE hp hown
 go_upto_region 6 with fail
 obtain ⟨W2,hW2⟩ : ∃ W2 : World,W2=w1.alloc (.cells #[.int .i64 1] 3):=⟨_,rfl⟩
 rw [← hW2]
 have hb2 : Below w1.heap.size w1 W2:=by rw [hW2];exact below1 _ _
 have y2 : Box W2 w1.heap.size [.int .i64 1]:=by rw [hW2];exact Box.new _ _ _ rfl
 clear hW2
 go_loopw [6,7] (fun ov pv wr=>∃ (r : Nat) (ao : Option Addr) (co q : Nat),r≤n∧pv = .pointer (some ⟨q,0,none⟩)∧Box wr q [.int .i64 ((r : Int)+1)]∧ov = .slice ao r co∧wr.ownsRow w1.heap.size 3 1 (.slice ao r co) r ((wtsTo p r).map (Value.int .i64))∧Apt ao q∧Below w1.heap.size w1 wr)
  (fun ov _ _=>n - lenVal ov)
 case atStart=>exact ⟨0,none,0,w1.heap.size,Nat.zero_le _,rfl,y2,rfl,own_none,.inl rfl,hb2⟩
 case round =>
  obtain ⟨r,ao,co,q,hr,rfl,hBq,rfl,hop,hap,hbr⟩:=hrel
  have cq:=hBq.cell 0 rfl
  have c4:=((HX.out.keep hb1).keep hbr).cell 4 rfl
  by_cases hlt : r<n
  ·have hd : decide ((r : Int)+1≤(n : Int))=true:=by simp;omega
   have Hc:=Lib.hid (indexWt_any q ((r : Int)+1) a1 (N.toNat+1) c1 p wr cq (hi1.keep hbr))
   have Hst : Hid (wtsTo p (r+1)=wtsTo p r ++ [ixGe p ((r : Int)+1)]):=wtsTo_succ p r
   have hwl:=wtsTo_len p r
   generalize ixGe p ((r : Int)+1)=v at *
   generalize wtsTo p r=out at *
   subst hwl
   have hcn:=cell_new wr (.int .i64 v) 3
   have hbn:=below1 wr (.cells #[.int .i64 v] 3)
   have hsz:=hbr.size
   have HBq:=Lib.hid hBq
   clear hBq
   go_wp2_with fail
   refine Hc.out.mono ?_
   rintro e w' ⟨rfl,rfl⟩
   have cq8:=cell_box cq (.cells #[.int .i64 v] 3)
   have hop8:=hop.alloc (.cells #[.int .i64 v] 3)
   have hsz8 : w1.heap.size≤(wr.alloc (.cells #[.int .i64 v] 3)).heap.size:=by simp;omega
   clear Hc
   go_wp2_with (at_builtin;refine wpList_push rfl _ _ 22 3 rfl (.int .i64 0) 8 Tryz.underlying22 infoInt rfl w1.heap.size ao out.length co _ rfl hop8 ⟨wr.heap.size,0,none⟩ 1 (.int .i64 v) rfl hcn rfl (by omega) (by unfold maxLen;omega) hsz8 ?_;intro a5 c5 w5 hown5 hgr5 hap5;have cq5:=cell_grownApt hgr5 cq8 hap)
   go_roundw
   case rel =>
    have hb5:=Below.app (Below.trans hbr (hbn.mono hsz)) (hop.alloc _) hgr5 (Nat.le_refl _) (Nat.le_trans hsz hbn.size)
    have hbw5 : Below w5.heap.size w5 (w5.alloc (.cells #[.int .i64 ((out.length : Int)+1+1)] 3)):=below1 _ _
    have yb : Box (w5.alloc (.cells #[.int .i64 ((out.length : Int)+1+1)] 3)) w5.heap.size [.int .i64 ((out.length : Int)+1+1)]:=Box.new _ _ _ rfl
    have hlt5 : a5=none∨ablk a5<w5.heap.size:=by
     rcases own_lt hown5 with ⟨h,_⟩ | ⟨_,h⟩
     ·exact .inl h
     ·exact .inr h
    refine ⟨out.length+1,a5,c5,w5.heap.size,by omega,rfl,by simpa using yb,rfl,?_,?_,Below.next hb5 hbw5⟩
    ·rw [Hst.out]
     have h1:=own_keep hown5 hbw5
     simpa using h1
    ·rcases hlt5 with h | h
     ·exact .inl h
     ·exact .inr (by omega)
   case measure=>simp [lenVal] <;> omega
  ·obtain rfl : r=n:=by omega
   have hd : decide ((r : Int)+1≤(r : Int))=false:=by simp;omega
   have hF:=Below.next hbw1 hbr
   have Hop:=Lib.hid hop
   clear hop
   go_wp2_with fail
   go_ret2
   exact ⟨hF,.inr ⟨HE.out,ao,co,rfl,by rw [Hp.out];exact own_mono Hop.out hbw1.size⟩⟩
def witnE (P M : Int) (mod : List Int) (N : Int) (L : List (List Int)) (r : Int) : Int :=
 if codeE P M mod N L=0 then (if r<1∨(L.length : Int)<r then 6 else dimE P M mod N L) else codeE P M mod N L
def witS (O : FOps) (m : Nat) (L : List (List Int)) (r : Int) : List Int:=(witTo (dimsS O m L) m r (2 ^ m)).2
def WitPost (P M : Int) (mod : List Int) (N : Int) (L : List (List Int)) (r : Int) (w : World) (e : Ending) (w' : World) : Prop :=
 Below w.heap.size w w'∧((witnE P M mod N L r ≠ 0∧e = .returned (.tuple #[.slice none 0 0,.int .i64 (witnE P M mod N L r)])) ∨
  (witnE P M mod N L r=0∧∃ a c,e = .returned (.tuple #[.slice a (witS (tblOf P M.toNat mod).ops N.toNat L r).length c,.int .i64 0]) ∧
   w'.ownsRow w.heap.size 3 1 (.slice a (witS (tblOf P M.toNat mod).ops N.toNat L r).length c) (witS (tblOf P M.toNat mod).ops N.toNat L r).length ((witS (tblOf P M.toNat mod).ops N.toNat L r).map (Value.int .i64))))
set_option maxRecDepth 100000 in
set_option maxHeartbeats 4000000 in
theorem witnessF_any (P M : Int) (am : Option Addr) (mn cm : Nat) (mod : List Int) (N : Int) (a : Option Addr) (n c : Nat) (L : List (List Int)) (r : Int) (w : World) (hmod : Ints w am mn mod) (hi : Mat w a n L) :
  Calls Tryz.prog 33 #[.agg #[.int .i64 P,.int .i64 M,.slice am mn cm,.int .i64 N,.slice a n c],.int .i64 r] w (WitPost P M mod N L r w):=by
 have Hil:=Lib.hid hi.len
 go_enter Tryz.func33,Tryz.ntmps33
 go_wp2_with fail
 obtain ⟨U,hU⟩ : ∃ U : World,U=w.alloc (.cells #[.int .i64 P,.int .i64 M,.slice am mn cm,.int .i64 N,.slice a n c] 27):=⟨_,rfl⟩
 rw [← hU]
 have hbU : Below w.heap.size w U:=by rw [hU];exact below1 _ _
 have x0 : Box U w.heap.size [.int .i64 P,.int .i64 M,.slice am mn cm,.int .i64 N,.slice a n c]:=by rw [hU];exact Box.new _ _ _ rfl
 have HX:=Lib.hid x0
 clear hU x0
 refine (codeCheck_any P M am mn cm mod N a n c L U (hmod.keep hbU) (hi.keep hbU)).mono ?_
 rintro e w1 ⟨rfl,hb1⟩
 have hbw1:=Below.next hbU hb1
 by_cases hE : codeE P M mod N L=0
 rotate_left
 ·have HE : Hid (witnE P M mod N L r=codeE P M mod N L):=if_neg hE
  have Hne:=Lib.hid hE
  have hE' : (codeE P M mod N L != 0)=true:=by simpa using hE
  clear hE
  generalize codeE P M mod N L=er at *
  go_wp2_with fail
  go_ret2
  exact ⟨hbw1,.inl ⟨by rw [HE.out];exact Hne.out,by rw [HE.out];rfl⟩⟩
 have x1:=HX.out.keep hb1
 have c4:=x1.cell 4 rfl
 by_cases h1 : r<1
 ·have HE : Hid (witnE P M mod N L r=6):=by show _=_;rw [witnE,if_pos hE,if_pos (.inl h1)]
  have d1 : decide (r<1)=true:=by simpa using h1
  rw [hE]
  clear hE h1 x1
  go_wp2_with fail
  go_ret2
  exact ⟨hbw1,.inl ⟨by rw [HE.out];decide,by rw [HE.out];rfl⟩⟩
 have d1 : decide (r<1)=false:=by simpa using h1
 by_cases h2 : (n : Int)<r
 ·have HE : Hid (witnE P M mod N L r=6):=by show _=_;rw [witnE,if_pos hE,if_pos (.inr (by rw [Hil.out];exact h2))]
  have d2 : decide ((n : Int)<r)=true:=by simpa using h2
  rw [hE]
  clear hE h1 h2 x1
  go_wp2_with fail
  go_ret2
  exact ⟨hbw1,.inl ⟨by rw [HE.out];decide,by rw [HE.out];rfl⟩⟩
 have d2 : decide ((n : Int)<r)=false:=by simpa using h2
 have HE : Hid (witnE P M mod N L r=dimE P M mod N L):=by show _=_;rw [witnE,if_pos hE,if_neg (by rw [Hil.out];omega)]
 have c0:=x1.cell 0 rfl
 have c1:=x1.cell 1 rfl
 have c2:=x1.cell 2 rfl
 have c3:=x1.cell 3 rfl
 have Hdm:=Lib.hid (dims_any P M am mn cm mod N a n c L w1 ((hmod.keep hbU).keep hb1) ((hi.keep hbU).keep hb1))
 rw [hE]
 clear hE h1 h2 x1
 go_wp2_with fail
 refine Hdm.out.mono ?_
 rintro e w2 ⟨hb2,⟨hE,rfl⟩ | ⟨hE,a2,c2',rfl,hown⟩⟩
 ·have Hne:=Lib.hid hE
  have hE' : (dimE P M mod N L != 0)=true:=by simpa using hE
  have hF:=Below.next hbw1 hb2
  clear hE c0 c1 c2 c3 c4
  generalize dimE P M mod N L=er at *
  go_wp2_with fail
  go_ret2
  exact ⟨hF,.inl ⟨by rw [HE.out];exact Hne.out,by rw [HE.out];rfl⟩⟩
 obtain ⟨_,hN1,hN16⟩:=dimE_zero hE
 have HE0 : Hid (witnE P M mod N L r=0):=by show _=_;rw [HE.out,hE]
 obtain ⟨m,rfl⟩ : ∃ m : Nat,N=m:=⟨N.toNat,by omega⟩
 have hm16 : m≤16:=by omega
 rw [Int.toNat_natCast] at hown
 have Hw:=Lib.hid (witness_any a2 c2' m (dimsS (tblOf P M.toNat mod).ops m L) r w2 hm16 (Ints.own hown).1)
 have hbw2:=Below.next hbw1 hb2
 obtain ⟨S,hS⟩ : ∃ S,(witTo (dimsS (tblOf P M.toNat mod).ops m L) m r (2 ^ m)).2=S:=⟨_,rfl⟩
 have HS : Hid (witS (tblOf P M.toNat mod).ops m L r=S):=hS
 rw [hS] at Hw
 obtain ⟨q,hq⟩ : ∃ q,2 ^ m=q:=⟨_,rfl⟩
 rw [hq] at Hw
 rw [Int.toNat_natCast,hq]
 clear hE c0 c1 c2 c3 c4 hown hS hq
 go_wp2_with fail
 refine Hw.out.mono ?_
 rintro e w3 ⟨a3,c3,rfl,hown3,hb3⟩
 have hF:=Below.next hbw2 hb3
 go_wp2_with fail
 go_ret2
 refine ⟨hF,.inr ⟨HE0.out,?_⟩⟩
 rw [Int.toNat_natCast,HS.out]
 exact ⟨a3,c3,rfl,own_mono hown3 hbw2.size⟩
end

section
open Go.RowKit
section
variable {O : FOps} {El : Int→Prop} {m : Nat} {L : List (List Int)}
theorem frTo_bits (x m : Nat) : ∀ k,k≤m→frTo false (bitsTo x m) k=offTo x k
 | 0,_=>rfl
 | k+1,hk=>by
  have e : decide ((k : Int) ∈ bitsTo x m)=x.testBit k:=by
   rw [Bool.eq_iff_iff,decide_eq_true_eq,mem_bitsTo]
   constructor
   ·rintro ⟨j,_,h2,h3⟩
    have : j=k:=by omega
    rw [← this];exact h3
   ·intro h;exact ⟨k,by omega,rfl,h⟩
  rw [frTo,offTo,e,frTo_bits x m k (by omega)]
  cases x.testBit k <;> rfl
theorem dimZ_bits (F : Fld O El) (hL : Rws El m L) {x : Nat} (hx : x<2 ^ m) : dimZ O L m (bitsTo x m)=nth (dimsS O m L) x:=by
 have h:=leaf_len F hL x
 rw [dims_nth F hL hx,dimZ,frTo_bits x m m (Nat.le_refl m)]
 omega
theorem wit_fir (F : Fld O El) (hL : Rws El m L) (hm : m≤64) (r : Int) : witS O m L r=firS O L m r:=by
 refine (wit_first (l:=dimsS O m L) (n:=m) hm (r:=r) (p:=pD O L m r) fun x hx=>?_).1
 unfold pD
 rw [decide_eq_true_eq,dimZ_bits F hL hx]
 omega
end
end

section
open Go.RowKit
end

section
open Go.RowKit
def suE (P M : Int) (mod : List Int) (N : Int) (L : List (List Int)) (S : List Int) : Int:=if codeE P M mod N L=0 then (if okSet N S=true then 0 else 6) else codeE P M mod N L
def SuPost (P M : Int) (mod : List Int) (N : Int) (L : List (List Int)) (S : List Int) (w : World) (e : Ending) (w' : World) : Prop :=
 Below w.heap.size w w'∧((suE P M mod N L S ≠ 0∧e = .returned (.tuple #[.agg #[.int .i64 0,.int .i64 0,.slice none 0 0,.int .i64 0,.slice none 0 0],.int .i64 (suE P M mod N L S)])) ∨
  (suE P M mod N L S=0∧∃ a1 c1 a2 c2,e = .returned (.tuple #[.agg #[.int .i64 P,.int .i64 M,.slice a1 mod.length c1,.int .i64 N,.slice a2 (supS (tblOf P M.toNat mod) N.toNat L S).length c2],.int .i64 0])∧IntsN w.heap.size w' a1 mod.length mod ∧
   MatN w.heap.size w' a2 (supS (tblOf P M.toNat mod) N.toNat L S).length (supS (tblOf P M.toNat mod) N.toNat L S)))
theorem sup_facts {P M : Int} {mod : List Int} {m : Nat} {L : List (List Int)} (hE : codeE P M mod m L=0) (S : List Int) :
  Rws (tblOf P M.toNat mod).El m (supS (tblOf P M.toNat mod) m L S)∧(supS (tblOf P M.toNat mod) m L S).length≤m∧canS (tblOf P M.toNat mod) (supS (tblOf P M.toNat mod) m L S) m=supS (tblOf P M.toNat mod) m L S ∧
   wthS (tblOf P M.toNat mod) m L S=supS (tblOf P M.toNat mod) m L S:=by
 obtain ⟨N',em,hm1,hm64,F,hR⟩:=codeE_fld hE
 obtain rfl : m=N':=by omega
 have hT:=trn_rws (Z:=frTo false S m) F hR
 have hMr:=mtL_rws (O:=(tblOf P M.toNat mod).ops) F hR (nul_rws F hT)
 refine ⟨supp_rws F hR,?_,canO_idem F hMr,?_⟩
 ·have h1:=canO_len F hMr
  have h2:=(elimTo_piv (tblOf P M.toNat mod).ops (mtL (tblOf P M.toNat mod).ops m (nulO (tblOf P M.toNat mod).ops L.length ((List.range (frTo false S m).length).map (colS (L.map (pickL (frTo false S m)))))) L) m).1
  show (canO (tblOf P M.toNat mod).ops m _).length≤m
  omega
 ·rw [wthS_eq]
  exact (supp_with F hR fun z hz=>by
   obtain ⟨i,h1,h2,_⟩:=(mem_frTo m).1 hz
   omega).symm
theorem codeE_nat {P M : Int} {mod : List Int} {N : Int} {L : List (List Int)} (h : codeE P M mod N L=0) : ∃ m : Nat,N=m:=by
 obtain ⟨m,e,_⟩:=codeE_fld h
 exact ⟨m,e⟩
set_option maxRecDepth 100000 in
set_option maxHeartbeats 4000000 in
theorem hSupported_any (P M : Int) (am : Option Addr) (mn cm : Nat) (mod : List Int) (N : Int) (a : Option Addr) (n c : Nat) (L : List (List Int)) (as' : Option Addr) (ns cs : Nat) (S : List Int) (w : World) (hmod : Ints w am mn mod) (hi : Mat w a n L) (hs : Ints w as' ns S) :
  Calls Tryz.prog 35 #[.agg #[.int .i64 P,.int .i64 M,.slice am mn cm,.int .i64 N,.slice a n c],.slice as' ns cs] w (SuPost P M mod N L S w):=by
 go_enter Tryz.func35,Tryz.ntmps35
 go_wp2_with fail
 obtain ⟨W,hW⟩ : ∃ W : World,W=(w.alloc (.cells #[.int .i64 P,.int .i64 M,.slice am mn cm,.int .i64 N,.slice a n c] 27)).alloc (.cells #[.int .i64 0,.int .i64 0,.slice none 0 0,.int .i64 0,.slice none 0 0] 27):=⟨_,rfl⟩
 rw [← hW]
 have hbW : Below w.heap.size w W:=by rw [hW];exact below2 _ _ _
 have hsW : W.heap.size=w.heap.size+2:=by rw [hW];simp
 have x0 : Box W w.heap.size [.int .i64 P,.int .i64 M,.slice am mn cm,.int .i64 N,.slice a n c]:=by rw [hW];exact (Box.new _ _ _ rfl).alloc _
 have z0 : Box W (w.heap.size+1) [.int .i64 0,.int .i64 0,.slice none 0 0,.int .i64 0,.slice none 0 0]:=by rw [hW];exact Box.new _ _ _ (by simp)
 clear hW
 refine (codeCheck_any P M am mn cm mod N a n c L W (hmod.keep hbW) (hi.keep hbW)).mono ?_
 rintro e w1 ⟨rfl,hb1⟩
 have HbW:=Lib.hid hbW
 have HErr : Hid (∀ V er,suE P M mod N L S=er→er ≠ 0→Below W.heap.size W V→SuPost P M mod N L S w (.returned (.tuple #[.agg #[.int .i64 0,.int .i64 0,.slice none 0 0,.int .i64 0,.slice none 0 0],.int .i64 er])) (((((V.setCell ⟨w.heap.size+1,0,none⟩ (.int .i64 0)).setCell ⟨w.heap.size+1,1,none⟩ (.int .i64 0)).setCell ⟨w.heap.size+1,2,none⟩ (.slice none 0 0)).setCell ⟨w.heap.size+1,3,none⟩ (.int .i64 0)).setCell ⟨w.heap.size+1,4,none⟩ (.slice none 0 0))):=fun V er h1 h2 hV =>
  ⟨(((((Below.next hbW hV).setCell (p:=⟨w.heap.size+1,0,none⟩) (by simp) _).setCell (p:=⟨w.heap.size+1,1,none⟩) (by simp) _).setCell (p:=⟨w.heap.size+1,2,none⟩) (by simp) _).setCell (p:=⟨w.heap.size+1,3,none⟩) (by simp) _).setCell (p:=⟨w.heap.size+1,4,none⟩) (by simp) _,.inl ⟨by rw [h1];exact h2,by rw [h1]⟩⟩
 have HS : Hid (∀ V,Below W.heap.size W V→V.cell? ⟨w.heap.size,0,none⟩=some (.int .i64 P)∧V.cell? ⟨w.heap.size,1,none⟩=some (.int .i64 M)∧V.cell? ⟨w.heap.size,2,none⟩=some (.slice am mn cm)∧V.cell? ⟨w.heap.size,3,none⟩=some (.int .i64 N)∧V.cell? ⟨w.heap.size,4,none⟩=some (.slice a n c) ∧
   Box V (w.heap.size+1) [.int .i64 0,.int .i64 0,.slice none 0 0,.int .i64 0,.slice none 0 0]):=fun V hV=>by
  have x1:=x0.keep hV
  exact ⟨x1.cell 0 rfl,x1.cell 1 rfl,x1.cell 2 rfl,x1.cell 3 rfl,x1.cell 4 rfl,z0.keep hV⟩
 have HsW:=Lib.hid hsW
 clear x0 z0 hsW
 by_cases hE : codeE P M mod N L=0
 rotate_left
 ·obtain ⟨c0,c1,c2,c3,c4,zz⟩:=HS.out w1 hb1
  have z0:=zz.cell 0 rfl
  have z1:=zz.cell 1 rfl
  have z2:=zz.cell 2 rfl
  have z3:=zz.cell 3 rfl
  have z4:=zz.cell 4 rfl
  have f0:=zz.frozen 0
  have f1:=zz.frozen 1
  have f2:=zz.frozen 2
  have f3:=zz.frozen 3
  have f4:=zz.frozen 4
  have HR:=Lib.hid (HErr.out w1 _ (if_neg hE) hE hb1)
  have hE' : (codeE P M mod N L != 0)=true:=by simpa using hE
  clear hE zz
  generalize codeE P M mod N L=er at *
  go_wp2_with fail
  exact bodyPost_ret (v:=.tuple #[.agg #[.int .i64 0,.int .i64 0,.slice none 0 0,.int .i64 0,.slice none 0 0],.int .i64 er]) (by simp [results,Tryz.results35,go_sem,z0,z1,z2,z3,z4]) rfl HR.out
 obtain ⟨m,rfl⟩:=codeE_nat hE
 obtain ⟨hB,hm1,hm64,_⟩:=codeE_zero hE
 have hmn : mn≤1000000:=by have h:=mod_len hB;rw [hmod.len] at h;omega
 obtain ⟨u1,u2,u3,_⟩:=sup_facts hE S
 have hbw1:=Below.next hbW hb1
 have HSp : Hid (Calls Tryz.prog 78 #[.agg #[.int .i64 P,.int .i64 M,.slice am mn cm],.agg #[.int .i64 m,.slice a n c],.slice as' ns cs] w1 (SSPost P M mod m L S w1)):=spaceSupp_any P M am mn cm mod m a n c L as' ns cs S w1 (hmod.keep hbw1) (hi.keep hbw1) (hs.keep hbw1) hE
 have HNw : Hid (∀ V a1 c1,Below w.heap.size w V→Mat V a1 (supS (tblOf P M.toNat mod) m L S).length (supS (tblOf P M.toNat mod) m L S)→Calls Tryz.prog 51 #[.agg #[.int .i64 P,.int .i64 M,.slice am mn cm],.agg #[.int .i64 m,.slice a1 (supS (tblOf P M.toNat mod) m L S).length c1]] V fun e w' =>
   ∃ a1 c1 a2 c2,e = .returned (.tuple #[.agg #[.int .i64 P,.int .i64 M,.slice a1 mod.length c1,.int .i64 m,.slice a2 (supS (tblOf P M.toNat mod) m L S).length c2],.int .i64 0])∧IntsN V.heap.size w' a1 mod.length mod ∧
    MatN V.heap.size w' a2 (supS (tblOf P M.toNat mod) m L S).length (supS (tblOf P M.toNat mod) m L S)∧Below V.heap.size V w'):=fun V a1 c1 hV h1=>by
  have h:=codeNew_any P M am mn cm mod m a1 _ c1 _ V (hmod.keep hV) h1 (fmat_of hB u1 (by omega) (by omega)) (by omega) (by omega) hmn
  unfold CNewPost at h
  rw [u3] at h
  exact h
 have HE0 : Hid (okSet m S=true→suE P M mod m L S=0):=fun h=>by show suE _ _ _ _ _ _=0;unfold suE;rw [if_pos hE,if_pos h]
 have HE6 : Hid (okSet m S=false→suE P M mod m L S=6):=fun h=>by show suE _ _ _ _ _ _=6;unfold suE;rw [if_pos hE,if_neg (by rw [h];decide)]
 have HPost : Hid (∀ a1 c1 a2 c2 w',suE P M mod m L S=0→IntsN w.heap.size w' a1 mod.length mod→MatN w.heap.size w' a2 (supS (tblOf P M.toNat mod) m L S).length (supS (tblOf P M.toNat mod) m L S)→Below w.heap.size w w' →
   SuPost P M mod m L S w (.returned (.tuple #[.agg #[.int .i64 P,.int .i64 M,.slice a1 mod.length c1,.int .i64 m,.slice a2 (supS (tblOf P M.toNat mod) m L S).length c2],.int .i64 0])) w'):=fun a1 c1 a2 c2 w' h0 h1 h2 h3=>⟨h3,.inr ⟨h0,a1,c1,a2,c2,by rw [Int.toNat_natCast],h1,by rw [Int.toNat_natCast];exact h2⟩⟩
 unfold SSPost at HSp
 rw [hE]
 obtain ⟨D,hD⟩ : ∃ D,supS (tblOf P M.toNat mod) m L S=D:=⟨_,rfl⟩
 rw [hD] at HSp HNw HPost
 obtain ⟨d,hd⟩ : ∃ d,D.length=d:=⟨_,rfl⟩
 rw [hd] at HSp HNw HPost
 clear hE hD hd hB u1 u2 u3
 obtain ⟨c0,c1,c2,c3,c4,_⟩:=HS.out w1 hb1
 go_wp2_with fail
 refine HSp.out.mono ?_
 rintro e w2 ⟨hb2,⟨hok,rfl⟩ | ⟨hok,a2,c2',rfl,hN2⟩⟩
 ·have hb3 : Below W.heap.size W (w2.alloc (.cells #[.int .i64 0,.slice none 0 0] 73)):=Below.next (Below.next hb1 hb2) (below1 _ _)
  have HR:=Lib.hid (HErr.out _ _ (HE6.out hok) (by decide) hb3)
  obtain ⟨_,_,_,_,_,zz⟩:=HS.out _ hb3
  clear c0 c1 c2 c3 c4
  go_upto_region 5 with fail
  obtain ⟨V,hV⟩ : ∃ V,w2.alloc (.cells #[.int .i64 0,.slice none 0 0] 73)=V:=⟨_,rfl⟩
  rw [hV] at HR zz ⊢
  clear hV
  have z0:=zz.cell 0 rfl
  have z1:=zz.cell 1 rfl
  have z2:=zz.cell 2 rfl
  have z3:=zz.cell 3 rfl
  have z4:=zz.cell 4 rfl
  have f0:=zz.frozen 0
  have f1:=zz.frozen 1
  have f2:=zz.frozen 2
  have f3:=zz.frozen 3
  have f4:=zz.frozen 4
  clear zz
  go_wp2_with fail
  exact bodyPost_ret (v:=.tuple #[.agg #[.int .i64 0,.int .i64 0,.slice none 0 0,.int .i64 0,.slice none 0 0],.int .i64 6]) (by simp [results,Tryz.results35,go_sem,z0,z1,z2,z3,z4]) rfl HR.out
 ·have hb3 : Below W.heap.size W (w2.alloc (.cells #[.int .i64 m,.slice a2 d c2'] 73)):=Below.next (Below.next hb1 hb2) (below1 _ _)
  have hBx : Box (w2.alloc (.cells #[.int .i64 m,.slice a2 d c2'] 73)) w2.heap.size [.int .i64 m,.slice a2 d c2']:=Box.new _ _ _ rfl
  have hN3:=hN2.keep (below1 w2 (.cells #[.int .i64 m,.slice a2 d c2'] 73))
  have HNV:=Lib.hid (HNw.out _ a2 c2' (Below.next hbW hb3) hN3.mat)
  obtain ⟨g,hg⟩ : ∃ g,w2.heap.size=g:=⟨_,rfl⟩
  clear c0 c1 c2 c3 c4 hN2 hN3
  go_upto_region 5 with fail
  obtain ⟨V,hV⟩ : ∃ V,w2.alloc (.cells #[.int .i64 m,.slice a2 d c2'] 73)=V:=⟨_,rfl⟩
  rw [hV] at HNV hBx hb3 ⊢
  rw [hg] at hBx
  clear hV hg hb2
  obtain ⟨c0,c1,c2,c3,c4,_⟩:=HS.out V hb3
  have g0:=hBx.cell 0 rfl
  have g1:=hBx.cell 1 rfl
  go_wp2_with fail
  refine HNV.out.mono ?_
  rintro e w6 ⟨a6,c6,a5,c5,rfl,hN6,hM6,hb6⟩
  clear c0 c1 c2 c3 c4 g0 g1
  obtain ⟨_,_,_,_,_,zz6⟩:=HS.out w6 (Below.next hb3 hb6)
  have z0:=zz6.cell 0 rfl
  have z1:=zz6.cell 1 rfl
  have z2:=zz6.cell 2 rfl
  have z3:=zz6.cell 3 rfl
  have z4:=zz6.cell 4 rfl
  have f0:=zz6.frozen 0
  have f1:=zz6.frozen 1
  have f2:=zz6.frozen 2
  have f3:=zz6.frozen 3
  have f4:=zz6.frozen 4
  have hbF:=Below.next HbW.out (Below.next hb3 hb6)
  have hs':=HsW.out
  have hs2:=hb3.size
  have hFin:=HPost.out a6 c6 a5 c5 (((((w6.setCell ⟨w.heap.size+1,0,none⟩ (.int .i64 P)).setCell ⟨w.heap.size+1,1,none⟩ (.int .i64 M)).setCell ⟨w.heap.size+1,2,none⟩ (.slice a6 mod.length c6)).setCell ⟨w.heap.size+1,3,none⟩ (.int .i64 m)).setCell ⟨w.heap.size+1,4,none⟩ (.slice a5 d c5)) (HE0.out hok)
   ((((((hN6.setCell (p:=⟨w.heap.size+1,0,none⟩) (by simp;omega) _).setCell (p:=⟨w.heap.size+1,1,none⟩) (by simp;omega) _).setCell (p:=⟨w.heap.size+1,2,none⟩) (by simp;omega) _).setCell (p:=⟨w.heap.size+1,3,none⟩) (by simp;omega) _).setCell (p:=⟨w.heap.size+1,4,none⟩) (by simp;omega) _).mono (by omega))
   ((((((hM6.setCell (p:=⟨w.heap.size+1,0,none⟩) (by simp;omega) _).setCell (p:=⟨w.heap.size+1,1,none⟩) (by simp;omega) _).setCell (p:=⟨w.heap.size+1,2,none⟩) (by simp;omega) _).setCell (p:=⟨w.heap.size+1,3,none⟩) (by simp;omega) _).setCell (p:=⟨w.heap.size+1,4,none⟩) (by simp;omega) _).mono (by omega))
   (((((hbF.setCell (p:=⟨w.heap.size+1,0,none⟩) (by simp) _).setCell (p:=⟨w.heap.size+1,1,none⟩) (by simp) _).setCell (p:=⟨w.heap.size+1,2,none⟩) (by simp) _).setCell (p:=⟨w.heap.size+1,3,none⟩) (by simp) _).setCell (p:=⟨w.heap.size+1,4,none⟩) (by simp) _)
  have HFin:=Lib.hid hFin
  clear hFin hM6 hN6 zz6
  go_wp2_with fail
  exact bodyPost_ret (v:=.tuple #[.agg #[.int .i64 P,.int .i64 M,.slice a6 mod.length c6,.int .i64 m,.slice a5 d c5],.int .i64 0]) (by simp [results,Tryz.results35,go_sem,z0,z1,z2,z3,z4]) rfl HFin.out
end

section
open Go.RowKit
abbrev DGood (n : Int) (l : List Int) (i : Nat) : Prop:=1≤nth l i∧nth l i≤n∧(i=0∨nth l (i - 1)<nth l i)
def duaE (l : List Int) (n : Int) : Int:=if 1≤n∧n≤64∧∀ i,i<l.length→DGood n l i then 0 else 6
def duaTo (l : List Int) (n : Nat) : Nat→List Int
 | 0=>[]
 | k+1=>if ((n - k : Nat) : Int) ∈ l then duaTo l n k else duaTo l n k ++ [(k : Int)+1]
def duaS (l : List Int) (n : Nat) : List Int:=duaTo l n n
theorem duaTo_len (l : List Int) (n : Nat) : ∀ k,(duaTo l n k).length≤k
 | 0=>Nat.le_refl _
 | k+1=>by have:=duaTo_len l n k;rw [duaTo];split <;> simp <;> omega
def DuaPost (l : List Int) (n : Int) (w : World) (e : Ending) (w' : World) : Prop :=
 Below w.heap.size w w'∧((duaE l n ≠ 0∧e = .returned (.tuple #[.slice none 0 0,.int .i64 (duaE l n)])) ∨
  (duaE l n=0∧∃ a c,e = .returned (.tuple #[.slice a (duaS l n.toNat).length c,.int .i64 0])∧w'.ownsRow w.heap.size 3 1 (.slice a (duaS l n.toNat).length c) (duaS l n.toNat).length ((duaS l n.toNat).map (Value.int .i64))))
set_option maxRecDepth 100000 in
set_option maxHeartbeats 4000000 in
theorem duality_any (a : Option Addr) (n c : Nat) (l : List Int) (N : Int) (w : World) (hi : Ints w a n l) :
  Calls Tryz.prog 38 #[.slice a n c,.int .i64 N] w (DuaPost l N w):=by
 have Hl:=Lib.hid hi.len
 have hpl:=hi.pl
 have hmax:=hi.max
 unfold maxLen at hmax
 go_enter Tryz.func38,Tryz.ntmps38
 by_cases h1 : N<1
 ·have HE : Hid (duaE l N=6):=by show _=_;rw [duaE,if_neg fun h=>by omega]
  have d1 : decide (N<1)=true:=by simpa using h1
  clear h1
  go_wp2_with fail
  go_ret2
  exact ⟨Below.refl _ _,.inl ⟨by rw [HE.out];decide,by rw [HE.out];rfl⟩⟩
 have d1 : decide (N<1)=false:=by simpa using h1
 by_cases h2 : 64<N
 ·have HE : Hid (duaE l N=6):=by show _=_;rw [duaE,if_neg fun h=>by omega]
  have d2 : decide (64<N)=true:=by simpa using h2
  clear h1 h2
  go_wp2_with fail
  go_ret2
  exact ⟨Below.refl _ _,.inl ⟨by rw [HE.out];decide,by rw [HE.out];rfl⟩⟩
 have d2 : decide (64<N)=false:=by simpa using h2
 obtain ⟨m,rfl⟩ : ∃ m : Nat,N=m:=⟨N.toNat,by omega⟩
 have hm1 : 1≤m:=by omega
 have hm64 : m≤64:=by omega
 clear h1 h2
 go_wp2_with fail
 go_loop [18] (fun iv=>∃ k : Nat,k≤n∧iv = .int .i64 k∧Hid (∀ j,j<k→DGood m l j)) (fun iv=>n - (intOf iv).toNat)
 case atStart=>exact ⟨0,Nat.zero_le _,rfl,fun j hj=>by omega⟩
 case round =>
  obtain ⟨k,hk,rfl,hall⟩:=hrel
  by_cases hlt : k<n
  ·have ck:=hi.cell k hlt
   by_cases hg : DGood m l k
   ·have Hall : Hid (∀ j,j<k+1→DGood m l j):=fun j hj=>by
     rcases Nat.lt_or_ge j k with h | h
     ·exact hall.out j h
     ·rw [show j=k by omega];exact hg
    obtain ⟨g1,g2,g3⟩:=hg
    have b1 : decide (nth l k<1)=false:=by simp;omega
    have b2 : decide ((m : Int)<nth l k)=false:=by simp;omega
    by_cases h0 : k=0
    ·subst h0
     rw [Nat.add_zero] at ck
     clear g3
     go_wp2_with fail
     go_round
     case rel=>exact ⟨1,by omega,by go_num,Hall.out⟩
     case measure=>simp [intOf] <;> omega
    ·have b3 : decide ((0 : Int)<(k : Int))=true:=by simp;omega
     have ck1:=hi.cell (k - 1) (by omega)
     have e1 : ((k : Int) - 1).toNat=k - 1:=by omega
     have d4 : (0 : Int)≤(k : Int) - 1:=by omega
     have d5 : (1 : Int)≤(k : Int):=by omega
     have d6 : (k : Int) - 1<n:=by omega
     have b4 : decide (nth l k≤nth l (k - 1))=false:=by simp;omega
     clear h0 g3 e1
     go_wp2_with fail
     go_round
     case rel=>exact ⟨k+1,by omega,by go_num,Hall.out⟩
     case measure=>simp [intOf] <;> omega
   ·have HE : Hid (duaE l m=6):=by show _=_;rw [duaE,if_neg fun h=>hg (h.2.2 k (by rw [Hl.out];exact hlt))]
    unfold DGood at hg
    by_cases q1 : nth l k<1
    ·have b1 : decide (nth l k<1)=true:=by simpa using q1
     clear hg q1
     go_wp2_with fail
     go_ret2
     exact ⟨Below.refl _ _,.inl ⟨by rw [HE.out];decide,by rw [HE.out];rfl⟩⟩
    have b1 : decide (nth l k<1)=false:=by simpa using q1
    by_cases q2 : (m : Int)<nth l k
    ·have b2 : decide ((m : Int)<nth l k)=true:=by simpa using q2
     clear hg q1 q2
     go_wp2_with fail
     go_ret2
     exact ⟨Below.refl _ _,.inl ⟨by rw [HE.out];decide,by rw [HE.out];rfl⟩⟩
    have b2 : decide ((m : Int)<nth l k)=false:=by simpa using q2
    have h0 : k ≠ 0:=fun h=>hg ⟨by omega,by omega,.inl h⟩
    have hle : nth l k≤nth l (k - 1):=by
     rcases Int.lt_or_le (nth l (k - 1)) (nth l k) with h | h
     ·exact absurd ⟨by omega,by omega,.inr h⟩ hg
     ·exact h
    have b3 : decide ((0 : Int)<(k : Int))=true:=by simp;omega
    have ck1:=hi.cell (k - 1) (by omega)
    have e1 : ((k : Int) - 1).toNat=k - 1:=by omega
    have d4 : (0 : Int)≤(k : Int) - 1:=by omega
    have d5 : (1 : Int)≤(k : Int):=by omega
    have d6 : (k : Int) - 1<n:=by omega
    have b4 : decide (nth l k≤nth l (k - 1))=true:=by simpa using hle
    clear hg q1 q2 hle e1 h0
    go_wp2_with fail
    go_ret2
    exact ⟨Below.refl _ _,.inl ⟨by rw [HE.out];decide,by rw [HE.out];rfl⟩⟩
  ·obtain rfl : k=n:=by omega
   have HE : Hid (duaE l m=0):=by show _=_;rw [duaE,if_pos ⟨by omega,by omega,fun i hi=>hall.out i (by rw [← Hl.out];exact hi)⟩]
   go_wp2_with fail
   go_loopw [8,9] (fun sv iv wr=>∃ (t : Nat) (aq : Option Addr) (cq : Nat),t≤m∧iv = .int .i64 ((m - t : Nat) : Int)∧sv = .slice aq (duaTo l m t).length cq∧wr.ownsRow w.heap.size 3 1 (.slice aq (duaTo l m t).length cq) (duaTo l m t).length ((duaTo l m t).map (Value.int .i64))∧Below w.heap.size w wr)
    (fun _ iv _=>(intOf iv).toNat)
   case atStart=>exact ⟨0,none,0,Nat.zero_le _,rfl,rfl,own_none,Below.refl _ _⟩
   case round =>
    obtain ⟨t,aq,cq,ht,rfl,rfl,hop,hbr⟩:=hrel
    have hlen:=duaTo_len l m t
    by_cases htm : t<m
    ·obtain ⟨x,hx⟩ : ∃ x : Nat,m - t=x:=⟨_,rfl⟩
     have hx1 : 1≤x:=by omega
     have e1 : (m : Int)+1 - (x : Int)=((t : Int)+1):=by omega
     have e2 : (x : Int) - 1=((m - (t+1) : Nat) : Int):=by omega
     rw [hx]
     by_cases hm : (x : Int) ∈ l
     ·have Hst : Hid (duaTo l m (t+1)=duaTo l m t):=by show _=_;rw [duaTo,hx,if_pos hm]
      have hc:=contains_any a k c l x wr (hi.keep hbr)
      rw [show decide ((x : Int) ∈ l)=true by simpa using hm] at hc
      have Hc:=Lib.hid hc
      clear hm hc
      generalize duaTo l m t=out at *
      go_wp2_with (go_at_call 83;refine Hc.out.mono ?_;rintro e w' ⟨rfl,rfl⟩)
      go_roundw
      case rel=>exact ⟨t+1,aq,cq,by omega,by rw [← e2],by rw [Hst.out],by rw [Hst.out];exact hop,hbr⟩
      case measure=>simp [intOf] <;> omega
     ·have Hst : Hid (duaTo l m (t+1)=duaTo l m t ++ [(t : Int)+1]):=by show _=_;rw [duaTo,hx,if_neg hm]
      have hc:=contains_any a k c l x wr (hi.keep hbr)
      rw [show decide ((x : Int) ∈ l)=false by simpa using hm] at hc
      have Hc:=Lib.hid hc
      clear hm hc
      generalize duaTo l m t=out at *
      have hcn:=cell_new wr (.int .i64 ((t : Int)+1)) 3
      have hbn:=below1 wr (.cells #[.int .i64 ((t : Int)+1)] 3)
      have hsz:=hbr.size
      go_wp2_with fail
      refine Hc.out.mono ?_
      rintro e w2 ⟨rfl,hw2⟩
      rw [hw2]
      clear hw2
      go_wp2_with (at_builtin;refine wpList_push rfl _ _ 22 3 rfl (.int .i64 0) 8 Tryz.underlying22 infoInt rfl w.heap.size aq out.length cq _ rfl (hop.alloc _) ⟨wr.heap.size,0,none⟩ 1 (.int .i64 ((t : Int)+1)) rfl hcn rfl (by omega) (by unfold maxLen;omega) (by simp;omega) ?_;intro a5 c5 w5 hown5 hgr5 hap5)
      go_roundw
      case rel =>
       refine ⟨t+1,a5,c5,by omega,by rw [← e2],by rw [Hst.out];simp,?_,Below.app (Below.trans hbr (hbn.mono hsz)) (hop.alloc _) hgr5 (Nat.le_refl _) (Nat.le_trans hsz hbn.size)⟩
       rw [Hst.out];simpa using hown5
      case measure=>simp [intOf] <;> omega
    ·obtain rfl : t=m:=by omega
     rw [Nat.sub_self]
     go_wp2_with fail
     go_ret2
     exact ⟨hbr,.inr ⟨HE.out,aq,cq,rfl,hop⟩⟩
end

section
open Go.RowKit
end

section
open Go.RowKit
section
variable {O : FOps} {El : Int→Prop} {m : Nat} {L : List (List Int)}
end
section
variable {P M : Int} {mod : List Int} {m : Nat} {L : List (List Int)}
end
end

end Go.Proofs.YtcflcogbpnmjeaaGreat
