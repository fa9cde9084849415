/-  -/
import Derived.Test.YtcflcogbpnmjeaaGreatK11
import Derived.Test.YtcflcogbpnmjeaaGreatK21
import Derived.Test.YtcflcogbpnmjeaaGreatK15
import Derived.Test.YtcflcogbpnmjeaaGreatK24
import Derived.Test.YtcflcogbpnmjeaaGreatK31
import Derived.Test.YtcflcogbpnmjeaaGreatK32
import Derived.Test.YtcflcogbpnmjeaaGreatK20
import Derived.Test.YtcflcogbpnmjeaaGreatK35
import Derived.WalkKit
import Derived.ProofKit
import Derived.OpenShut
import Derived.ShutString
import Derived.ChangeOld
import Derived.Below
import Derived.Deep.Matrix
import Derived.Test.YtcflcogbpnmjeaaGreatK18
namespace Go.Proofs.YtcflcogbpnmjeaaGreat
set_option linter.unusedVariables false
set_option linter.unusedSimpArgs false
set_option linter.unusedSectionVars false

section
open Go.RowKit
set_option maxRecDepth 100000 in
set_option maxHeartbeats 3200000 in
theorem rising_any (N : Int) (a : Option Addr) (n c : Nat) (l : List Int) (w : World) (hi : Ints w a n l) :
  Calls Tryz.prog 79 #[.slice a n c,.int .i64 N] w (QuietBool w (okSet N l)):=by
 have Hlen:=Lib.hid hi.len
 have hpl:=hi.pl
 have hmax:=hi.max
 unfold maxLen at hmax
 go_enter Tryz.func79,Tryz.ntmps79
 go_wp2_with fail
 go_loopw [5] (fun iv wr=>∃ k : Nat,k≤n∧iv = .int .i64 k∧Hid (okTo N l k=true)∧Drawn w wr) (fun iv _=>n - (intOf iv).toNat)
 case atStart=>exact ⟨0,Nat.zero_le _,rfl,by show _=_;simp [okTo],Drawn.refl _⟩
 case round =>
  obtain ⟨j,hj,rfl,hok,hd⟩:=hrel
  have hir:=hi.drawn hd
  by_cases hlt2 : j<n
  ·have cj:=hir.cell j hlt2
   have hjj : (j : Int)<n:=by omega
   have hbad : okAt N l j=false→okSet N l=false:=fun hb=>okTo_no (by rw [Hlen.out];exact hlt2) hb
   have Hbad:=Lib.hid hbad
   clear hbad
   by_cases h0 : 0≤nth l j
   ·have d1 : decide (nth l j<0)=false:=by simp;omega
    by_cases h1 : nth l j<N
    ·have d2 : decide (N≤nth l j)=false:=by simp;omega
     by_cases hj0 : j=0
     ·have Hgood : Hid (okAt N l j=true):=by show _=_;unfold okAt;rw [decide_eq_true h0,decide_eq_true h1];simp [hj0]
      have d3 : decide (0<j)=false:=by simp;omega
      clear hj0
      go_wp2_with fail
      go_quiet (fail)
      go_wp2
      go_roundw
      case rel=>exact ⟨j+1,by omega,by go_num,okTo_succ hok.out Hgood.out,hd.drewN _⟩
      case measure=>simp [intOf] <;> omega
     ·have cp:=hir.cell (j - 1) (by omega)
      have e1 : ((j : Int) - 1).toNat=j - 1:=by omega
      have d3 : decide (0<j)=true:=by simp;omega
      have d4 : (0 : Int)≤(j : Int) - 1:=by omega
      have d5 : (1 : Int)≤(j : Int):=by omega
      have d6 : (j : Int) - 1<n:=by omega
      have kw : IntKind.i64.wrap ((j : Int) - 1)=(j : Int) - 1:=IntWalk.i64_in _ (by omega)
      by_cases h2 : nth l (j - 1)<nth l j
      ·have Hgood : Hid (okAt N l j=true):=by show _=_;unfold okAt;simp [h0,h1,h2]
       have h2' : decide (nth l j≤nth l (j - 1))=false:=by simp;omega
       clear hj0
       go_wp2_with fail
       go_quiet (fail)
       go_wp2
       go_roundw
       case rel=>exact ⟨j+1,by omega,by go_num,okTo_succ hok.out Hgood.out,hd.drewN _⟩
       case measure=>simp [intOf] <;> omega
      ·have Hb : Hid (okSet N l=false):=Hbad.out (by unfold okAt;simp [h2,hj0])
       have h2' : decide (nth l j≤nth l (j - 1))=true:=by simp;omega
       clear hj0
       go_wp2_with fail
       go_quiet (fail)
       go_wp2
       go_ret
       exact ⟨by rw [Hb.out];rfl,hd.drewN _⟩
    ·have Hb : Hid (okSet N l=false):=Hbad.out (by unfold okAt;simp [h1])
     have d2 : decide (N≤nth l j)=true:=by simp;omega
     go_wp2_with fail
     go_quiet (fail)
     go_wp2
     go_ret
     exact ⟨by rw [Hb.out];rfl,hd.drewN _⟩
   ·have Hb : Hid (okSet N l=false):=Hbad.out (by unfold okAt;simp [h0])
    have d1 : decide (nth l j<0)=true:=by simp;omega
    go_wp2_with fail
    go_quiet (fail)
    go_wp2
    go_ret
    exact ⟨by rw [Hb.out];rfl,hd.drewN _⟩
  ·obtain rfl : j=n:=by omega
   have Hg : Hid (okSet N l=true):=by show _=_;rw [okSet,Hlen.out];exact hok.out
   go_wp2_with fail
   go_ret
   exact ⟨by rw [Hg.out];rfl,hd⟩
end

section
open Go.RowKit
def inTo (l : List Int) (v : Int) (k : Nat) : Bool:=decide (v ∈ l.take k)
theorem inTo_succ {l : List Int} {k : Nat} (v : Int) (h : k<l.length) : inTo l v (k+1)=(inTo l v k || decide (nth l k=v)):=by
 unfold inTo
 rw [List.take_succ_eq_append_getElem h,nth_getElem h]
 simp only [List.mem_append,List.mem_singleton,Bool.decide_or]
 congr 1
 simp [eq_comm]
theorem inTo_all {l : List Int} {n : Nat} (v : Int) (h : l.length=n) : inTo l v n=decide (v ∈ l):=by
 unfold inTo
 rw [List.take_of_length_le (by omega)]
set_option maxRecDepth 100000 in
set_option maxHeartbeats 3200000 in
theorem rOthers10_any (a : Option Addr) (n c : Nat) (l : List Int) (m : Nat) (w : World) (h : Ints w a n l) (hm : m≤1000) :
  Calls Tryz.prog 84 #[.slice a n c,.int .i64 m] w fun e w'=>∃ a1 c1,e = .returned (.slice a1 (frTo false l m).length c1) ∧
   w'.ownsRow w.heap.size 3 1 (.slice a1 (frTo false l m).length c1) (frTo false l m).length ((frTo false l m).map (Value.int .i64))∧Below w.heap.size w w':=by
 have Hl:=Lib.hid h.len
 have hpl:=h.pl
 have hmax:=h.max
 unfold maxLen at hmax
 obtain ⟨G,hG⟩ : ∃ G,frTo false l=G:=⟨_,rfl⟩
 have HG1 : Hid (∀ k : Nat,decide ((k : Int) ∈ l)=false→G (k+1)=G k ++ [(k : Int)]):=fun k h=>by rw [← hG,frTo,if_pos h]
 have HG2 : Hid (∀ k : Nat,decide ((k : Int) ∈ l)=true→G (k+1)=G k):=fun k h=>by rw [← hG,frTo,if_neg (by rw [h];decide)]
 have HGl : Hid (∀ k,(G k).length≤k):=fun k=>by rw [← hG];exact frTo_len _ _ _
 have HG0 : Hid (G 0=[]):=by rw [← hG];rfl
 rw [hG]
 clear hG
 go_enter Tryz.func84,Tryz.ntmps84
 go_wp2_with fail
 go_loopw [5,6] (fun ov iv wr=>∃ (i g : Nat) (a1 : Option Addr) (c1 : Nat),i≤m∧iv = .int .i64 i∧Hid ((G i).length=g)∧ov = .slice a1 g c1∧wr.ownsRow w.heap.size 3 1 (.slice a1 g c1) g ((G i).map (Value.int .i64))∧Below w.heap.size w wr) (fun _ iv _=>m - (intOf iv).toNat)
 case atStart=>exact ⟨0,0,none,0,Nat.zero_le _,rfl,by show _=_;rw [HG0.out];rfl,rfl,by rw [HG0.out];exact own_none,Below.refl _ _⟩
 case round =>
  obtain ⟨i,g,a1,c1,hi,rfl,Hg,rfl,hown,hbr⟩:=hrel
  by_cases hlt : i<m
  ·have hiW:=h.keep hbr
   have hgi : g≤1000:=by have h1:=HGl.out i;rw [Hg.out] at h1;omega
   generalize wr=X1 at *
   go_wp2_with fail
   go_loopw [7,8] (fun bv kv ws=>∃ k : Nat,k≤n∧kv = .int .i64 k∧bv = .bool (inTo l i k)∧ws=X1) (fun _ kv _=>n - (intOf kv).toNat)
   case atStart=>exact ⟨0,Nat.zero_le _,rfl,by simp [inTo],rfl⟩
   case round =>
    obtain ⟨k,hk,rfl,rfl,rfl⟩:=hrel
    by_cases hltk : k<n
    ·have ck:=hiW.cell k hltk
     have Hs:=Lib.hid (inTo_succ (l:=l) (i : Int) (show k<l.length by rw [Hl.out];exact hltk))
     obtain ⟨b,hb⟩ : ∃ b,inTo l i k=b:=⟨_,rfl⟩
     rw [hb] at Hs ⊢
     clear hb
     cases b
     ·by_cases he : nth l k=i
      ·have he' : (nth l k == (i : Int))=true:=by rw [he];simp
       have Hn : Hid (inTo l i (k+1)=true):=by show _=_;rw [Hs.out,decide_eq_true he];rfl
       clear he
       go_wp2_with fail
       go_roundw
       case rel=>exact ⟨k+1,by omega,by go_num,by rw [Hn.out],by simp⟩
       case measure=>simp [intOf] <;> omega
      ·have he' : (nth l k == (i : Int))=false:=by simpa using he
       have Hn : Hid (inTo l i (k+1)=false):=by show _=_;rw [Hs.out,decide_eq_false he];rfl
       clear he
       go_wp2_with fail
       go_roundw
       case rel=>exact ⟨k+1,by omega,by go_num,by rw [Hn.out],by simp⟩
       case measure=>simp [intOf] <;> omega
     ·have Hn : Hid (inTo l i (k+1)=true):=by show _=_;rw [Hs.out];rfl
      go_wp2_with fail
      go_roundw
      case rel=>exact ⟨k+1,by omega,by go_num,by rw [Hn.out],by simp⟩
      case measure=>simp [intOf] <;> omega
    ·obtain rfl : k=n:=by omega
     rw [inTo_all (i : Int) Hl.out]
     have hH1:=HG1.out i
     have hH2:=HG2.out i
     obtain ⟨b,hb⟩ : ∃ b,decide ((i : Int) ∈ l)=b:=⟨_,rfl⟩
     rw [hb] at hH1 hH2 ⊢
     clear hb
     cases b
     ·have Hn:=Lib.hid (hH1 rfl)
      clear hH1 hH2
      have hsz:=hbr.size
      have hcn:=cell_new wr (.int .i64 i) 3
      have hbn:=below1 wr (.cells #[.int .i64 i] 3)
      go_wp2_with (at_builtin;refine wpList_push rfl _ _ 22 3 rfl (.int .i64 0) 8 Tryz.underlying22 infoInt rfl w.heap.size a1 g c1 _ rfl (hown.alloc _) ⟨wr.heap.size,0,none⟩ 1 (.int .i64 i) rfl hcn rfl (by omega) (by unfold maxLen;omega) (by simp;omega) ?_;intro a5 c5 w5 hown5 hgr5 hap5)
      go_roundw
      case rel =>
       refine ⟨i+1,g+1,a5,c5,by omega,by go_num,by show _=_;rw [Hn.out,List.length_append,Hg.out];rfl,rfl,by rw [Hn.out];simpa using hown5,Below.app (Below.allocN hbr _) (hown.alloc _) hgr5 (Nat.le_refl _) (Below.allocN hbr _).size⟩
      case measure=>simp [intOf] <;> omega
     ·have Hn:=Lib.hid (hH2 rfl)
      clear hH1 hH2
      go_wp2_with fail
      go_roundw
      case rel=>exact ⟨i+1,g,a1,c1,by omega,by go_num,by show _=_;rw [Hn.out];exact Hg.out,rfl,by rw [Hn.out];exact hown,hbr⟩
      case measure=>simp [intOf] <;> omega
  ·obtain rfl : i=m:=by omega
   have HF:=Lib.hid (And.intro hown hbr)
   clear hown hbr
   go_wp2_with fail
   go_ret
   rw [Hg.out]
   exact ⟨a1,c1,rfl,HF.out.1,HF.out.2⟩
end

section
open Go.RowKit
theorem mem_duaTo {l : List Int} {n : Nat} {v : Int} : ∀ {k},v ∈ duaTo l n k ↔ ∃ j : Nat,j<k∧v=(j : Int)+1∧¬ ((n - j : Nat) : Int) ∈ l
 | 0=>by simp [duaTo]
 | k+1=>by
  have ih:=mem_duaTo (l:=l) (n:=n) (v:=v) (k:=k)
  rw [duaTo]
  constructor
  ·intro h
   split at h
   ·obtain ⟨j,h1,h2⟩:=ih.1 h
    exact ⟨j,by omega,h2⟩
   ·rename_i hk
    rcases List.mem_append.1 h with h | h
    ·obtain ⟨j,h1,h2⟩:=ih.1 h
     exact ⟨j,by omega,h2⟩
    ·exact ⟨k,by omega,List.mem_singleton.1 h,hk⟩
  ·rintro ⟨j,h1,h2,h3⟩
   by_cases e : j=k
   ·subst e
    rw [if_neg h3]
    exact List.mem_append.2 (.inr (List.mem_singleton.2 h2))
   ·split
    ·exact ih.2 ⟨j,by omega,h2,h3⟩
    ·exact List.mem_append.2 (.inl (ih.2 ⟨j,by omega,h2,h3⟩))
theorem duaTo_pair (l : List Int) (n : Nat) : ∀ k,(duaTo l n k).Pairwise (· < ·)
 | 0=>List.Pairwise.nil
 | k+1=>by
  have ih:=duaTo_pair l n k
  rw [duaTo]
  split
  ·exact ih
  ·rw [List.pairwise_append]
   refine ⟨ih,List.pairwise_singleton _ _,fun a ha b hb=>?_⟩
   obtain ⟨j,h1,h2,_⟩:=mem_duaTo.1 ha
   rw [List.mem_singleton.1 hb];omega
theorem dgood_pair {n : Int} {l : List Int} (h : ∀ i,i<l.length→DGood n l i) : l.Pairwise (· < ·):=by
 rw [List.pairwise_iff_getElem]
 have key : ∀ d i,i+d+1<l.length→nth l i<nth l (i+d+1):=by
  intro d
  induction d with
  | zero=>intro i hi;have:=(h (i+1) hi).2.2;simpa using this
  | succ d ih =>
   intro i hi
   have h1:=ih i (by omega)
   have h2:=(h (i+(d+1)+1) hi).2.2
   have h3 : nth l (i+(d+1))<nth l (i+(d+1)+1):=by simpa using h2
   have e : i+(d+1)=i+d+1:=by omega
   rw [e] at h3
   rw [e]
   omega
 intro i j hi hj hij
 have:=key (j - i - 1) i (by omega)
 rw [show i+(j - i - 1)+1=j by omega,nth_getElem hi,nth_getElem hj] at this
 exact this
theorem dua_twice {l : List Int} {n : Nat} (h : ∀ i,i<l.length→DGood n l i) : duaS (duaS l n) n=l:=by
 unfold duaS
 refine asc_ext (duaTo_pair _ _ _) (dgood_pair h) fun v=>?_
 rw [mem_duaTo]
 constructor
 ·rintro ⟨j,h1,rfl,h3⟩
  refine Classical.byContradiction fun hn=>h3 (mem_duaTo.2 ⟨n - j - 1,by omega,by omega,?_⟩)
  rw [show n - (n - j - 1)=j+1 by omega]
  exact hn
 ·intro hv
  obtain ⟨i,hi,e⟩:=List.mem_iff_getElem.1 hv
  have hg:=h i hi
  unfold DGood at hg
  rw [nth_getElem hi,e] at hg
  refine ⟨v.toNat - 1,by omega,by omega,fun hm=>?_⟩
  obtain ⟨j,h1,h2,h3⟩:=mem_duaTo.1 hm
  refine h3 ?_
  rw [show ((n - j : Nat) : Int)=v by omega]
  exact hv
theorem dua_good {l : List Int} {n : Nat} : ∀ i,i<(duaS l n).length→DGood n (duaS l n) i:=fun i hi=>by
 obtain ⟨j,h1,h2',_⟩:=mem_duaTo.1 (nth_mem hi)
 have h2 : nth (duaS l n) i=(j : Int)+1:=h2'
 refine ⟨by omega,by omega,?_⟩
 rcases Nat.eq_zero_or_pos i with h0 | h0
 ·exact .inl h0
 ·refine .inr ?_
  have h3:=List.pairwise_iff_getElem.1 (duaTo_pair l n n) (i - 1) i (by unfold duaS at hi;omega) hi (by omega)
  rw [nth_getElem hi,nth_getElem (show i - 1<(duaS l n).length by omega)]
  exact h3
end

section
open Go.RowKit
def lowL (l : List Int) : List Int:=l.map fun x=>x - 1
theorem nth_lowL {l : List Int} {i : Nat} (h : i<l.length) : nth (lowL l) i=nth l i - 1:=by
 rw [nth_getElem (show i<(lowL l).length by simpa [lowL] using h),nth_getElem h];simp [lowL]
theorem low_ok {l : List Int} {n : Nat} (h : ∀ i,i<l.length→1≤nth l i∧nth l i≤n) : okSet n (lowL l)=true ↔ ∀ i,i<l.length→DGood n l i:=by
 have hl : (lowL l).length=l.length:=by simp [lowL]
 unfold okSet okTo
 rw [List.all_eq_true,hl]
 constructor
 ·intro hh i hi
  have h1:=hh i (List.mem_range.2 hi)
  unfold okAt at h1
  simp only [Bool.and_eq_true,Bool.or_eq_true,decide_eq_true_eq,beq_iff_eq] at h1
  have h2:=h i hi
  refine ⟨h2.1,h2.2,?_⟩
  rcases Nat.eq_zero_or_pos i with h0 | h0
  ·exact .inl h0
  ·refine .inr ?_
   have h3:=h1.2
   rw [nth_lowL hi,nth_lowL (show i - 1<l.length by omega)] at h3
   omega
 ·intro hh i hi
  have hi:=List.mem_range.1 hi
  obtain ⟨g1,g2,g3⟩:=hh i hi
  unfold okAt
  simp only [Bool.and_eq_true,Bool.or_eq_true,decide_eq_true_eq,beq_iff_eq]
  rw [nth_lowL hi]
  refine ⟨⟨by omega,by omega⟩,?_⟩
  rcases Nat.eq_zero_or_pos i with h0 | h0
  ·exact .inl h0
  ·refine .inr ?_
   rw [nth_lowL (show i - 1<l.length by omega)]
   omega
theorem rev_dua (l : List Int) (n : Nat) : ((frTo false (lowL l) n).reverse.map fun r=>(n : Int) - r)=duaS l n:=by
 refine asc_ext ?_ (duaTo_pair _ _ _) fun v=>?_
 ·rw [List.pairwise_map,List.pairwise_reverse]
  exact (frTo_pair false (lowL l) n).imp fun h=>by omega
 ·rw [List.mem_map]
  unfold duaS
  rw [mem_duaTo]
  constructor
  ·rintro ⟨r,hr,rfl⟩
   obtain ⟨j,h1,rfl,h2⟩:=(mem_frTo n).1 (List.mem_reverse.1 hr)
   refine ⟨n - j - 1,by omega,by omega,fun hm=>?_⟩
   have h3 : ¬ (j : Int) ∈ lowL l:=by simpa using h2
   refine h3 (List.mem_map.2 ⟨_,hm,?_⟩)
   omega
  ·rintro ⟨j,h1,rfl,h3⟩
   refine ⟨((n - j - 1 : Nat) : Int),List.mem_reverse.2 ((mem_frTo n).2 ⟨n - j - 1,by omega,rfl,?_⟩),by omega⟩
   have : ¬ ((n - j - 1 : Nat) : Int) ∈ lowL l:=fun hm=>by
    obtain ⟨x,hx,e⟩:=List.mem_map.1 hm
    refine h3 ?_
    rw [show ((n - j : Nat) : Int)=x by omega]
    exact hx
   simpa using this
set_option maxRecDepth 100000 in
set_option maxHeartbeats 4000000 in
theorem rDuality_any (a : Option Addr) (n c : Nat) (l : List Int) (N : Int) (w : World) (hi : Ints w a n l) (hn : n≤1000) :
  Calls Tryz.prog 39 #[.slice a n c,.int .i64 N] w (DuaPost l N w):=by
 have Hl:=Lib.hid hi.len
 have hpl:=hi.pl
 go_enter Tryz.func39,Tryz.ntmps39
 by_cases h1 : N<1
 ·have HE : Hid (duaE l N=6):=by show _=_;rw [duaE,if_neg fun h=>by omega]
  have d1 : decide (N<1)=true:=by simpa using h1
  clear h1
  go_wp2_with fail
  go_ret2
  exact ⟨Below.refl _ _,.inl ⟨by rw [HE.out];decide,by rw [HE.out];rfl⟩⟩
 have d1 : decide (N<1)=false:=by simpa using h1
 by_cases h2 : 64<N
 ·have HE : Hid (duaE l N=6):=by show _=_;rw [duaE,if_neg fun h=>by omega]
  have d2 : decide (64<N)=true:=by simpa using h2
  clear h1 h2
  go_wp2_with fail
  go_ret2
  exact ⟨Below.refl _ _,.inl ⟨by rw [HE.out];decide,by rw [HE.out];rfl⟩⟩
 have d2 : decide (64<N)=false:=by simpa using h2
 obtain ⟨m,rfl⟩ : ∃ m : Nat,N=m:=⟨N.toNat,by omega⟩
 have hm1 : 1≤m:=by omega
 have hm64 : m≤64:=by omega
 clear h1 h2
 have hll : (lowL l).length=n:=by simp [lowL];exact Hl.out
 have Hll:=Lib.hid hll
 clear hll
 go_wp2_with fail
 go_loopw [6,7] (fun sv iv wr=>∃ (k : Nat) (aq : Option Addr) (cq : Nat),k≤n∧iv = .int .i64 k∧sv = .slice aq k cq∧Hid (∀ j,j<k→1≤nth l j∧nth l j≤m)∧wr.ownsRow w.heap.size 3 1 (.slice aq k cq) k (((lowL l).take k).map (Value.int .i64))∧Below w.heap.size w wr)
  (fun _ iv _=>n - (intOf iv).toNat)
 case atStart=>exact ⟨0,none,0,Nat.zero_le _,rfl,rfl,fun j hj=>by omega,by simpa using own_none,Below.refl _ _⟩
 case round =>
  obtain ⟨k,aq,cq,hk,rfl,rfl,hall,hop,hbr⟩:=hrel
  by_cases hlt : k<n
  ·have ck:=(hi.keep hbr).cell k hlt
   have hlk : k<l.length:=by rw [Hl.out];exact hlt
   by_cases q1 : nth l k<1
   ·have HE : Hid (duaE l m=6):=by show _=_;rw [duaE,if_neg fun h=>by have:=(h.2.2 k hlk).1;omega]
    have b1 : decide (nth l k<1)=true:=by simpa using q1
    clear q1 hlk
    go_wp2_with fail
    go_ret2
    exact ⟨hbr,.inl ⟨by rw [HE.out];decide,by rw [HE.out];rfl⟩⟩
   have b1 : decide (nth l k<1)=false:=by simpa using q1
   by_cases q2 : (m : Int)<nth l k
   ·have HE : Hid (duaE l m=6):=by show _=_;rw [duaE,if_neg fun h=>by have:=(h.2.2 k hlk).2.1;omega]
    have b2 : decide ((m : Int)<nth l k)=true:=by simpa using q2
    clear q1 q2 hlk
    go_wp2_with fail
    go_ret2
    exact ⟨hbr,.inl ⟨by rw [HE.out];decide,by rw [HE.out];rfl⟩⟩
   have b2 : decide ((m : Int)<nth l k)=false:=by simpa using q2
   have Hall : Hid (∀ j,j<k+1→1≤nth l j∧nth l j≤m):=fun j hj=>by
    rcases Nat.lt_or_ge j k with h | h
    ·exact hall.out j h
    ·rw [show j=k by omega];omega
   have Htk : Hid ((lowL l).take (k+1)=(lowL l).take k ++ [nth l k - 1]):=by
    show _=_
    rw [List.take_succ_eq_append_getElem (by rw [Hll.out];exact hlt),← nth_getElem,nth_lowL hlk]
   obtain ⟨out,hout⟩ : ∃ out,(lowL l).take k=out:=⟨_,rfl⟩
   have hol : out.length=k:=by rw [← hout,List.length_take,Hll.out];omega
   rw [hout] at hop Htk
   have hx1 : 1≤nth l k:=by omega
   have hx2 : nth l k≤m:=by omega
   clear hout q1 q2 hlk
   subst hol
   generalize nth l out.length=x at *
   have hwx : IntKind.i64.wrap (x - 1)=x - 1:=IntWalk.i64_in _ (by omega)
   have hcn:=cell_new wr (.int .i64 (x - 1)) 3
   have hbn:=below1 wr (.cells #[.int .i64 (x - 1)] 3)
   have hsz:=hbr.size
   go_wp2_with (at_builtin;refine wpList_push rfl _ _ 22 3 rfl (.int .i64 0) 8 Tryz.underlying22 infoInt rfl w.heap.size aq out.length cq _ rfl (hop.alloc _) ⟨wr.heap.size,0,none⟩ 1 (.int .i64 (x - 1)) rfl hcn rfl (by omega) (by unfold maxLen;omega) (by simp;omega) ?_;intro a5 c5 w5 hown5 hgr5 hap5)
   go_roundw
   case rel =>
    refine ⟨out.length+1,a5,c5,by omega,by go_num,rfl,Hall.out,?_,Below.app (Below.trans hbr (hbn.mono hsz)) (hop.alloc _) hgr5 (Nat.le_refl _) (Nat.le_trans hsz hbn.size)⟩
    rw [Htk.out];simpa using hown5
   case measure=>simp [intOf] <;> omega
  ·obtain rfl : k=n:=by omega
   have hops:=hop
   rw [List.take_of_length_le (by rw [Hll.out];exact Nat.le_refl _)] at hops
   have hiL:=(Ints.own hops).1
   have HR:=Lib.hid (rising_any m aq k cq (lowL l) wr hiL)
   have hok:=low_ok (l:=l) (n:=m) fun i hi=>hall.out i (by rw [← Hl.out];exact hi)
   by_cases hz : okSet m (lowL l)=true
   rotate_left
   ·have HE : Hid (duaE l m=6):=by show _=_;rw [duaE,if_neg fun h=>hz (hok.2 h.2.2)]
    have hz' : okSet m (lowL l)=false:=by simpa using hz
    rw [hz'] at HR
    clear hz hz' hok hops hop
    go_wp2_with fail
    refine HR.out.mono ?_
    rintro e w2 ⟨rfl,hd⟩
    have hF:=Below.next hbr hd.below
    go_wp2_with fail
    go_ret2
    exact ⟨hF,.inl ⟨by rw [HE.out];decide,by rw [HE.out];rfl⟩⟩
   have HE : Hid (duaE l m=0):=by show _=_;rw [duaE,if_pos ⟨by omega,by omega,hok.1 hz⟩]
   rw [hz] at HR
   clear hz hok hops hop
   go_wp2_with fail
   refine HR.out.mono ?_
   rintro e w2 ⟨rfl,hd⟩
   have hb2:=Below.next hbr hd.below
   have HO:=Lib.hid (rOthers10_any aq k cq (lowL l) m w2 (hiL.keep hd.below) (by omega))
   have HV : Hid (duaS l m=((frTo false (lowL l) m).reverse.map fun r=>(m : Int) - r)):=(rev_dua l m).symm
   have hfl:=frTo_len false (lowL l) m
   have HFb : Hid (∀ p,p<(frTo false (lowL l) m).length→0≤nth (frTo false (lowL l) m) p∧nth (frTo false (lowL l) m) p<m):=fun p hp=>by
    obtain ⟨j,hj,e,_⟩:=(mem_frTo m).1 (nth_mem hp)
    omega
   generalize frTo false (lowL l) m=F at *
   go_wp2_with fail
   refine HO.out.mono ?_
   rintro e w3 ⟨a3,c3,rfl,hown3,hb3⟩
   have hbw3:=Below.next hb2 hb3
   have i3:=(Ints.own hown3).1
   have hpl3:=i3.pl
   have HVl : Hid ((duaS l m).length=F.length):=by show _=_;rw [HV.out];simp
   have Hi3:=Lib.hid i3
   clear hown3
   go_wp2_with fail
   go_loopw [9,10] (fun sv iv wr=>∃ (t : Nat) (aq : Option Addr) (cq : Nat),t≤F.length∧iv = .int .i64 ((F.length : Int) - 1 - t)∧sv = .slice aq t cq∧wr.ownsRow w3.heap.size 3 1 (.slice aq t cq) t (((duaS l m).take t).map (Value.int .i64))∧Below w3.heap.size w3 wr)
    (fun sv _ _=>F.length - lenVal sv)
   case atStart=>exact ⟨0,none,0,Nat.zero_le _,by simp,rfl,by simpa using own_none,Below.refl _ _⟩
   case round =>
    obtain ⟨t,aq,cq,ht,rfl,rfl,hop,hbr⟩:=hrel
    by_cases hlt : t<F.length
    ·have hge : decide ((0 : Int)≤(F.length : Int) - 1 - t)=true:=by simp;omega
     obtain ⟨p,hp⟩ : ∃ p : Nat,F.length - 1 - t=p:=⟨_,rfl⟩
     have ep : (F.length : Int) - 1 - t=(p : Int):=by omega
     have hpF : p<F.length:=by omega
     have cp:=(Hi3.out.keep hbr).cell p hpF
     obtain ⟨hx1,hx2⟩:=HFb.out p hpF
     have Htk : Hid ((duaS l m).take (t+1)=(duaS l m).take t ++ [(m : Int) - nth F p]):=by
      show _=_
      rw [List.take_succ_eq_append_getElem (by rw [HVl.out];exact hlt)]
      congr 2
      have h1 : (duaS l m)[t]'(by rw [HVl.out]; exact hlt) = ((F.reverse.map fun r => (m : Int) - r))[t]'(by simpa using hlt) := by
       congr 1
      rw [h1,List.getElem_map,List.getElem_reverse,nth_getElem hpF]
      congr 2
     obtain ⟨out,hout⟩ : ∃ out,(duaS l m).take t=out:=⟨_,rfl⟩
     have hol : out.length=t:=by rw [← hout,List.length_take,HVl.out];omega
     rw [hout] at hop Htk
     have e2:=hpF
     rw [ep] at hge ⊢
     have Hp:=Lib.hid hp
     clear hout ep hp e2
     generalize nth F p=x at *
     have hwx : IntKind.i64.wrap ((m : Int) - x)=(m : Int) - x:=IntWalk.i64_in _ (by omega)
     have hcn:=cell_new wr (.int .i64 ((m : Int) - x)) 3
     have hbn:=below1 wr (.cells #[.int .i64 ((m : Int) - x)] 3)
     have hsz:=hbr.size
     go_wp2_with (at_builtin;refine wpList_push rfl _ _ 22 3 rfl (.int .i64 0) 8 Tryz.underlying22 infoInt rfl w3.heap.size aq t cq _ rfl (hop.alloc _) ⟨wr.heap.size,0,none⟩ 1 (.int .i64 ((m : Int) - x)) rfl hcn rfl (by omega) (by unfold maxLen;omega) (by simp;omega) ?_;intro a5 c5 w5 hown5 hgr5 hap5)
     go_roundw
     case rel =>
      refine ⟨t+1,a5,c5,by omega,by have:=Hp.out;congr 1;omega,rfl,?_,Below.app (Below.trans hbr (hbn.mono hsz)) (hop.alloc _) hgr5 (Nat.le_refl _) (Nat.le_trans hsz hbn.size)⟩
      rw [Htk.out];simpa using hown5
     case measure=>simp [lenVal] <;> omega
    ·obtain rfl : t=F.length:=by omega
     have hge : decide ((0 : Int)≤(F.length : Int) - 1 - F.length)=false:=by simp;omega
     rw [List.take_of_length_le (by rw [HVl.out];exact Nat.le_refl _)] at hop
     have hF:=Below.next hbw3 hbr
     have Hop:=Lib.hid (own_mono hop hbw3.size)
     clear hop
     go_wp2_with fail
     go_ret2
     refine ⟨hF,.inr ⟨HE.out,?_⟩⟩
     rw [Int.toNat_natCast,HVl.out]
     exact ⟨aq,cq,rfl,Hop.out⟩
end

section
open Go.RowKit
def duaX (l : List Int) (N : Int) : List Int:=if duaE l N=0 then duaS l N.toNat else []
section
variable (P M : Int) (am : Option Addr) (mn cm : Nat) (mod : List Int) (N : Int) (a : Option Addr) (n c : Nat) (L : List (List Int)) (w : World)
theorem duality_u (l : List Int) (hi : Ints w a n l) :
  Calls Tryz.prog 38 #[.slice a n c,.int .i64 N] w (PairU (duaE l N) (duaX l N) w):=by
 refine (duality_any a n c l N w hi).mono ?_
 rintro e w' ⟨hb,⟨h0,rfl⟩ | ⟨h0,a',c',rfl,h⟩⟩
 ·exact pair_no hb h0
 ·exact pair_ok hb h0 (Ints.own h).1
end
end

section
open Go.RowKit
theorem rDuality_u (N : Int) (a : Option Addr) (n c : Nat) (l : List Int) (w : World) (hi : Ints w a n l) (hn : n≤1000) :
  Calls Tryz.prog 39 #[.slice a n c,.int .i64 N] w (PairU (duaE l N) (duaX l N) w):=by
 refine (rDuality_any a n c l N w hi hn).mono ?_
 rintro e w' ⟨hb,⟨h0,rfl⟩ | ⟨h0,a',c',rfl,h⟩⟩
 ·exact pair_no hb h0
 ·exact pair_ok hb h0 (Ints.own h).1
theorem dua_back {l : List Int} {N : Int} (h : duaE l N=0) : duaE (duaX l N) N=0∧duaX (duaX l N) N=l:=by
 have hX : duaX l N=duaS l N.toNat:=by unfold duaX;rw [if_pos h]
 rw [hX]
 unfold duaE at h
 by_cases hg : 1≤N∧N≤64∧∀ i,i<l.length→DGood N l i
 ·obtain ⟨h1,h2,h3⟩:=hg
  obtain ⟨m,rfl⟩ : ∃ m : Nat,N=m:=⟨N.toNat,by omega⟩
  rw [Int.toNat_natCast]
  have h0 : duaE (duaS l m) m=0:=by
   unfold duaE
   rw [if_pos ⟨h1,h2,dua_good⟩]
  refine ⟨h0,?_⟩
  unfold duaX
  rw [if_pos h0,Int.toNat_natCast]
  exact dua_twice h3
 ·rw [if_neg hg] at h
  exact absurd h (by decide)
set_option maxRecDepth 100000 in
set_option maxHeartbeats 4000000 in
theorem hLawLists_any (as' : Option Addr) (ns cs : Nat) (S : List Int) (N : Int) (w : World) (hs : Ints w as' ns S) :
  Calls Tryz.prog 7 #[.slice as' ns cs,.int .i64 N] w fun e w'=>e = .returned (.bool true)∧Below w.heap.size w w':=by
 have H1 : Hid (∀ V,Below w.heap.size w V→Calls Tryz.prog 38 #[.slice as' ns cs,.int .i64 N] V (PairU (duaE S N) (duaX S N) V)):=fun V hV=>duality_u N as' ns cs V S (hs.keep hV)
 have H2 : Hid (∀ V,ns≤1000→Below w.heap.size w V→Calls Tryz.prog 39 #[.slice as' ns cs,.int .i64 N] V (PairU (duaE S N) (duaX S N) V)):=fun V h1 hV=>rDuality_u N as' ns cs S V (hs.keep hV) h1
 have H3 : Hid (duaE S N=0→∀ V a n c,Ints V a n (duaX S N)→Calls Tryz.prog 38 #[.slice a n c,.int .i64 N] V (PairU 0 S V)):=fun h V a n c h1=>by
  have h2:=duality_u N a n c V (duaX S N) h1
  rw [(dua_back h).1,(dua_back h).2] at h2
  exact h2
 have Hs:=Lib.hid hs
 generalize duaE S N=er at *
 generalize duaX S N=X at *
 clear hs
 go_enter Tryz.func7,Tryz.ntmps7
 go_wp2_with fail
 refine (awake29_any w).mono ?_
 rintro e w2 ⟨rfl,hb2⟩
 by_cases hn : 100<ns
 ·have hn' : (100 : Int)<(ns : Int):=by omega
  have d1 : decide ((100 : Int)<(ns : Int))=true:=by simpa using hn'
  clear hn hn'
  go_wp2_with fail
  refine (awake29_any w2).mono ?_
  rintro e w3 ⟨rfl,hb3⟩
  have hF:=Below.next hb2 hb3
  go_wp2_with fail
  go_ret
  exact ⟨rfl,hF⟩
 have hn' : ¬ (100 : Int)<(ns : Int):=by omega
 have d1 : decide ((100 : Int)<(ns : Int))=false:=by simpa using hn'
 have hn1 : ns≤1000:=by omega
 clear hn hn'
 go_wp2_with fail
 refine (H1.out w2 hb2).mono ?_
 rintro e w3 ⟨hb3,a1,n1,k1,rfl,h1⟩
 have hB3:=Below.next hb2 hb3
 go_wp2_with fail
 refine (H2.out w3 hn1 hB3).mono ?_
 rintro e w4 ⟨hb4,a2,n2,k2,rfl,h2⟩
 have hB4:=Below.next hB3 hb4
 have Hc:=Lib.hid (sameInts_t a1 n1 k1 X a2 n2 k2 (h1.keep hb4) h2)
 have HI:=Lib.hid (h1.keep hb4)
 clear h1 h2
 go_wp2_with fail
 refine Hc.out.mono ?_
 rintro e w5 ⟨rfl,r5⟩
 have hB5:=Below.next hB4 r5.below
 by_cases h0 : er=0
 rotate_left
 ·have hd : (er != 0)=true:=by simpa using h0
  clear h0
  go_wp2_with fail
  go_ret
  exact ⟨rfl,hB5⟩
 have Hd:=Lib.hid (H3.out h0 w5 a1 n1 k1 (HI.out.keep r5.below))
 have hd : (er != 0)=false:=by simpa using h0
 clear h0
 go_wp2_with fail
 refine Hd.out.mono ?_
 rintro e w6 ⟨hb6,a6,n6,k6,rfl,h6⟩
 have hB6:=Below.next hB5 hb6
 have He:=Lib.hid (sameInts_t a6 n6 k6 S as' ns cs h6 (Hs.out.keep hB6))
 clear h6
 go_wp2_with fail
 refine He.out.mono ?_
 rintro e w7 ⟨rfl,r7⟩
 have hF:=Below.next hB6 r7.below
 go_wp2_with fail
 go_ret
 exact ⟨rfl,hF⟩
end

section
open Go.ChangeShapes Go.WideShapes Go.ChangeAt Go.RowKit
section
variable {H : Type} {enc : TypeId × Value→H} {W : World} {held : Bool} {fuel : Nat} {cs : List Value} {x : DataW H × List MemPlace}
end
section
variable {H : Type} {enc : TypeId × Value→H} {W : World} {held : Bool} {b0 : Nat} {v : Value} {d : DataW H} {p : List MemPlace}
set_option maxRecDepth 100000 in
theorem arg_ints (hv : Value.okWide Tryz.prog W .any b0 22 v) (h : DataW.Trod enc Tryz.prog W 0 (fun _=>true) held 22 v d p) : ∃ a n c l,v = .slice a n c∧Ints W a n l:=by
 obtain ⟨a,n,c,rfl⟩:=okWide_slice Tryz.underlying22 hv
 obtain ⟨fuel,hf⟩:=h
 obtain ⟨a',n',c',l,e,hi⟩:=opened_ints hf
 simp [Value.cells] at e
 obtain ⟨rfl,rfl,rfl⟩:=e
 exact ⟨_,_,_,l,rfl,hi⟩
end
end

end Go.Proofs.YtcflcogbpnmjeaaGreat
