/-  -/
import Derived.Test.YtcflcogbpnmjeaaGreatK9
import Derived.Test.YtcflcogbpnmjeaaGreatHCE4
import Derived.Test.YtcflcogbpnmjeaaGreatK11
import Derived.Test.YtcflcogbpnmjeaaGreatHCE1
import Derived.WalkKit
import Derived.ProofKit
import Derived.OpenShut
import Derived.ShutString
import Derived.ChangeOld
import Derived.Below
import Derived.Deep.Matrix
import Derived.Test.YtcflcogbpnmjeaaGreatK18
namespace Go.Proofs.YtcflcogbpnmjeaaGreat
set_option linter.unusedVariables false
set_option linter.unusedSimpArgs false
set_option linter.unusedSectionVars false

section
open Go.RowKit
def canR (O : FOps) (L : List (List Int)) (cols : Nat) : List (List Int):=(elimTo O L cols).1.take (elimTo O L cols).2.length
def RCanonPost (O : FOps) (L : List (List Int)) (cols : Nat) (w : World) (e : Ending) (w' : World) : Prop :=
 ∃ a c ap cp,e = .returned (.tuple #[.slice a (elimTo O L cols).2.length c,.slice ap (elimTo O L cols).2.length cp])∧MatN w.heap.size w' a (elimTo O L cols).2.length (canR O L cols) ∧
  IntsN w.heap.size w' ap (elimTo O L cols).2.length (elimTo O L cols).2∧Below w.heap.size w w'
set_option maxRecDepth 100000 in
set_option maxHeartbeats 1600000 in
theorem rCanon_any (P : Int) (m : Nat) (am : Option Addr) (mn cm : Nat) (mod : List Int) (a : Option Addr) (n c cols : Nat) (L : List (List Int)) (w : World) (hf : RFld w P m am mn mod) (hi : Mat w a n L)
  (hR : Rws (ElP P m) cols L) (hlen : cols≤1000000) (hn : n≤1000000) (hinv : ∀ p,ElP P m p→p ≠ 0→(invR P m mod p=1 ↔ p=1)) :
  Calls Tryz.prog 132 #[.agg #[.int .i64 P,.int .i64 m,.slice am mn cm],.slice a n c,.int .i64 cols] w (RCanonPost (rops P m mod) L cols w):=by
 have Hlen:=Lib.hid hi.len
 have Hc : Hid (∀ V,Below w.heap.size w V→Calls Tryz.prog 175 #[.agg #[.int .i64 P,.int .i64 m,.slice am mn cm],.slice a n c,.int .i64 cols] V (RElimPost (rops P m mod) L cols V)) :=
  fun V hV=>rElim_any P m am mn cm mod a n c cols cols L V (hf.keep hV) (hi.keep hV) hR (Nat.le_refl _) hlen hn hinv
 obtain ⟨O,hO⟩ : ∃ O,rops P m mod=O:=⟨_,rfl⟩
 rw [hO] at Hc ⊢
 clear hO hinv hR
 go_enter Tryz.func132,Tryz.ntmps132
 go_wp2_with fail
 obtain ⟨W,hW⟩ : ∃ W : World,W=w.alloc (.cells #[.int .i64 P,.int .i64 m,.slice am mn cm] 24):=⟨_,rfl⟩
 rw [← hW]
 have hbW : Below w.heap.size w W:=by rw [hW];exact below1 _ _
 clear hW
 refine (Hc.out W hbW).mono ?_
 rintro e w1 ⟨a1,c1,R1,ap,cp,rfl,hO1,hp1,hb1⟩
 have hpl:=elimTo_piv O L cols
 have hcap:=own_cap hO1.own
 have hpv:=(IntsN.own hp1).mono hbW.size
 have hmt:=((MatN.own hO1).take (k:=(elimTo O L cols).2.length) hpl.2).mono hbW.size
 have hF : RCanonPost O L cols w (.returned (.tuple #[.slice a1 (elimTo O L cols).2.length c1,.slice ap (elimTo O L cols).2.length cp])) w1:=⟨a1,_,ap,cp,rfl,hmt,hpv,Below.next hbW hb1⟩
 have HF:=Lib.hid hF
 have hle : (elimTo O L cols).2.length≤c1:=Nat.le_trans hpl.2 hcap
 clear hF hpv hmt hp1 hcap hpl
 generalize (elimTo O L cols).2.length=k at *
 go_wp2_with fail
 go_ret2
 simpa using HF.out
def rspaceE (P M : Int) (mod : List Int) (cols : Int) (L : List (List Int)) : Int :=
 if rmatE P M mod cols L=0 then (if canR (rops P M.toNat mod) L cols.toNat=L then 0 else 5) else rmatE P M mod cols L
theorem fieldRB_rf {P M : Int} {mod : List Int} (h : fieldRB P M mod=true) : ∃ m : Nat,M=m∧RF P m∧(∀ (w : World) am mn,Ints w am mn mod→Mods w P m am mn mod):=by
 unfold fieldRB shapeB at h
 simp only [Bool.and_eq_true,bne_iff_ne,ne_eq] at h
 obtain ⟨⟨⟨h1,h2⟩,h3⟩,h4⟩:=h
 obtain ⟨m,rfl,hrf⟩:=RF.of h1
 refine ⟨m,rfl,hrf,fun w am mn hi=>⟨hi,fun hm=>?_,?_⟩⟩
 ·rw [if_neg (by omega)] at h3
  simp only [Bool.and_eq_true,decide_eq_true_eq] at h3
  have:=hi.len
  omega
 ·by_cases hm : (m : Int)=1
  ·rw [if_pos hm] at h3
   have : mod=[]:=List.eq_nil_of_length_eq_zero (by simpa using h3)
   subst this
   exact Dig.of_mem (by have:=hrf.p2;omega) (by simp)
  ·rw [if_neg hm] at h3
   simp only [Bool.and_eq_true] at h3
   refine Dig.of_mem (by have:=hrf.p2;omega) fun x hx=>?_
   have:=List.all_eq_true.1 h3.2 x hx
   simpa using this
theorem rmatE_zero {P M : Int} {mod : List Int} {cols : Int} {L : List (List Int)} (h : rmatE P M mod cols L=0) : fieldRB P M mod=true∧matE (orderS P M) cols L=0:=by
 unfold rmatE at h
 split at h
 ·rename_i h1;exact ⟨h1,h⟩
 ·omega
set_option maxRecDepth 100000 in
set_option maxHeartbeats 1600000 in
theorem rSpaceCheck_any (P M : Int) (am : Option Addr) (mn cm : Nat) (mod : List Int) (cols : Int) (a : Option Addr) (n c : Nat) (L : List (List Int)) (w : World) (hmod : Ints w am mn mod) (hi : Mat w a n L)
  (hinv : fieldRB P M mod=true→∀ p,ElP P M.toNat p→p ≠ 0→(invR P M.toNat mod p=1 ↔ p=1)) :
  Calls Tryz.prog 90 #[.agg #[.int .i64 P,.int .i64 M,.slice am mn cm],.agg #[.int .i64 cols,.slice a n c]] w fun e w'=>e = .returned (.int .i64 (rspaceE P M mod cols L))∧Below w.heap.size w w':=by
 have Hlen:=Lib.hid hi.len
 have Hinv:=Lib.hid hinv
 clear hinv
 go_enter Tryz.func90,Tryz.ntmps90
 go_wp2_with fail
 obtain ⟨W,hW⟩ : ∃ W : World,W=(w.alloc (.cells #[.int .i64 P,.int .i64 M,.slice am mn cm] 24)).alloc (.cells #[.int .i64 cols,.slice a n c] 73):=⟨_,rfl⟩
 rw [← hW]
 have hbW : Below w.heap.size w W:=by rw [hW];exact below2 _ _ _
 have x0 : Box W w.heap.size [.int .i64 P,.int .i64 M,.slice am mn cm]:=by rw [hW];exact (Box.new _ _ _ rfl).alloc _
 have y0 : Box W (w.heap.size+1) [.int .i64 cols,.slice a n c]:=by rw [hW];exact Box.new _ _ _ (by simp)
 have HX:=Lib.hid (And.intro x0 y0)
 have hiW:=hi.keep hbW
 have hmW:=hmod.keep hbW
 clear hW x0 y0
 refine (rMatCheck_any P M am mn cm mod cols a n c L W hmW hiW).mono ?_
 rintro e w1 ⟨rfl,hb1⟩
 have hbw1:=Below.next hbW hb1
 by_cases hE : rmatE P M mod cols L=0
 ·obtain ⟨hB,hm⟩:=rmatE_zero hE
  obtain ⟨m,rfl,hrf,hmods⟩:=fieldRB_rf hB
  obtain ⟨k,rfl,hk,hl,hR⟩:=matE_zero hm
  have HE : Hid (rspaceE P m mod k L=if canR (rops P m mod) L k=L then 0 else 5):=by show _=_;rw [rspaceE,if_pos hE,Int.toNat_natCast,Int.toNat_natCast]
  rw [hE]
  have hinv:=Hinv.out hB
  rw [Int.toNat_natCast] at hinv
  have hRw : Rws (ElP P m) k L:=fun r hr=>⟨(hR r hr).1,fun x hx=>by have:=(hR r hr).2 x hx;rw [hrf.order] at this;exact this⟩
  have x1:=HX.out.1.keep hb1
  have y1:=HX.out.2.keep hb1
  have d0:=x1.cell 0 rfl
  have d1:=x1.cell 1 rfl
  have d2:=x1.cell 2 rfl
  have d3:=y1.cell 0 rfl
  have d4:=y1.cell 1 rfl
  have hm1:=hmW.keep hb1
  have hi1:=hiW.keep hb1
  have hn : n≤1000000:=by rw [← Hlen.out];omega
  have HC:=Lib.hid (rCanon_any P m am mn cm mod a n c k L w1 ⟨hrf,hmods w1 am mn hm1⟩ hi1 hRw (by omega) hn hinv)
  clear hE hB hm hmods hR hinv hRw x1 y1
  obtain ⟨O,hO⟩ : ∃ O,rops P m mod=O:=⟨_,rfl⟩
  rw [hO] at HC HE
  clear hO
  go_wp2_with fail
  refine HC.out.mono ?_
  rintro e w2 ⟨a2,c2,ap,cp,rfl,hM2,hp2,hb2⟩
  have hbw2:=Below.next hbw1 hb2
  have y2:=(HX.out.2.keep hb1).keep hb2
  have d3:=y2.cell 0 rfl
  have d4:=y2.cell 1 rfl
  have hi2:=hi1.keep hb2
  have hM3:=hM2.mat
  have HS:=Lib.hid (rSameRows_any a2 (elimTo O L k).2.length c2 (canR O L k) a n c L hM3 hi2)
  clear hM2 hp2 y2
  generalize (elimTo O L k).2.length=kk at *
  by_cases hc : canR O L k=L
  ·have hc' : decide (canR O L k=L)=true:=by simpa using hc
   have HF : Hid (rspaceE P m mod k L=0):=by show _=_;rw [HE.out,if_pos hc]
   rw [hc'] at HS
   clear hc hc'
   go_wp2_with fail
   refine HS.out.mono ?_
   rintro e w3 ⟨rfl,hd3⟩
   go_wp2_with fail
   go_ret
   exact ⟨ret_int HF.out.symm,Below.next hbw2 hd3.below⟩
  ·have hc' : decide (canR O L k=L)=false:=by simpa using hc
   have HF : Hid (rspaceE P m mod k L=5):=by show _=_;rw [HE.out,if_neg hc]
   rw [hc'] at HS
   clear hc hc'
   go_wp2_with fail
   refine HS.out.mono ?_
   rintro e w3 ⟨rfl,hd3⟩
   go_wp2_with fail
   go_ret
   exact ⟨ret_int HF.out.symm,Below.next hbw2 hd3.below⟩
 ·have HE : Hid (rspaceE P M mod cols L=rmatE P M mod cols L):=by show _=_;rw [rspaceE,if_neg hE]
  have hE' : (rmatE P M mod cols L != 0)=true:=by simpa using hE
  clear hE
  go_wp2_with fail
  go_ret
  exact ⟨ret_int HE.out.symm,hbw1⟩
theorem lenE_lo {N : Int} (h : N<1) : lenE N=4:=by rw [lenE,if_pos (.inl h)]
theorem lenE_hi {N : Int} (h : 64<N) : lenE N=4:=by rw [lenE,if_pos (.inr h)]
def rcodeE (P M : Int) (mod : List Int) (N : Int) (L : List (List Int)) : Int :=
 if fieldRB P M mod=true then (if lenE N=0 then rspaceE P M mod N L else 4) else 1
set_option maxRecDepth 100000 in
set_option maxHeartbeats 1600000 in
theorem rCodeCheck_any (P M : Int) (am : Option Addr) (mn cm : Nat) (mod : List Int) (N : Int) (a : Option Addr) (n c : Nat) (L : List (List Int)) (w : World) (hmod : Ints w am mn mod) (hi : Mat w a n L)
  (hinv : fieldRB P M mod=true→∀ p,ElP P M.toNat p→p ≠ 0→(invR P M.toNat mod p=1 ↔ p=1)) :
  Calls Tryz.prog 47 #[.agg #[.int .i64 P,.int .i64 M,.slice am mn cm,.int .i64 N,.slice a n c]] w fun e w'=>e = .returned (.int .i64 (rcodeE P M mod N L))∧Below w.heap.size w w':=by
 have Hinv:=Lib.hid hinv
 clear hinv
 go_enter Tryz.func47,Tryz.ntmps47
 go_wp2_with fail
 obtain ⟨W,hW⟩ : ∃ W : World,W=w.alloc (.cells #[.int .i64 P,.int .i64 M,.slice am mn cm,.int .i64 N,.slice a n c] 27):=⟨_,rfl⟩
 rw [← hW]
 have hbW : Below w.heap.size w W:=by rw [hW];exact below1 _ _
 have x0 : Box W w.heap.size [.int .i64 P,.int .i64 M,.slice am mn cm,.int .i64 N,.slice a n c]:=by rw [hW];exact Box.new _ _ _ rfl
 have HX:=Lib.hid x0
 clear hW x0
 refine (rFieldCheck_any P M am mn cm mod W (hmod.keep hbW)).mono ?_
 rintro e w1 ⟨rfl,hb1⟩
 have hbw1:=Below.next hbW hb1
 by_cases hB : fieldRB P M mod=true
 ·have hE : errField (fieldRB P M mod)=0:=by rw [hB];rfl
  rw [hE]
  have HB : Hid (rcodeE P M mod N L=if lenE N=0 then rspaceE P M mod N L else 4):=by show _=_;rw [rcodeE,if_pos hB]
  have x1:=HX.out.keep hb1
  have c0:=x1.cell 0 rfl
  have c1:=x1.cell 1 rfl
  have c2:=x1.cell 2 rfl
  have c3:=x1.cell 3 rfl
  have c4:=x1.cell 4 rfl
  have hm1:=(hmod.keep hbW).keep hb1
  have hi1:=(hi.keep hbW).keep hb1
  clear hE hB x1
  by_cases h1 : N<1
  ·have Hf : Hid (rcodeE P M mod N L=4):=by show _=_;rw [HB.out,lenE_lo h1];rfl
   have t1 : decide (N<1)=true:=by simpa using h1
   go_wp2_with fail
   go_ret
   exact ⟨ret_int Hf.out.symm,hbw1⟩
  ·have t1 : decide (N<1)=false:=by simpa using h1
   by_cases h2 : 64<N
   ·have Hf : Hid (rcodeE P M mod N L=4):=by show _=_;rw [HB.out,lenE_hi h2];rfl
    have t2 : decide (64<N)=true:=by simpa using h2
    go_wp2_with fail
    go_ret
    exact ⟨ret_int Hf.out.symm,hbw1⟩
   ·have t2 : decide (64<N)=false:=by simpa using h2
    have Hf : Hid (rcodeE P M mod N L=rspaceE P M mod N L):=by show _=_;rw [HB.out,lenE_in h1 h2,if_pos rfl]
    clear h1 h2
    go_wp2_with fail
    refine (rSpaceCheck_any P M am mn cm mod N a n c L w1 hm1 hi1 Hinv.out).mono ?_
    rintro e w2 ⟨rfl,hb2⟩
    go_wp2_with fail
    go_ret
    exact ⟨ret_int Hf.out.symm,Below.next hbw1 hb2⟩
 ·have hB' : fieldRB P M mod=false:=by simpa using hB
  have Hf : Hid (rcodeE P M mod N L=1):=by show _=_;rw [rcodeE,if_neg hB]
  have hE : errField (fieldRB P M mod)=1:=by rw [hB'];rfl
  rw [hE]
  clear hB hB' hE
  go_wp2_with fail
  go_ret
  exact ⟨ret_int Hf.out.symm,hbw1⟩
end

section
open Go.RowKit
def SomeBool (w : World) (e : Ending) (w' : World) : Prop:=∃ z,e = .returned (.bool z)∧Below w.heap.size w w'
set_option maxRecDepth 100000 in
set_option maxHeartbeats 3200000 in
theorem rFew9_any (a : Option Addr) (n c K : Nat) (L : List (List Int)) (w : World) (hi : Mat w a n L) (hK : K≤100000) :
  Calls Tryz.prog 87 #[.agg #[.int .i64 0,.slice a n c],.int .i64 K] w (SomeBool w):=by
 have Hlen:=Lib.hid hi.len
 have hpl:=hi.pl
 have hmax:=hi.max
 unfold maxLen at hmax
 go_enter Tryz.func87,Tryz.ntmps87
 go_upto_region 1 with fail
 obtain ⟨W,hW⟩ : ∃ W : World,W=w.alloc (.cells #[.int .i64 0,.slice a n c] 73):=⟨_,rfl⟩
 rw [← hW]
 have hbW : Below w.heap.size w W:=by rw [hW];exact below1 _ _
 have x0 : Box W w.heap.size [.int .i64 0,.slice a n c]:=by rw [hW];exact Box.new _ _ _ rfl
 have c0:=x0.cell 0 rfl
 have c1:=x0.cell 1 rfl
 have hiW:=hi.keep hbW
 have HbW:=Lib.hid hbW
 clear hW x0 hi hbW
 by_cases h1 : K<n
 ·have d1 : decide (K<n)=true:=by simpa using h1
  have d1' : decide ((K : Int)<n)=true:=by simp;omega
  go_wp2_with fail
  go_ret
  exact ⟨_,rfl,HbW.out⟩
 ·have d1 : decide (K<n)=false:=by simpa using h1
  have d1' : decide ((K : Int)<n)=false:=by simp;omega
  go_wp2_with fail
  go_loopw [5,6] (fun lv iv wr=>∃ k m : Nat,k≤n∧m≤K∧lv = .int .i64 m∧iv = .int .i64 k∧wr=W) (fun _ iv _=>n - (intOf iv).toNat)
  case atStart=>exact ⟨0,K - n,Nat.zero_le _,by omega,by go_num,rfl,rfl⟩
  case round =>
   obtain ⟨k,m,hk,hm,rfl,rfl,rfl⟩:=hrel
   by_cases hlt : k<n
   ·obtain ⟨ra,rn,rc,hcell,hrow⟩:=hiW.cell k hlt
    by_cases h2 : m<rn
    ·have d2 : decide (m<rn)=true:=by simpa using h2
     have d2' : decide ((m : Int)<rn)=true:=by simp;omega
     go_wp2_with fail
     go_ret
     exact ⟨_,rfl,HbW.out⟩
    ·have d2 : decide (m<rn)=false:=by simpa using h2
     have d2' : decide ((m : Int)<rn)=false:=by simp;omega
     have d3 : (rn : Int)≤m:=by omega
     go_wp2_with fail
     go_roundw
     case rel=>exact ⟨k+1,m - rn,by omega,by omega,by go_num,by go_num,by first | rfl | trivial⟩
     case measure=>simp [intOf] <;> omega
   ·obtain rfl : k=n:=by omega
    go_wp2_with fail
    go_ret
    exact ⟨_,rfl,HbW.out⟩
set_option maxRecDepth 100000 in
theorem rFew12_any (P M : Int) (am : Option Addr) (mn cm : Nat) (N : Int) (a : Option Addr) (n c K : Nat) (L : List (List Int)) (w : World) (hi : Mat w a n L) (hK : K≤100000) :
  Calls Tryz.prog 44 #[.agg #[.int .i64 P,.int .i64 M,.slice am mn cm,.int .i64 N,.slice a n c],.int .i64 K] w (SomeBool w):=by
 have H:=Lib.hid (fun V hV=>rFew9_any a n c K L V (hi.keep hV) hK : ∀ V,Below w.heap.size w V→_)
 clear hi
 go_enter Tryz.func44,Tryz.ntmps44
 go_wp2_with fail
 have hbW:=below1 w (.cells #[.int .i64 P,.int .i64 M,.slice am mn cm,.int .i64 N,.slice a n c] 27)
 refine (H.out _ hbW).mono ?_
 rintro e w1 ⟨z,rfl,hb1⟩
 have hF:=Below.next hbW hb1
 go_wp2_with fail
 go_ret
 exact ⟨z,rfl,hF⟩
end

section
open Go.ChangeShapes Go.WideShapes Go.ChangeAt Go.RowKit
section
variable {H : Type} {enc : TypeId × Value→H} {W : World} {held : Bool} {fuel : Nat} {cs : List Value} {x : DataW H × List MemPlace}
theorem opened_mat (h : DataW.trod enc Tryz.prog W 0 (fun _=>true) held fuel 25 cs=some x) : ∃ a n c L,cs=[.slice a n c]∧Mat W a n L:=by
 rcases Go.Deep.open_int_rows Tryz.underlying25 Tryz.underlying22 Tryz.underlying3 (by kernel_rfl) (by kernel_rfl) h with ⟨hcs,_⟩ | ⟨a,len,cap,A,Ln,C,Z,hcs,_,hl,hm,_,hrows⟩
 ·exact ⟨none,0,0,[],hcs,⟨rfl,fun h0=>by omega,by unfold maxLen;omega,fun i hi=>by omega⟩⟩
 ·refine ⟨some a,len,cap,(List.range len).map (fun r=>(Z r).take (Ln r)),hcs,⟨by simp,fun h0=>congrArg some (plain_of (hrows 0 (by omega)).1),by omega,fun r hr=>?_⟩⟩
  obtain ⟨h1,h2,h3,h4,_,h5,h6⟩:=hrows r (by omega)
  refine ⟨A r,Ln r,C r,add_cell h1,?_⟩
  have e : nthR ((List.range len).map (fun r=>(Z r).take (Ln r))) r=(Z r).take (Ln r):=by
   unfold nthR
   simp [List.getD_eq_getElem?_getD,List.getElem?_map,List.getElem?_range hr]
  rw [e]
  match hA : A r,h5,h6 with
  | none,h5,_ =>
   have h0 : Ln r=0:=by have:=h5 rfl;omega
   rw [h0]
   exact Ints.nil _ _
  | some b,_,h6 =>
   obtain ⟨_,h7⟩:=h6 b rfl
   exact ⟨by simp;omega,fun h0=>congrArg some (plain_of (h7 0 (by omega))),by omega,fun i hi=>by
    rw [nth_take_getD _ _ _ hi]
    exact add_cell (h7 i (by omega))⟩
end
section
variable {H : Type} {enc : TypeId × Value→H} {W : World} {held : Bool} {b0 : Nat} {v : Value} {d : DataW H} {p : List MemPlace}
set_option maxRecDepth 100000 in
theorem arg_code (hv : Value.okWide Tryz.prog W .any b0 27 v) (h : DataW.Trod enc Tryz.prog W 0 (fun _=>true) held 27 v d p) :
  ∃ (P M : Int) (am : Option Addr) (mn cm : Nat) (mod : List Int) (N : Int) (a : Option Addr) (n c : Nat) (L : List (List Int)),v = .agg #[.int .i64 P,.int .i64 M,.slice am mn cm,.int .i64 N,.slice a n c]∧Ints W am mn mod∧Mat W a n L:=by
 obtain ⟨cs,rfl,hsz⟩:=okWide_struct Tryz.underlying27 hv
 rw [show Tryz.prog.cellsOf 27 = 5 by kernel_rfl] at hsz
 obtain ⟨l⟩:=cs
 match l,hsz with
 | [v0,v1,v2,v3,v4],_ =>
 obtain ⟨fuel,hf⟩:=h
 obtain ⟨xs,n0,_,_,_,hlen,hfs⟩:=DataW.trod_struct Tryz.underlying27 hf
 obtain ⟨y0,y1,y2,rfl⟩ : ∃ y0 y1 y2,xs=[y0,y1,y2]:=by
  match xs,hlen with
  | [y0,y1,y2],_=>exact ⟨y0,y1,y2,rfl⟩
 have k24 : Tryz.prog.cellsOf 24 = 3:=by kernel_rfl
 have k3 : Tryz.prog.cellsOf 3 = 1:=by kernel_rfl
 have k22 : Tryz.prog.cellsOf 22 = 1:=by kernel_rfl
 have k25 : Tryz.prog.cellsOf 25 = 1:=by kernel_rfl
 have g0 : DataW.trod enc Tryz.prog W 0 (fun _=>true) held n0 24 [v0,v1,v2]=some y0:=by simpa [Value.cells,k24] using hfs 0 _ rfl
 have g1 : DataW.trod enc Tryz.prog W 0 (fun _=>true) held n0 3 [v3]=some y1:=by simpa [Value.cells,k3] using hfs 1 _ rfl
 have g2 : DataW.trod enc Tryz.prog W 0 (fun _=>true) held n0 25 [v4]=some y2:=by simpa [Value.cells,k25] using hfs 2 _ rfl
 obtain ⟨xs',n1,_,_,_,hlen',hfs'⟩:=DataW.trod_struct Tryz.underlying24 g0
 obtain ⟨z0,z1,z2,rfl⟩ : ∃ z0 z1 z2,xs'=[z0,z1,z2]:=by
  match xs',hlen' with
  | [z0,z1,z2],_=>exact ⟨z0,z1,z2,rfl⟩
 have q0 : DataW.trod enc Tryz.prog W 0 (fun _=>true) held n1 3 [v0]=some z0:=by simpa [k3] using hfs' 0 _ rfl
 have q1 : DataW.trod enc Tryz.prog W 0 (fun _=>true) held n1 3 [v1]=some z1:=by simpa [k3] using hfs' 1 _ rfl
 have q2 : DataW.trod enc Tryz.prog W 0 (fun _=>true) held n1 22 [v2]=some z2:=by simpa [k22] using hfs' 2 _ rfl
 obtain ⟨P,eP,_,_⟩:=DataW.trod_int Tryz.underlying3 q0
 obtain ⟨M,eM,_,_⟩:=DataW.trod_int Tryz.underlying3 q1
 obtain ⟨N,eN,_,_⟩:=DataW.trod_int Tryz.underlying3 g1
 obtain ⟨am,mn,cm,mod,eI,hI⟩:=opened_ints q2
 obtain ⟨a,n,c,L,eL,hL⟩:=opened_mat g2
 simp at eP eM eN eI eL
 subst eP eM eN eI eL
 exact ⟨P,M,am,mn,cm,mod,N,a,n,c,L,rfl,hI,hL⟩
end
end

end Go.Proofs.YtcflcogbpnmjeaaGreat
