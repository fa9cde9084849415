/-  -/
import Derived.Test.YtcflcogbpnmjeaaGreatK9
import Derived.Test.YtcflcogbpnmjeaaGreatHDU5
import Derived.Test.YtcflcogbpnmjeaaGreatK13
import Derived.Test.YtcflcogbpnmjeaaGreatHDU7
import Derived.Test.YtcflcogbpnmjeaaGreatK14
import Derived.Test.YtcflcogbpnmjeaaGreatHDU6
import Derived.Test.YtcflcogbpnmjeaaGreatK15
import Derived.Test.YtcflcogbpnmjeaaGreatK8
import Derived.Test.YtcflcogbpnmjeaaGreatHDU2
import Derived.Test.YtcflcogbpnmjeaaGreatK6
import Derived.Test.YtcflcogbpnmjeaaGreatHDU1
import Derived.Test.YtcflcogbpnmjeaaGreatK11
import Derived.Test.YtcflcogbpnmjeaaGreatHDU3
import Derived.Test.YtcflcogbpnmjeaaGreatK17
import Derived.Test.YtcflcogbpnmjeaaGreatK20
import Derived.Test.YtcflcogbpnmjeaaGreatK3
import Derived.Test.YtcflcogbpnmjeaaGreatK24
import Derived.Test.YtcflcogbpnmjeaaGreatK29
import Derived.Test.YtcflcogbpnmjeaaGreatK31
namespace Go.Proofs.YtcflcogbpnmjeaaGreat
set_option linter.unusedVariables false
set_option linter.unusedSimpArgs false
set_option linter.unusedSectionVars false

section
open Go.RowKit
def canR (O : FOps) (L : List (List Int)) (cols : Nat) : List (List Int):=(elimTo O L cols).1.take (elimTo O L cols).2.length
def RCanonPost (O : FOps) (L : List (List Int)) (cols : Nat) (w : World) (e : Ending) (w' : World) : Prop :=
 ∃ a c ap cp,e = .returned (.tuple #[.slice a (elimTo O L cols).2.length c,.slice ap (elimTo O L cols).2.length cp])∧MatN w.heap.size w' a (elimTo O L cols).2.length (canR O L cols) ∧
  IntsN w.heap.size w' ap (elimTo O L cols).2.length (elimTo O L cols).2∧Below w.heap.size w w'
set_option maxRecDepth 100000 in
set_option maxHeartbeats 1600000 in
theorem rCanon_any (P : Int) (m : Nat) (am : Option Addr) (mn cm : Nat) (mod : List Int) (a : Option Addr) (n c cols : Nat) (L : List (List Int)) (w : World) (hf : RFld w P m am mn mod) (hi : Mat w a n L)
  (hR : Rws (ElP P m) cols L) (hlen : cols≤1000000) (hn : n≤1000000) (hinv : ∀ p,ElP P m p→p ≠ 0→(invR P m mod p=1 ↔ p=1)) :
  Calls Tryz.prog 132 #[.agg #[.int .i64 P,.int .i64 m,.slice am mn cm],.slice a n c,.int .i64 cols] w (RCanonPost (rops P m mod) L cols w):=by
 have Hlen:=Lib.hid hi.len
 have Hc : Hid (∀ V,Below w.heap.size w V→Calls Tryz.prog 175 #[.agg #[.int .i64 P,.int .i64 m,.slice am mn cm],.slice a n c,.int .i64 cols] V (RElimPost (rops P m mod) L cols V)) :=
  fun V hV=>rElim_any P m am mn cm mod a n c cols cols L V (hf.keep hV) (hi.keep hV) hR (Nat.le_refl _) hlen hn hinv
 obtain ⟨O,hO⟩ : ∃ O,rops P m mod=O:=⟨_,rfl⟩
 rw [hO] at Hc ⊢
 clear hO hinv hR
 go_enter Tryz.func132,Tryz.ntmps132
 go_wp2_with fail
 obtain ⟨W,hW⟩ : ∃ W : World,W=w.alloc (.cells #[.int .i64 P,.int .i64 m,.slice am mn cm] 24):=⟨_,rfl⟩
 rw [← hW]
 have hbW : Below w.heap.size w W:=by rw [hW];exact below1 _ _
 clear hW
 refine (Hc.out W hbW).mono ?_
 rintro e w1 ⟨a1,c1,R1,ap,cp,rfl,hO1,hp1,hb1⟩
 have hpl:=elimTo_piv O L cols
 have hcap:=own_cap hO1.own
 have hpv:=(IntsN.own hp1).mono hbW.size
 have hmt:=((MatN.own hO1).take (k:=(elimTo O L cols).2.length) hpl.2).mono hbW.size
 have hF : RCanonPost O L cols w (.returned (.tuple #[.slice a1 (elimTo O L cols).2.length c1,.slice ap (elimTo O L cols).2.length cp])) w1:=⟨a1,_,ap,cp,rfl,hmt,hpv,Below.next hbW hb1⟩
 have HF:=Lib.hid hF
 have hle : (elimTo O L cols).2.length≤c1:=Nat.le_trans hpl.2 hcap
 clear hF hpv hmt hp1 hcap hpl
 generalize (elimTo O L cols).2.length=k at *
 go_wp2_with fail
 go_ret2
 simpa using HF.out
def rspaceE (P M : Int) (mod : List Int) (cols : Int) (L : List (List Int)) : Int :=
 if rmatE P M mod cols L=0 then (if canR (rops P M.toNat mod) L cols.toNat=L then 0 else 5) else rmatE P M mod cols L
theorem fieldRB_rf {P M : Int} {mod : List Int} (h : fieldRB P M mod=true) : ∃ m : Nat,M=m∧RF P m∧(∀ (w : World) am mn,Ints w am mn mod→Mods w P m am mn mod):=by
 unfold fieldRB shapeB at h
 simp only [Bool.and_eq_true,bne_iff_ne,ne_eq] at h
 obtain ⟨⟨⟨h1,h2⟩,h3⟩,h4⟩:=h
 obtain ⟨m,rfl,hrf⟩:=RF.of h1
 refine ⟨m,rfl,hrf,fun w am mn hi=>⟨hi,fun hm=>?_,?_⟩⟩
 ·rw [if_neg (by omega)] at h3
  simp only [Bool.and_eq_true,decide_eq_true_eq] at h3
  have:=hi.len
  omega
 ·by_cases hm : (m : Int)=1
  ·rw [if_pos hm] at h3
   have : mod=[]:=List.eq_nil_of_length_eq_zero (by simpa using h3)
   subst this
   exact Dig.of_mem (by have:=hrf.p2;omega) (by simp)
  ·rw [if_neg hm] at h3
   simp only [Bool.and_eq_true] at h3
   refine Dig.of_mem (by have:=hrf.p2;omega) fun x hx=>?_
   have:=List.all_eq_true.1 h3.2 x hx
   simpa using this
theorem rmatE_zero {P M : Int} {mod : List Int} {cols : Int} {L : List (List Int)} (h : rmatE P M mod cols L=0) : fieldRB P M mod=true∧matE (orderS P M) cols L=0:=by
 unfold rmatE at h
 split at h
 ·rename_i h1;exact ⟨h1,h⟩
 ·omega
set_option maxRecDepth 100000 in
set_option maxHeartbeats 1600000 in
theorem rSpaceCheck_any (P M : Int) (am : Option Addr) (mn cm : Nat) (mod : List Int) (cols : Int) (a : Option Addr) (n c : Nat) (L : List (List Int)) (w : World) (hmod : Ints w am mn mod) (hi : Mat w a n L)
  (hinv : fieldRB P M mod=true→∀ p,ElP P M.toNat p→p ≠ 0→(invR P M.toNat mod p=1 ↔ p=1)) :
  Calls Tryz.prog 90 #[.agg #[.int .i64 P,.int .i64 M,.slice am mn cm],.agg #[.int .i64 cols,.slice a n c]] w fun e w'=>e = .returned (.int .i64 (rspaceE P M mod cols L))∧Below w.heap.size w w':=by
 have Hlen:=Lib.hid hi.len
 have Hinv:=Lib.hid hinv
 clear hinv
 go_enter Tryz.func90,Tryz.ntmps90
 go_wp2_with fail
 obtain ⟨W,hW⟩ : ∃ W : World,W=(w.alloc (.cells #[.int .i64 P,.int .i64 M,.slice am mn cm] 24)).alloc (.cells #[.int .i64 cols,.slice a n c] 73):=⟨_,rfl⟩
 rw [← hW]
 have hbW : Below w.heap.size w W:=by rw [hW];exact below2 _ _ _
 have x0 : Box W w.heap.size [.int .i64 P,.int .i64 M,.slice am mn cm]:=by rw [hW];exact (Box.new _ _ _ rfl).alloc _
 have y0 : Box W (w.heap.size+1) [.int .i64 cols,.slice a n c]:=by rw [hW];exact Box.new _ _ _ (by simp)
 have HX:=Lib.hid (And.intro x0 y0)
 have hiW:=hi.keep hbW
 have hmW:=hmod.keep hbW
 clear hW x0 y0
 refine (rMatCheck_any P M am mn cm mod cols a n c L W hmW hiW).mono ?_
 rintro e w1 ⟨rfl,hb1⟩
 have hbw1:=Below.next hbW hb1
 by_cases hE : rmatE P M mod cols L=0
 ·obtain ⟨hB,hm⟩:=rmatE_zero hE
  obtain ⟨m,rfl,hrf,hmods⟩:=fieldRB_rf hB
  obtain ⟨k,rfl,hk,hl,hR⟩:=matE_zero hm
  have HE : Hid (rspaceE P m mod k L=if canR (rops P m mod) L k=L then 0 else 5):=by show _=_;rw [rspaceE,if_pos hE,Int.toNat_natCast,Int.toNat_natCast]
  rw [hE]
  have hinv:=Hinv.out hB
  rw [Int.toNat_natCast] at hinv
  have hRw : Rws (ElP P m) k L:=fun r hr=>⟨(hR r hr).1,fun x hx=>by have:=(hR r hr).2 x hx;rw [hrf.order] at this;exact this⟩
  have x1:=HX.out.1.keep hb1
  have y1:=HX.out.2.keep hb1
  have d0:=x1.cell 0 rfl
  have d1:=x1.cell 1 rfl
  have d2:=x1.cell 2 rfl
  have d3:=y1.cell 0 rfl
  have d4:=y1.cell 1 rfl
  have hm1:=hmW.keep hb1
  have hi1:=hiW.keep hb1
  have hn : n≤1000000:=by rw [← Hlen.out];omega
  have HC:=Lib.hid (rCanon_any P m am mn cm mod a n c k L w1 ⟨hrf,hmods w1 am mn hm1⟩ hi1 hRw (by omega) hn hinv)
  clear hE hB hm hmods hR hinv hRw x1 y1
  obtain ⟨O,hO⟩ : ∃ O,rops P m mod=O:=⟨_,rfl⟩
  rw [hO] at HC HE
  clear hO
  go_wp2_with fail
  refine HC.out.mono ?_
  rintro e w2 ⟨a2,c2,ap,cp,rfl,hM2,hp2,hb2⟩
  have hbw2:=Below.next hbw1 hb2
  have y2:=(HX.out.2.keep hb1).keep hb2
  have d3:=y2.cell 0 rfl
  have d4:=y2.cell 1 rfl
  have hi2:=hi1.keep hb2
  have hM3:=hM2.mat
  have HS:=Lib.hid (rSameRows_any a2 (elimTo O L k).2.length c2 (canR O L k) a n c L hM3 hi2)
  clear hM2 hp2 y2
  generalize (elimTo O L k).2.length=kk at *
  by_cases hc : canR O L k=L
  ·have hc' : decide (canR O L k=L)=true:=by simpa using hc
   have HF : Hid (rspaceE P m mod k L=0):=by show _=_;rw [HE.out,if_pos hc]
   rw [hc'] at HS
   clear hc hc'
   go_wp2_with fail
   refine HS.out.mono ?_
   rintro e w3 ⟨rfl,hd3⟩
   go_wp2_with fail
   go_ret
   exact ⟨ret_int HF.out.symm,Below.next hbw2 hd3.below⟩
  ·have hc' : decide (canR O L k=L)=false:=by simpa using hc
   have HF : Hid (rspaceE P m mod k L=5):=by show _=_;rw [HE.out,if_neg hc]
   rw [hc'] at HS
   clear hc hc'
   go_wp2_with fail
   refine HS.out.mono ?_
   rintro e w3 ⟨rfl,hd3⟩
   go_wp2_with fail
   go_ret
   exact ⟨ret_int HF.out.symm,Below.next hbw2 hd3.below⟩
 ·have HE : Hid (rspaceE P M mod cols L=rmatE P M mod cols L):=by show _=_;rw [rspaceE,if_neg hE]
  have hE' : (rmatE P M mod cols L != 0)=true:=by simpa using hE
  clear hE
  go_wp2_with fail
  go_ret
  exact ⟨ret_int HE.out.symm,hbw1⟩
theorem lenE_lo {N : Int} (h : N<1) : lenE N=4:=by rw [lenE,if_pos (.inl h)]
theorem lenE_hi {N : Int} (h : 64<N) : lenE N=4:=by rw [lenE,if_pos (.inr h)]
def rcodeE (P M : Int) (mod : List Int) (N : Int) (L : List (List Int)) : Int :=
 if fieldRB P M mod=true then (if lenE N=0 then rspaceE P M mod N L else 4) else 1
set_option maxRecDepth 100000 in
set_option maxHeartbeats 1600000 in
theorem rCodeCheck_any (P M : Int) (am : Option Addr) (mn cm : Nat) (mod : List Int) (N : Int) (a : Option Addr) (n c : Nat) (L : List (List Int)) (w : World) (hmod : Ints w am mn mod) (hi : Mat w a n L)
  (hinv : fieldRB P M mod=true→∀ p,ElP P M.toNat p→p ≠ 0→(invR P M.toNat mod p=1 ↔ p=1)) :
  Calls Tryz.prog 47 #[.agg #[.int .i64 P,.int .i64 M,.slice am mn cm,.int .i64 N,.slice a n c]] w fun e w'=>e = .returned (.int .i64 (rcodeE P M mod N L))∧Below w.heap.size w w':=by
 have Hinv:=Lib.hid hinv
 clear hinv
 go_enter Tryz.func47,Tryz.ntmps47
 go_wp2_with fail
 obtain ⟨W,hW⟩ : ∃ W : World,W=w.alloc (.cells #[.int .i64 P,.int .i64 M,.slice am mn cm,.int .i64 N,.slice a n c] 27):=⟨_,rfl⟩
 rw [← hW]
 have hbW : Below w.heap.size w W:=by rw [hW];exact below1 _ _
 have x0 : Box W w.heap.size [.int .i64 P,.int .i64 M,.slice am mn cm,.int .i64 N,.slice a n c]:=by rw [hW];exact Box.new _ _ _ rfl
 have HX:=Lib.hid x0
 clear hW x0
 refine (rFieldCheck_any P M am mn cm mod W (hmod.keep hbW)).mono ?_
 rintro e w1 ⟨rfl,hb1⟩
 have hbw1:=Below.next hbW hb1
 by_cases hB : fieldRB P M mod=true
 ·have hE : errField (fieldRB P M mod)=0:=by rw [hB];rfl
  rw [hE]
  have HB : Hid (rcodeE P M mod N L=if lenE N=0 then rspaceE P M mod N L else 4):=by show _=_;rw [rcodeE,if_pos hB]
  have x1:=HX.out.keep hb1
  have c0:=x1.cell 0 rfl
  have c1:=x1.cell 1 rfl
  have c2:=x1.cell 2 rfl
  have c3:=x1.cell 3 rfl
  have c4:=x1.cell 4 rfl
  have hm1:=(hmod.keep hbW).keep hb1
  have hi1:=(hi.keep hbW).keep hb1
  clear hE hB x1
  by_cases h1 : N<1
  ·have Hf : Hid (rcodeE P M mod N L=4):=by show _=_;rw [HB.out,lenE_lo h1];rfl
   have t1 : decide (N<1)=true:=by simpa using h1
   go_wp2_with fail
   go_ret
   exact ⟨ret_int Hf.out.symm,hbw1⟩
  ·have t1 : decide (N<1)=false:=by simpa using h1
   by_cases h2 : 64<N
   ·have Hf : Hid (rcodeE P M mod N L=4):=by show _=_;rw [HB.out,lenE_hi h2];rfl
    have t2 : decide (64<N)=true:=by simpa using h2
    go_wp2_with fail
    go_ret
    exact ⟨ret_int Hf.out.symm,hbw1⟩
   ·have t2 : decide (64<N)=false:=by simpa using h2
    have Hf : Hid (rcodeE P M mod N L=rspaceE P M mod N L):=by show _=_;rw [HB.out,lenE_in h1 h2,if_pos rfl]
    clear h1 h2
    go_wp2_with fail
    refine (rSpaceCheck_any P M am mn cm mod N a n c L w1 hm1 hi1 Hinv.out).mono ?_
    rintro e w2 ⟨rfl,hb2⟩
    go_wp2_with fail
    go_ret
    exact ⟨ret_int Hf.out.symm,Below.next hbw1 hb2⟩
 ·have hB' : fieldRB P M mod=false:=by simpa using hB
  have Hf : Hid (rcodeE P M mod N L=1):=by show _=_;rw [rcodeE,if_neg hB]
  have hE : errField (fieldRB P M mod)=1:=by rw [hB'];rfl
  rw [hE]
  clear hB hB' hE
  go_wp2_with fail
  go_ret
  exact ⟨ret_int Hf.out.symm,hbw1⟩
end

section
theorem tab5_2_0 : chkC 5 2 25 cert5_2 0 25=true:=by decide +kernel
theorem tab5_2 : chkAll 5 2 25 cert5_2:=chkAll_add (chkAll_nil 5 2 25 cert5_2) tab5_2_0
theorem tab5_3_0 : chkC 5 3 125 cert5_3 0 32=true:=by decide +kernel
theorem tab5_3_32 : chkC 5 3 125 cert5_3 32 32=true:=by decide +kernel
theorem tab5_3_64 : chkC 5 3 125 cert5_3 64 32=true:=by decide +kernel
theorem tab5_3_96 : chkC 5 3 125 cert5_3 96 29=true:=by decide +kernel
theorem tab5_3 : chkAll 5 3 125 cert5_3:=chkAll_add (chkAll_add (chkAll_add (chkAll_add (chkAll_nil 5 3 125 cert5_3) tab5_3_0) tab5_3_32) tab5_3_64) tab5_3_96
theorem tab7_2_0 : chkC 7 2 49 cert7_2 0 49=true:=by decide +kernel
theorem tab7_2 : chkAll 7 2 49 cert7_2:=chkAll_add (chkAll_nil 7 2 49 cert7_2) tab7_2_0
theorem tab11_2_0 : chkC 11 2 121 cert11_2 0 32=true:=by decide +kernel
theorem tab11_2_32 : chkC 11 2 121 cert11_2 32 32=true:=by decide +kernel
theorem tab11_2_64 : chkC 11 2 121 cert11_2 64 32=true:=by decide +kernel
theorem tab11_2_96 : chkC 11 2 121 cert11_2 96 25=true:=by decide +kernel
theorem tab11_2 : chkAll 11 2 121 cert11_2:=chkAll_add (chkAll_add (chkAll_add (chkAll_add (chkAll_nil 11 2 121 cert11_2) tab11_2_0) tab11_2_32) tab11_2_64) tab11_2_96
theorem tab13_2_0 : chkC 13 2 169 cert13_2 0 32=true:=by decide +kernel
theorem tab13_2_32 : chkC 13 2 169 cert13_2 32 32=true:=by decide +kernel
theorem tab13_2_64 : chkC 13 2 169 cert13_2 64 32=true:=by decide +kernel
theorem tab13_2_96 : chkC 13 2 169 cert13_2 96 32=true:=by decide +kernel
theorem tab13_2_128 : chkC 13 2 169 cert13_2 128 32=true:=by decide +kernel
theorem tab13_2_160 : chkC 13 2 169 cert13_2 160 9=true:=by decide +kernel
theorem tab13_2 : chkAll 13 2 169 cert13_2:=chkAll_add (chkAll_add (chkAll_add (chkAll_add (chkAll_add (chkAll_add (chkAll_nil 13 2 169 cert13_2) tab13_2_0) tab13_2_32) tab13_2_64) tab13_2_96) tab13_2_128) tab13_2_160
def chkP (c : Nat × Nat) : Bool:=ordOk (mulS c.1 1 []) c.1 c.2 && decide (0<c.2) && decide (c.2<c.1)
theorem tabP : roots.all chkP=true:=by decide +kernel
theorem rootsAll : ((List.range 257).all fun p=>p<2 || !primeB p || roots.any fun c=>c.1 == p)=true:=by decide +kernel
end

section
section
variable {P : Int} {M : Nat} {mod : List Int} {q : Nat} {x : Int}
theorem genTo_some : ∀ (n x y : Nat),2≤q→x≤y→y<x+n→isGen P M mod q y=true→genTo P M mod q n x ≠ []
 | 0,x,y,_,h1,h2,_=>by omega
 | n+1,x,y,hq,h1,h2,hg=>by
  rw [genTo]
  by_cases hx : isGen P M mod q x=true
  ·rw [if_pos hx]
   intro e
   simp only [isGen,Bool.and_eq_true,beq_iff_eq] at hx
   rw [e] at hx
   simp at hx
   omega
  ·rw [if_neg hx]
   refine genTo_some n (x+1) y hq ?_ (by omega) hg
   rcases Nat.eq_or_lt_of_le h1 with h3 | h3
   ·subst h3;exact absurd hg hx
   ·exact h3
theorem no_zero_div {ex : List Int} {y a b : Int} (g : Gen P M mod q y ex) (ha : ElP P M a) (hb : ElP P M b) (ha0 : a ≠ 0) (hb0 : b ≠ 0) : mulS P M mod a b ≠ 0:=by
 obtain ⟨i,_,rfl,_⟩:=g.log ha ha0
 obtain ⟨j,_,rfl,_⟩:=g.log hb hb0
 rw [pw_add g.res]
 exact g.pw_ne _
end
theorem chkAll_at {P : Int} {M q : Nat} {l : List (Nat × Nat)} (h : chkAll P M q l) {v : Nat} (hv : v<q) : ∃ c,chkV P M q v c=true:=⟨_,h v hv⟩
theorem tabOf (p m : Nat) (hp : primeB p=true) (h2 : 2≤p) (hm : 2≤m) (hm8 : m≤8) (hpw : (p : Int) ^ m≤256) : ∃ l,chkAll p m (((p : Int) ^ m).toNat) l:=by
 have hp16 : p≤16:=by
  have h1:=pow_mono (P:=(p : Int)) (by omega) hm
  have h3 : (p : Int) ^ 2=p * p:=by rw [Int.pow_succ,Int.pow_succ,Int.pow_zero,Int.one_mul]
  rcases Nat.lt_or_ge 16 p with h4 | h4
  ·have h5 : 17 * 17≤p * p:=Nat.mul_le_mul h4 h4
   have h6 : ((17 * 17 : Nat) : Int)≤((p * p : Nat) : Int):=Int.ofNat_le.2 h5
   rw [Int.natCast_mul] at h6
   omega
  ·exact h4
 have hc : p=2∨p=3∨p=4∨p=5∨p=6∨p=7∨p=8∨p=9∨p=10∨p=11∨p=12∨p=13∨p=14∨p=15∨p=16:=by omega
 have hd : m=2∨m=3∨m=4∨m=5∨m=6∨m=7∨m=8:=by omega
 rcases hc with rfl | rfl | rfl | rfl | rfl | rfl | rfl | rfl | rfl | rfl | rfl | rfl | rfl | rfl | rfl
 ·rcases hd with rfl | rfl | rfl | rfl | rfl | rfl | rfl
  ·exact ⟨_,tab2_2⟩
  ·exact ⟨_,tab2_3⟩
  ·exact ⟨_,tab2_4⟩
  ·exact ⟨_,tab2_5⟩
  ·exact ⟨_,tab2_6⟩
  ·exact ⟨_,tab2_7⟩
  ·exact ⟨_,tab2_8⟩
 ·rcases hd with rfl | rfl | rfl | rfl | rfl | rfl | rfl
  ·exact ⟨_,tab3_2⟩
  ·exact ⟨_,tab3_3⟩
  ·exact ⟨_,tab3_4⟩
  ·exact ⟨_,tab3_5⟩
  ·exact absurd hpw (by decide)
  ·exact absurd hpw (by decide)
  ·exact absurd hpw (by decide)
 ·exact absurd hp (by decide)
 ·rcases hd with rfl | rfl | rfl | rfl | rfl | rfl | rfl
  ·exact ⟨_,tab5_2⟩
  ·exact ⟨_,tab5_3⟩
  ·exact absurd hpw (by decide)
  ·exact absurd hpw (by decide)
  ·exact absurd hpw (by decide)
  ·exact absurd hpw (by decide)
  ·exact absurd hpw (by decide)
 ·exact absurd hp (by decide)
 ·rcases hd with rfl | rfl | rfl | rfl | rfl | rfl | rfl
  ·exact ⟨_,tab7_2⟩
  ·exact absurd hpw (by decide)
  ·exact absurd hpw (by decide)
  ·exact absurd hpw (by decide)
  ·exact absurd hpw (by decide)
  ·exact absurd hpw (by decide)
  ·exact absurd hpw (by decide)
 ·exact absurd hp (by decide)
 ·exact absurd hp (by decide)
 ·exact absurd hp (by decide)
 ·rcases hd with rfl | rfl | rfl | rfl | rfl | rfl | rfl
  ·exact ⟨_,tab11_2⟩
  ·exact absurd hpw (by decide)
  ·exact absurd hpw (by decide)
  ·exact absurd hpw (by decide)
  ·exact absurd hpw (by decide)
  ·exact absurd hpw (by decide)
  ·exact absurd hpw (by decide)
 ·exact absurd hp (by decide)
 ·rcases hd with rfl | rfl | rfl | rfl | rfl | rfl | rfl
  ·exact ⟨_,tab13_2⟩
  ·exact absurd hpw (by decide)
  ·exact absurd hpw (by decide)
  ·exact absurd hpw (by decide)
  ·exact absurd hpw (by decide)
  ·exact absurd hpw (by decide)
  ·exact absurd hpw (by decide)
 ·exact absurd hp (by decide)
 ·exact absurd hp (by decide)
 ·exact absurd hp (by decide)
theorem valu_el {P : Int} {m : Nat} (hf : RF P m) {mod : List Int} (hd : Dig P mod) (hl : mod.length=m) : 0≤valu P mod∧valu P mod<P ^ m:=by
 have:=valu_bd (P:=P) (by have:=hf.p2;omega) mod hd
 rwa [hl] at this
theorem fieldRB_eq (P M : Int) (mod : List Int) : fieldRB P M mod=fieldB P M mod:=by
 by_cases hs : shapeB P M mod=true
 ·unfold fieldRB fieldB
  rw [hs,Bool.true_and,Bool.true_and]
  have hs2:=hs
  unfold shapeB at hs2
  simp only [Bool.and_eq_true,bne_iff_ne,ne_eq] at hs2
  obtain ⟨⟨h1,h2⟩,h3⟩:=hs2
  obtain ⟨m,rfl,hrf⟩:=RF.of h1
  obtain ⟨p,rfl⟩ : ∃ p : Nat,P=p:=⟨P.toNat,by have:=hrf.p2;omega⟩
  rw [Int.toNat_natCast] at h2 ⊢
  have hp2 : 2≤p:=by have:=hrf.p2;omega
  have hp256 : p≤256:=by have:=hrf.p256;omega
  have hord:=hrf.order
  have hres:=hrf.res
  obtain ⟨q,hq⟩ : ∃ q : Nat,(p : Int) ^ m=q:=⟨((p : Int) ^ m).toNat,by have:=one_lt_pow hres;omega⟩
  have hq2 : 2≤q:=by have:=one_lt_pow hres;omega
  have hq256 : q≤256:=by have:=hrf.pw;omega
  rw [hord,hq,Int.toNat_natCast]
  have hgen : ∀ x : Nat,0<x→x<q→ordOk (mulS p m mod) q x=true→(genS p m mod q).isEmpty=false:=fun x hx0 hx1 ho=>by
   have hel : ElP (p : Int) m x:=⟨by omega,by rw [hq];omega⟩
   have hg:=(Ord.of hres hel hq256 ho).isGen hres hel hq2
   have:=genTo_some (P:=p) (M:=m) (mod:=mod) (q - 1) 1 x hq2 (by omega) (by omega) hg
   unfold genS
   cases h : genTo p m mod q (q - 1) 1 with
   | nil=>exact absurd h this
   | cons y l=>rfl
  by_cases hm : m=1
  ·subst hm
   have hmod : mod=[]:=by
    rw [if_pos (by simp)] at h3
    exact List.eq_nil_of_length_eq_zero (by simpa using h3)
   subst hmod
   have hr:=List.all_eq_true.1 rootsAll p (List.mem_range.2 (by omega))
   have hp2' : decide (p<2)=false:=by simp;omega
   rw [hp2',h2] at hr
   simp only [Bool.not_true,Bool.false_or,List.any_eq_true] at hr
   obtain ⟨c,hc,hcp⟩:=hr
   have hck:=List.all_eq_true.1 tabP c hc
   have hcp2 : c.1=p:=by simpa using hcp
   unfold chkP at hck
   rw [hcp2] at hck
   simp only [Bool.and_eq_true,decide_eq_true_eq] at hck
   have hqp : q = p := by have : (p : Int) ^ 1 = p := by rw [Int.pow_succ, Int.pow_zero, Int.one_mul]
                          omega
   rw [hgen c.2 hck.1.2 (by omega) (by rw [hqp];exact hck.1.1)]
   rfl
  ·have hM : ¬ (m : Int)=1:=by omega
   rw [if_neg hM] at h3
   simp only [Bool.and_eq_true,decide_eq_true_eq] at h3
   have hlen : mod.length=m:=by omega
   have hdig : Dig (p : Int) mod:=Dig.of_mem (by omega) fun x hx=>by
    have:=List.all_eq_true.1 h3.2 x hx
    simpa using this
   have hv:=valu_el hrf hdig hlen
   obtain ⟨v,hvv⟩ : ∃ v : Nat,valu p mod=v:=⟨(valu p mod).toNat,by omega⟩
   have hdv : digs v p m=mod:=by rw [← hvv,← hlen];exact digs_valu mod hdig
   obtain ⟨l,hl⟩:=tabOf p m h2 hp2 (by have:=hrf.m1;omega) hrf.m8 hrf.pw
   rw [hq,Int.toNat_natCast] at hl
   obtain ⟨c,hc⟩:=chkAll_at hl (v:=v) (by omega)
   have hM' : ((m : Int) == 1)=false:=by simpa using hM
   rw [hM',Bool.false_or]
   unfold chkV at hc
   rw [hdv] at hc
   split at hc
   ·simp only [Bool.and_eq_true,decide_eq_true_eq] at hc
    rw [hc.1.1.1,hgen c.1 hc.1.2 hc.2 hc.1.1.2];rfl
   ·rename_i hc2
    simp only [Bool.and_eq_true,decide_eq_true_eq,Bool.not_eq_true',beq_iff_eq] at hc
    rw [hc.1.1.1.1]
    cases h : (genS p m mod q).isEmpty with
    | true=>rfl
    | false =>
     exfalso
     have hne : genS p m mod q ≠ []:=fun e=>by rw [e] at h;cases h
     obtain ⟨y,hy1,hy2,hy3,hy4⟩:=genS_spec hne
     have g:=Gen.of_isGen (mod:=mod) hres hq.symm ⟨by omega,by omega⟩ hy3
     exact no_zero_div g (a:=(c.1 : Int)) (b:=(c.2 : Int)) ⟨by omega,by omega⟩ ⟨by omega,by omega⟩ (by omega) (by omega) hc.1.1.1.2
 ·have hs' : shapeB P M mod=false:=by simpa using hs
  simp [fieldRB,fieldB,hs']
end

section
theorem invTo_find (f : Int→Int) : ∀ (n : Nat) (y z : Int),y≤z→z<y+n→f z=1→f (invTo f n y)=1∧y≤invTo f n y∧invTo f n y<y+n
 | 0,y,z,h1,h2,_=>by omega
 | n+1,y,z,h1,h2,hz=>by
  unfold invTo
  split
  ·exact ⟨by assumption,by omega,by omega⟩
  ·rename_i hn
   have hne : y ≠ z:=fun e=>hn (e ▸ hz)
   have:=invTo_find f n (y+1) z (by omega) (by omega) hz
   exact ⟨this.1,by omega,by omega⟩
theorem eq_ops {P M : Int} {mod : List Int} (h : fieldB P M mod=true) : ∃ m : Nat,M=m∧ElP P m=(tblOf P m mod).El∧((tblOf P m mod).q : Int)=orderS P M∧Fld (tblOf P m mod).ops (ElP P m)∧Agr (tblOf P m mod).ops (rops P m mod) (ElP P m) ∧
  ∀ p,ElP P m p→p ≠ 0→(invR P m mod p=1 ↔ p=1):=by
 have hF:=fieldB_fld h
 obtain ⟨m,y,rfl,hr,h256,hsh,hq,g⟩:=fieldB_gen h
 have hrf : RF P m:=by
  obtain ⟨m',e,h2,_⟩:=fieldRB_rf (by rw [fieldRB_eq];exact h)
  have : m=m':=by omega
  rw [this];exact h2
 rw [Int.toNat_natCast] at hF
 have e : ElP P m=(tblOf P m mod).El:=by
  funext x;simp only [Tbl.El,tblOf,ElP];rw [hq]
 rw [← e] at hF
 have hq2:=g.q2
 have hmul : ∀ x z,ElP P m x→ElP P m z→(tblOf P m mod).ops.mul x z=mulR P m mod x z:=fun x z hx hz=>by
  rw [mulR_eq hrf];exact g.mulT_eq hx hz
 have hqo : ((orderS P m).toNat : Int)=orderS P m:=by omega
 have hinv : ∀ x,ElP P m x→x ≠ 0→(tblOf P m mod).ops.inv x=invR P m mod x:=by
  intro x hx h0
  have hi:=hF.cl.inv x hx h0
  have hm:=hF.mul_inv x hx h0
  rw [hmul x _ hx hi] at hm
  have hi0 : (tblOf P m mod).ops.inv x ≠ 0:=by
   intro e0
   have h2:=hF.mul_inv x hx h0
   rw [e0,hF.mzero hx] at h2
   exact absurd h2 (by decide)
  have hb1:=hi.1
  have hb2:=hi.2
  obtain ⟨h1,h2,h3⟩:=invTo_find (mulR P m mod x) ((orderS P m).toNat - 1) 1 _ (by omega) (by omega) hm
  have hel : ElP P m (invR P m mod x):=⟨by unfold invR;omega,by unfold invR;omega⟩
  have h4 : (tblOf P m mod).ops.mul x (invR P m mod x)=1:=by rw [hmul x _ hx hel];exact h1
  have h5:=hF.mul_inv x hx h0
  have e1 : (tblOf P m mod).ops.mul ((tblOf P m mod).ops.inv x) ((tblOf P m mod).ops.mul x (invR P m mod x))=invR P m mod x:=by
   rw [← hF.mul_assoc _ x _ hi hx hel,hF.mul_comm _ x hi hx,h5,hF.one_mul _ hel]
  rw [h4,hF.mone hi] at e1
  exact e1
 refine ⟨m,rfl,e,hqo,hF,⟨fun x z _ _=>rfl,hmul,fun x _=>rfl,hinv⟩,fun p hp h0=>?_⟩
 rw [← hinv p hp h0]
 have hi:=hF.cl.inv p hp h0
 have hm:=hF.mul_inv p hp h0
 constructor
 ·intro e1;rw [e1,hF.mone hp] at hm;exact hm
 ·intro e1;rw [e1] at hm hi ⊢;rw [hF.one_mul _ hi] at hm;exact hm
theorem hinv_all {P M : Int} {mod : List Int} (h : fieldRB P M mod=true) : ∀ p,ElP P M.toNat p→p ≠ 0→(invR P M.toNat mod p=1 ↔ p=1):=by
 obtain ⟨m,rfl,_,_,_,_,h6⟩:=eq_ops (by rw [← fieldRB_eq];exact h)
 exact h6
theorem rmatE_eq (P M : Int) (mod : List Int) (cols : Int) (L : List (List Int)) : rmatE P M mod cols L=fmatE P M mod cols L:=by
 unfold rmatE fmatE
 rw [fieldRB_eq]
 split
 ·rename_i h
  obtain ⟨m,rfl,_,hq,_⟩:=eq_ops h
  rw [Int.toNat_natCast,hq]
 ·rfl
theorem canR_eq {P M : Int} {mod : List Int} (h : fieldB P M mod=true) {L : List (List Int)} {m : Nat} (hL : Rws (tblOf P M.toNat mod).El m L) : canR (rops P M.toNat mod) L m=canS (tblOf P M.toNat mod) L m:=by
 obtain ⟨k,rfl,he,_,hF,hA,_⟩:=eq_ops h
 rw [Int.toNat_natCast] at hL ⊢
 rw [← he] at hL
 unfold canR canS
 rw [(elimTo_agr hA hF.cl hL m (Nat.le_refl _)).1]
theorem rspaceE_eq (P M : Int) (mod : List Int) (cols : Int) (L : List (List Int)) : rspaceE P M mod cols L=spaceE P M mod cols L:=by
 unfold rspaceE spaceE
 rw [rmatE_eq]
 split
 ·rename_i h0
  obtain ⟨h1,h2⟩:=fmatE_zero h0
  obtain ⟨m,rfl,_,_,hR⟩:=matE_zero h2
  rw [Int.toNat_natCast,canR_eq h1 hR]
 ·rfl
theorem rcodeE_eq (P M : Int) (mod : List Int) (N : Int) (L : List (List Int)) : rcodeE P M mod N L=codeE P M mod N L:=by
 unfold rcodeE codeE
 rw [fieldRB_eq,rspaceE_eq]
theorem mem_grBits (x N : Nat) (i : Nat) : i ∈ grL (bitsTo x N) (bitsTo x N).length ↔ i<N∧x.testBit i=true:=by
 rw [mem_grL]
 constructor
 ·rintro ⟨j,hj,e⟩
  have hm : nth (bitsTo x N) j ∈ bitsTo x N:=nth_mem hj
  obtain ⟨t,h1,h2,h3⟩:=(mem_bitsTo x _ N).1 hm
  have : t=i:=by omega
  subst this;exact ⟨h1,h3⟩
 ·rintro ⟨h1,h2⟩
  have hm : (i : Int) ∈ bitsTo x N:=(mem_bitsTo x _ N).2 ⟨i,h1,rfl,h2⟩
  obtain ⟨j,hj,e⟩:=List.mem_iff_getElem.1 hm
  exact ⟨j,hj,by rw [nth_getElem hj,e];rfl⟩
end

section
open Go.RowKit
theorem bits_parts (x : Nat) : ∀ k,k≤64→(bitsTo x k).length+(bitsTo (cplU x) k).length=k
 | 0,_=>rfl
 | k+1,hk=>by
  have ih:=bits_parts x k (by omega)
  have hc:=cplU_test x k (by omega)
  rw [bitsTo,bitsTo,hc]
  cases hx : x.testBit k <;> simp <;> omega
end

section
open Go.RowKit
set_option maxRecDepth 100000 in
set_option maxHeartbeats 4000000 in
theorem kernel_any (P M : Int) (am : Option Addr) (mn cm : Nat) (mod : List Int) (m : Nat) (a : Option Addr) (n c : Nat) (L : List (List Int)) (w : World) (hmod : Ints w am mn mod) (hi : Mat w a n L) (hE : codeE P M mod m L=0) :
  Calls Tryz.prog 94 #[.agg #[.int .i64 P,.int .i64 M,.slice am mn cm],.agg #[.int .i64 m,.slice a n c]] w (KerPost (tblOf P M.toNat mod) L m w):=by
 have Hlen:=Lib.hid hi.len
 obtain ⟨N',e,hm1,hm64,F,hR⟩:=codeE_fld hE
 obtain rfl : m=N':=by omega
 have hL256:=(codeE_rws hE).choose_spec.2.2.2.1
 have hn : n≤256:=by rw [← hi.len];exact hL256
 obtain ⟨h5,h6⟩:=spaceE_zero (codeE_zero hE).2.2.2
 obtain ⟨hfB,h8⟩:=fmatE_zero h5
 have HR:=Lib.hid hR
 have HF:=Lib.hid F
 clear hE h5 h6 e hL256
 go_enter Tryz.func94,Tryz.ntmps94
 go_wp2_with fail
 obtain ⟨W,hW⟩ : ∃ W : World,W=((((w.alloc (.cells #[.int .i64 P,.int .i64 M,.slice am mn cm] 24)).alloc (.cells #[.int .i64 m,.slice a n c] 73)).alloc (.cells #[.int .i64 0,.slice none 0 0] 73)).alloc (.cells #[.int .i64 m,.slice a n c] 73)):=⟨_,rfl⟩
 rw [← hW]
 have hbW : Below w.heap.size w W:=by rw [hW];exact ((((Below.refl _ _).alloc (Nat.le_refl _) _).alloc (by simp) _).alloc (by simp;omega) _).alloc (by simp;omega) _
 have hsW : W.heap.size=w.heap.size+4:=by rw [hW];simp
 have q1 : W.cell? ⟨w.heap.size+1,0,none⟩=some (.int .i64 m)∧W.cell? ⟨w.heap.size+1,1,none⟩=some (.slice a n c):=by rw [hW];exact ⟨cell_box (cell_box (cell_alloc_at _ _ _ (by simp) 0) _) _,cell_box (cell_box (cell_alloc_at _ _ _ (by simp) 1) _) _⟩
 have q2 : W.cell? ⟨w.heap.size+1+1,0,none⟩=some (.int .i64 0)∧W.cell? ⟨w.heap.size+1+1,1,none⟩=some (.slice none 0 0)∧W.frozen? ⟨w.heap.size+1+1,0,none⟩=false∧W.frozen? ⟨w.heap.size+1+1,1,none⟩=false:=by
  rw [hW];exact ⟨cell_box (cell_alloc_at _ _ _ (by simp) 0) _,cell_box (cell_alloc_at _ _ _ (by simp) 1) _,frozen_box (by simp) (frozen_at _ _ _ (by simp) 0) _,frozen_box (by simp) (frozen_at _ _ _ (by simp) 1) _⟩
 have q3 : W.cell? ⟨w.heap.size+1+1+1,0,none⟩=some (.int .i64 m)∧W.cell? ⟨w.heap.size+1+1+1,1,none⟩=some (.slice a n c):=by rw [hW];exact ⟨cell_alloc_at _ _ _ (by simp) 0,cell_alloc_at _ _ _ (by simp) 1⟩
 have hiW:=hi.keep hbW
 have hMs : Mats W (some ⟨w.heap.size+1+1+1,0,none⟩) 1 [((m : Int),L)]:=⟨rfl,fun _=>rfl,by unfold maxLen;omega,fun i hi=>by
  have : i=0:=by simp at hi;omega
  subst this
  exact ⟨a,n,c,by simpa using q3.1,by simpa using q3.2,hiW⟩⟩
 have HsW:=Lib.hid hsW
 clear hW hsW
 refine (open_any P M am mn cm mod _ 1 1 _ W (hmod.keep hbW) hMs).mono ?_
 rintro e w1 ⟨hb1,hcase⟩
 have hbw1:=Below.next hbW hb1
 have hq : ∀ V,Below W.heap.size W V→V.cell? ⟨w.heap.size+1,0,none⟩=some (.int .i64 m)∧V.cell? ⟨w.heap.size+1,1,none⟩=some (.slice a n c)∧V.cell? ⟨w.heap.size+1+1,0,none⟩=some (.int .i64 0)∧V.cell? ⟨w.heap.size+1+1,1,none⟩=some (.slice none 0 0)∧V.frozen? ⟨w.heap.size+1+1,0,none⟩=false∧V.frozen? ⟨w.heap.size+1+1,1,none⟩=false:=by
  intro V hV
  have hs:=HsW.out
  exact ⟨cell_keep hV q1.1,cell_keep hV q1.2,cell_keep hV q2.1,cell_keep hV q2.2.1,(hV.frozen (p:=⟨w.heap.size+1+1,0,none⟩) (by simp [hs])).trans q2.2.2.1,(hV.frozen (p:=⟨w.heap.size+1+1,1,none⟩) (by simp [hs])).trans q2.2.2.2⟩
 have Hq:=Lib.hid hq
 clear hq q1 q2 q3
 rw [matsE_one] at hcase
 rcases hcase with ⟨hB,_⟩ | ⟨_,er,h0,h1,_⟩ | ⟨_,_,b,rfl,hG,hbl⟩
 ·rw [hfB] at hB;exact absurd hB (by decide)
 ·rw [h8] at h1;exact absurd h1.symm h0
 obtain ⟨r1,r2,r3,r4,r5,r6⟩:=Hq.out w1 hb1
 have HPost : Hid (∀ a c w',MatN w.heap.size w' a (dualL (tblOf P M.toNat mod) L m).length (dualL (tblOf P M.toNat mod) L m)→Below w.heap.size w w'→KerPost (tblOf P M.toNat mod) L m w (.returned (.tuple #[.agg #[.int .i64 m,.slice a (dualL (tblOf P M.toNat mod) L m).length c],.int .i64 0])) w'):=fun a c w' h1 h2=>⟨a,c,rfl,h1,h2⟩
 obtain ⟨G,hGG⟩ : ∃ G,tblOf P M.toNat mod=G:=⟨_,rfl⟩
 have HGG:=Lib.hid hGG
 rw [hGG] at hG HR HF HPost hR F
 clear h8 hGG hfB
 have Hcan:=Lib.hid (canon_any a n c m L hG (hiW.keep hb1) hR (by omega) (by omega))
 have hRc : Rws G.El m (canS G L m):=canO_rws F hR
 obtain ⟨hPv,hLd⟩:=canO_piv F hR
 have hcl : (canS G L m).length=(pivS G L m).length:=canS_length G L m
 have HPv : Hid (Piv (canS G L m) (pivS G L m) m):=hPv
 have hrws : ∀ k,k≤m→Rws G.El m (kerL G.ops m (canS G L m) (pivS G L m) k):=by
  intro k
  induction k with
  | zero=>intro _ r hr;simp [kerL] at hr
  | succ k ih =>
   intro hk r hr
   rw [kerL] at hr
   split at hr
   ·exact ih (by omega) r hr
   ·rw [List.mem_append,List.mem_singleton] at hr
    rcases hr with hr | rfl
    ·exact ih (by omega) r hr
    ·exact kerTo_vc F hRc hPv hcl (by omega) _ (Nat.le_refl _)
 have Hrws:=Lib.hid hrws
 have hdl : dualL G L m=canS G (kerL G.ops m (canS G L m) (pivS G L m) m) m:=rfl
 have Hdl:=Lib.hid hdl
 have Hcp : Hid (∀ c,c<m→∀ i,i<(pivS G L m).length→G.El (nth (nthR (canS G L m) i) c)):=fun c hc i hi=>Vc.at (hRc.row (by rw [hcl];exact hi)) hc
 have Hrl : Hid (∀ i,i<(pivS G L m).length→(nthR (canS G L m) i).length=m):=fun i hi=>(hRc.row (by rw [hcl];exact hi)).1
 clear hR F hPv hLd hrws hdl
 go_wp2_with fail
 refine Hcan.out.mono ?_
 rintro e w2 ⟨a2,c2,ap,cp,rfl,hM2,hp2,hb2⟩
 have Hkp : Hid (∀ c i,kerTo G.ops m (canS G L m) (pivS G L m) c (i+1)=(kerTo G.ops m (canS G L m) (pivS G L m) c i).set (nth (pivS G L m) i).toNat (G.neg (nth (nthR (canS G L m) i) c))):=fun c i=>rfl
 have Hk0 : Hid (∀ c,kerTo G.ops m (canS G L m) (pivS G L m) c 0=(List.replicate m 0).set c 1):=fun c=>rfl
 have Hplt : Hid (∀ j,j<(pivS G L m).length→0≤nth (pivS G L m) j∧nth (pivS G L m) j<m):=HPv.out.lt
 obtain ⟨R,hRR⟩ : ∃ R,canS G L m=R:=⟨_,rfl⟩
 obtain ⟨Pv,hPP⟩ : ∃ Pv,pivS G L m=Pv:=⟨_,rfl⟩
 rw [hRR,hPP] at Hrws Hdl Hcp Hkp Hk0 Hrl
 rw [hPP] at Hplt hp2 hM2 hcl
 rw [hRR] at hM2 hcl
 rw [hPP]
 clear hRR hPP HPv Hcan
 obtain ⟨t,ht⟩ : ∃ t,Pv.length=t:=⟨_,rfl⟩
 have Ht:=Lib.hid ht
 rw [ht] at hM2 hp2 Hcp Hplt hcl Hrl
 rw [ht]
 have hMM:=hM2.mat
 have hII:=hp2.ints
 have hplP:=hII.pl
 have hplR:=hMM.pl
 have hbw2:=Below.next hbw1 hb2
 have hb12:=Below.next hb1 hb2
 have hG2:=hG.keep hb2
 have hmaxP:=hII.max
 unfold maxLen at hmaxP
 obtain ⟨z1,z2,z3,z4,z5,z6⟩:=Hq.out w2 hb12
 clear ht hM2 hp2 hG r1 r2 r3 r4 r5 r6
 go_wp2_with fail
 go_loopw [10,37] (fun ov iv wr=>∃ (k : Nat) (a1 : Option Addr) (c1 : Nat),k≤m∧iv = .int .i64 k∧ov = .slice a1 (npL Pv k).length c1∧(∃ Rr,OMat wr w2.heap.size a1 (npL Pv k).length c1 Rr (kerL G.ops m R Pv k))∧Below w2.heap.size w2 wr) (fun _ iv _=>m - (intOf iv).toNat)
 case atStart=>exact ⟨0,none,0,Nat.zero_le _,rfl,rfl,⟨[],OMat.nul w2 w2.heap.size⟩,Below.refl _ _⟩
 case round =>
  clear z1 z2 z3 z4 z5 z6
  obtain ⟨k,a1,c1,hk,rfl,rfl,⟨Rr,hO⟩,hbr⟩:=hrel
  have hnk:=npL_le Pv k
  by_cases hlt : k<m
  ·have hcont:=contains_any ap t cp Pv k wr (hII.keep hbr)
   obtain ⟨z1,_,_,_,_,_⟩:=Hq.out wr (Below.next hb12 hbr)
   by_cases hmem : (k : Int) ∈ Pv
   ·have hN : Hid (npL Pv (k+1)=npL Pv k):=by show _=_;rw [npL,if_pos hmem]
    have hKk : Hid (kerL G.ops m R Pv (k+1)=kerL G.ops m R Pv k):=by show _=_;rw [kerL,if_pos hmem]
    rw [show decide ((k : Int) ∈ Pv)=true by simpa using hmem] at hcont
    have Hcont:=Lib.hid hcont
    clear hmem hcont
    go_wp2_with fail
    refine Hcont.out.mono ?_
    rintro e w3 ⟨rfl,rfl⟩
    go_wp2_with fail
    go_roundw
    case rel=>exact ⟨k+1,a1,c1,by omega,by go_num,by rw [hN.out],⟨Rr,by rw [hN.out,hKk.out];exact hO⟩,hbr⟩
    case measure=>simp [intOf] <;> omega
   ·have hN : Hid (npL Pv (k+1)=npL Pv k ++ [k]):=by show _=_;rw [npL,if_neg hmem]
    have hKk : Hid (kerL G.ops m R Pv (k+1)=kerL G.ops m R Pv k ++ [kerTo G.ops m R Pv k t]):=by show _=_;rw [kerL,if_neg hmem,Ht.out]
    rw [show decide ((k : Int) ∈ Pv)=false by simpa using hmem] at hcont
    have Hcont:=Lib.hid hcont
    clear hmem hcont
    go_wp2_with fail
    refine Hcont.out.mono ?_
    rintro e w3 ⟨rfl,rfl⟩
    go_wp2_with (at_make;refine wpList_mk rfl _ _ 22 3 rfl (.int .i64 0) 8 Tryz.underlying22 infoInt rfl m rfl rfl (by omega) (by unfold maxLen;omega) ?_;intro a5 w5 hown5 hbel5 hge5 hlt5;obtain ⟨hi5,hm5⟩:=Ints.own (l:=List.replicate m 0) (by simpa using hown5);have hc5:=hi5.cell k hlt;have hf5:=(hm5 (by omega)).2 k hlt;have hpl5:=hi5.pl)
    have hx0:=own_set hown5 k hlt (.int .i64 1)
    have hx0' : (w5.setCell ⟨ablk a5,aoff a5+k,none⟩ (.int .i64 1)).ownsRow w3.heap.size 3 1 (.slice a5 m m) m ((kerTo G.ops m R Pv k 0).map (Value.int .i64)):=by
     rw [Hk0.out,List.map_set,List.map_replicate];exact hx0
    have hbx0:=hbel5.setCell (p:=⟨ablk a5,aoff a5+k,none⟩) (hm5 (by omega)).1 (.int .i64 1)
    clear hx0 hown5 hbel5 hge5 hlt5 hi5 hm5 hc5 hf5 z1
    go_loopw [51] (fun iv wx=>∃ i : Nat,i≤t∧iv = .int .i64 i∧wx.ownsRow w3.heap.size 3 1 (.slice a5 m m) m ((kerTo G.ops m R Pv k i).map (Value.int .i64))∧Below w3.heap.size w3 wx) (fun iv _=>t - (intOf iv).toNat)
    case atStart=>exact ⟨0,Nat.zero_le _,rfl,hx0',hbx0⟩
    case round =>
     clear hx0' hbx0
     obtain ⟨i,hi',rfl,hown,hbx⟩:=hrel
     by_cases hli : i<t
     ·have hb2x:=Below.next hbr hbx
      have cpi:=(hII.keep hb2x).cell i hli
      have hpb:=Hplt.out i hli
      obtain ⟨z,hz⟩ : ∃ z : Nat,nth Pv i=z:=⟨(nth Pv i).toNat,by omega⟩
      have hzm : z<m:=by omega
      obtain ⟨ra,rn,rc,hcell,hrow⟩:=(hMM.keep hb2x).cell i hli
      have hrn : rn=m:=by rw [← hrow.len];exact Hrl.out i hli
      subst hrn
      have ck:=hrow.cell k hlt
      have hpr:=hrow.pl
      have hel:=Hcp.out k hlt i hli
      have hst : kerTo G.ops rn R Pv k (i+1)=(kerTo G.ops rn R Pv k i).set z (G.neg (nth (nthR R i) k)):=by rw [Hkp.out,hz,Int.toNat_natCast]
      have Hst:=Lib.hid hst
      obtain ⟨x9,hx9⟩ : ∃ x,nth (nthR R i) k=x:=⟨_,rfl⟩
      rw [hx9] at ck hel Hst
      have Hng:=Lib.hid (gNeg x9 (hG2.keep hb2x) hel)
      rw [hz] at cpi
      obtain ⟨hints,hmine⟩:=Ints.own hown
      have hpl5':=hints.pl
      have cz:=hints.cell z hzm
      have fz:=(hmine (by omega)).2 z hzm
      have hB:=(hmine (by omega)).1
      clear hz hpb hst hx9 hel
      go_wp2_with fail
      refine Hng.out.mono ?_
      rintro e w6 ⟨nd,rfl,rfl⟩
      go_wp2_with fail
      go_roundw
      case rel =>
       have h:=own_set (w:=wr.drewN nd) hown z hzm (.int .i64 (G.neg x9))
       rw [← List.map_set,← Hst.out] at h
       exact ⟨i+1,by omega,by go_num,h,(below_drewN hbx nd).setCell hB _⟩
      case measure=>simp [intOf] <;> omega
     ·obtain rfl : i=t:=by omega
      obtain ⟨X,hX⟩ : ∃ X,kerTo G.ops m R Pv k i=X:=⟨_,rfl⟩
      have hXl : X.length=m:=by rw [← hX];exact kerTo_len _ _ _ _ _ _
      rw [hX] at hown hKk
      have HXl:=Lib.hid hXl
      have hO3:=hO.keep (Below.next hbx (below1 wr (.cells #[.slice a5 m m] 22)))
      have hsz:=hbr.size
      have hsx:=hbx.size
      have hs3 : w2.heap.size≤(wr.alloc (.cells #[.slice a5 m m] 22)).heap.size:=by simp;omega
      have hcn:=cell_new wr (.slice a5 m m) 22
      clear hX hXl
      go_wp2_with (at_builtin;refine wpList_push rfl _ _ 25 22 rfl (.slice none 0 0) 24 Tryz.underlying25 infoInts rfl w2.heap.size a1 (npL Pv k).length c1 _ rfl hO3.own ⟨wr.heap.size,0,none⟩ 1 (.slice a5 m m) rfl hcn rfl (by omega) (by unfold maxLen;omega) hs3 ?_;intro a7 c7 w7 hown7 hgr7 hap7)
      go_roundw
      case rel =>
       have hb4 : Below w3.heap.size w3 (wr.alloc (.cells #[.slice a5 m m] 22)):=Below.next hbx (below1 _ _)
       have hown4 : (wr.alloc (.cells #[.slice a5 m m] 22)).ownsRow w2.heap.size 3 1 (.slice a5 X.length m) X.length (X.map (Value.int .i64)):=by
        rw [HXl.out];exact own_mono (own_keep hown (below1 _ _)) hsz
       have hra : a5 ≠ none→¬ OIn a1 Rr (ablk a5):=fun h0 hI=>by
        have h1:=(own_ne hown h0).1
        have h2:=(hO.lt _ hI).2
        omega
       have hP:=OMat.push hO3 hown4 hra (by rw [HXl.out];exact hown7) hgr7 hap7
       have hb5 : Below w2.heap.size w2 w7:=Below.app (Below.next hbr hb4) hO3.own hgr7 (Nat.le_refl _) (Nat.le_trans hsz hb4.size)
       exact ⟨k+1,a7,c7,by omega,by go_num,by rw [hN.out];simp,⟨_,by rw [hN.out,hKk.out,List.length_append];exact hP⟩,hb5⟩
      case measure=>simp [intOf] <;> omega
  ·obtain rfl : k=m:=by omega
   have hbw:=Below.next hbw2 hbr
   have hcan:=canon_any a1 (npL Pv k).length c1 k (kerL G.ops k R Pv k) (hG2.keep hbr) hO.mat (Hrws.out k (Nat.le_refl _)) (by omega) (by omega)
   have Hcan:=Lib.hid hcan
   obtain ⟨z1,z2,z3,z4,z5,z6⟩:=Hq.out wr (Below.next hb12 hbr)
   clear hcan hO
   go_wp2_with fail
   refine Hcan.out.mono ?_
   rintro e w8 ⟨a8,c8,ap8,cp8,rfl,hM8,hp8,hb8⟩
   have hlen8 : (pivS G (kerL G.ops k R Pv k) k).length=(dualL G L k).length:=by rw [Hdl.out,canS_length]
   have hM8' : MatN wr.heap.size w8 a8 (dualL G L k).length (dualL G L k):=by rw [← hlen8,Hdl.out];exact hM8
   rw [hlen8]
   have hbw8:=Below.next hbw hb8
   have hF:=HPost.out a8 c8 ((w8.setCell ⟨w.heap.size+1+1,0,none⟩ (.int .i64 k)).setCell ⟨w.heap.size+1+1,1,none⟩ (.slice a8 (dualL G L k).length c8)) (by
     have hs:=HsW.out
     have hs1:=(Below.next hb12 hbr).size
     exact ((hM8'.setCell (p:=⟨w.heap.size+1+1,0,none⟩) (by simp;omega) _).setCell (p:=⟨w.heap.size+1+1,1,none⟩) (by simp;omega) _).mono (by omega)) ((hbw8.setCell (by simp;omega) _).setCell (by simp;omega) _)
   have HF2:=Lib.hid hF
   clear hF hM8 hp8 hM8' Hcan z1 z2 z3 z4 z5 z6 hlen8
   obtain ⟨z1,z2,z3,z4,z5,z6⟩:=Hq.out w8 (Below.next (Below.next hb12 hbr) hb8)
   generalize (dualL G L k).length=q at *
   go_wp2_with fail
   exact bodyPost_ret (v:=.tuple #[.agg #[.int .i64 k,.slice a8 q c8],.int .i64 0]) (by simp [results,Tryz.results94,go_sem,z3,z4]) rfl (by rw [HGG.out];exact HF2.out)
end

section
theorem dual_code {P M : Int} {mod : List Int} {m : Nat} {L : List (List Int)} (hE : codeE P M mod m L=0) :
  codeE P M mod m (dualL (tblOf P M.toNat mod) L m)=0∧∀ x,dimS (tblOf P M.toNat mod).ops (dualL (tblOf P M.toNat mod) L m) m x=dimS (tblOf P M.toNat mod).ops L m x:=by
 obtain ⟨N',e,hm1,hm64,F,hR⟩:=codeE_fld hE
 obtain rfl : m=N':=by omega
 obtain ⟨hfB,h1,h64,h4⟩:=codeE_zero hE
 obtain ⟨h5,h6⟩:=spaceE_zero h4
 rw [Int.toNat_natCast] at h6
 have hcan : canO (tblOf P M.toNat mod).ops m L=L:=h6
 obtain ⟨hPv,hLd⟩:=canO_piv F hR
 have hcl:=canO_len F hR
 rw [hcan] at hPv hLd hcl
 have hK:=kerL_rws F hR hPv hcl
 have hdl : dualL (tblOf P M.toNat mod) L m=canO (tblOf P M.toNat mod).ops m (kerL (tblOf P M.toNat mod).ops m L (elimTo (tblOf P M.toNat mod).ops L m).2 m):=by
  unfold dualL pivS
  rw [h6]
  rfl
 obtain ⟨k1,k2⟩:=ker_canon F hR hPv hLd hcl
 have hKR:=canO_rws F hK
 have hidem:=canO_idem F hK
 have hrk:=canO_rk F hK
 have hrg:=canO_rk F hR
 rw [hcan] at hrg
 rw [← hdl] at k1 k2 hKR hidem hrk
 generalize dualL (tblOf P M.toNat mod) L m=D at *
 constructor
 ·have hq : ((tblOf P M.toNat mod).q : Int)=orderS P M∨True:=.inr trivial
  have hm : matE (tblOf P M.toNat mod).q m D=0:=by
   unfold matE
   rw [if_neg (by omega)]
   have hsh : shapeQ (m : Int) D=true:=by
    unfold shapeQ
    rw [List.all_eq_true]
    intro r hr
    have:=(hKR r hr).1
    simp;omega
   rw [if_neg (by rw [hsh];decide),if_pos]
   rw [List.all_eq_true]
   intro r hr
   unfold elsQ isQ
   rw [List.all_eq_true]
   intro x hx
   have:=(hKR r hr).2 x hx
   unfold Tbl.El at this
   simp
   exact this
  have hf : fmatE P M mod m D=0:=by unfold fmatE;rw [if_pos hfB];exact hm
  have hsp : spaceE P M mod m D=0:=by
   unfold spaceE
   rw [if_pos hf,Int.toNat_natCast,if_pos]
   exact hidem
  have hle : lenE (m : Int)=0:=lenE_in (by omega) (by omega)
  unfold codeE
  rw [if_pos hfB,if_pos hle]
  exact hsp
 ·intro x
  have hs:=grS_rk F hKR (bitsTo x m)
  have hc:=grS_rk F hKR (bitsTo (cplU x) m)
  have gs:=grS_rk F hR (bitsTo x m)
  have gc:=grS_rk F hR (bitsTo (cplU x) m)
  have hb:=bits_parts x m hm64
  have hgl : ∀ Q : List Int,∀ k,(grL Q k).length=k:=fun Q k=>by
   induction k with
   | zero=>rfl
   | succ k ih=>rw [grL,List.length_cons,ih]
  have hS : ∀ i ∈ grL (bitsTo x m) (bitsTo x m).length,i<m:=fun i hi=>((mem_grBits x m i).1 hi).1
  have hC : ∀ i ∈ grL (bitsTo (cplU x) m) (bitsTo (cplU x) m).length,i<m:=fun i hi=>((mem_grBits (cplU x) m i).1 hi).1
  have hSC : ∀ p,p<m→p ∈ grL (bitsTo x m) (bitsTo x m).length∨p ∈ grL (bitsTo (cplU x) m) (bitsTo (cplU x) m).length:=fun p hp=>by
   rw [mem_grBits,mem_grBits,cplU_test _ _ (by omega)]
   cases hx : x.testBit p
   ·exact .inr ⟨hp,rfl⟩
   ·exact .inl ⟨hp,rfl⟩
  have r1:=dual_rk F hR hKR k2 k1 hrg hrk hS hC hSC (by rw [hgl,hgl];exact hb) gc hs
  have r2:=dual_rk F hR hKR k2 k1 hrg hrk hC hS (fun p hp=>(hSC p hp).symm) (by rw [hgl,hgl];omega) gs hc
  rw [hgl] at r1 r2
  unfold dimS
  omega
end

section
section
variable {O : FOps} {El : Int→Prop} {m : Nat} {L : List (List Int)}
theorem rkQ_span (F : Fld O El) (hL : Rws El m L) {Q Q' : List Int} (h : ∀ x ∈ gA Q,clV O El L.length (colS L) (gA Q') x) : rkQ O L Q≤rkQ O L Q':=Rk.le (col_clo F hL) (rkQ_rk F hL Q) (rkQ_rk F hL Q') h
end
end

section
theorem frTo_two (U : List Int) : ∀ k,(frTo false U k).length+(frTo true U k).length=k
 | 0=>rfl
 | k+1=>by
  have:=frTo_two U k
  rw [frTo,frTo]
  by_cases h : (k : Int) ∈ U
  ·simp [h];omega
  ·simp [h];omega
end

section
section
variable {O : FOps} {El : Int→Prop} {m : Nat} {L : List (List Int)}
end
theorem code_full {P M : Int} {mod : List Int} {m : Nat} {L : List (List Int)} (hE : codeE P M mod m L=0) : Rk (clV (tblOf P M.toNat mod).ops (tblOf P M.toNat mod).El L.length (colS L)) (List.range m) L.length:=by
 obtain ⟨N',e,hm1,hm64,F,hR⟩:=codeE_fld hE
 obtain rfl : m=N':=by omega
 have h6:=(spaceE_zero (codeE_zero hE).2.2.2).2
 rw [Int.toNat_natCast] at h6
 have hcan : canO (tblOf P M.toNat mod).ops m L=L:=h6
 have h:=canO_rk F hR
 rwa [hcan] at h
section
variable {P M : Int} {mod : List Int} {m : Nat} {L : List (List Int)}
end
end

section
variable {O : FOps} {El : Int→Prop} {m : Nat} {L : List (List Int)}
theorem rkQ_snoc_le (F : Fld O El) (hL : Rws El m L) (Q : List Int) (x : Int) : rkQ O L (Q ++ [x])≤rkQ O L Q+1:=by
 have h1:=rkQ_rk F hL (Q ++ [x])
 rw [gA_snoc] at h1
 have h2:=rkQ_rk F hL Q
 generalize rkQ O L (Q ++ [x])=n at *
 cases h1 with
 | dep _ _ h=>rw [h2.uniq h];omega
 | ind _ _ h=>rw [h2.uniq h];omega
theorem rkQ_mono (F : Fld O El) (hL : Rws El m L) {Q Q' : List Int} (h : ∀ x ∈ Q,x ∈ Q') : rkQ O L Q≤rkQ O L Q' :=
 rkQ_span F hL fun x hx=>by
  obtain ⟨y,hy,e⟩:=mem_gA.1 hx
  exact (col_clo F hL).mem _ _ (mem_gA.2 ⟨y,h y hy,e⟩)
variable {C : Clm}
end

section
open Go.RowKit
theorem rCheck_any (P M : Int) (am : Option Addr) (mn cm : Nat) (mod : List Int) (N : Int) (a : Option Addr) (n c : Nat) (L : List (List Int)) (w : World) (hmod : Ints w am mn mod) (hi : Mat w a n L) :
  Calls Tryz.prog 47 #[.agg #[.int .i64 P,.int .i64 M,.slice am mn cm,.int .i64 N,.slice a n c]] w fun e w'=>e = .returned (.int .i64 (codeE P M mod N L))∧Below w.heap.size w w':=by
 rw [← rcodeE_eq]
 exact rCodeCheck_any P M am mn cm mod N a n c L w hmod hi hinv_all
end

section
open Go.RowKit
theorem profTo_len (l : List Int) (n : Nat) : ∀ k,(profTo l n k).length=n+1
 | 0=>by simp [profTo]
 | k+1=>by rw [profTo,List.length_set];exact profTo_len l n k
end

section
open Go.RowKit
section
variable {O : FOps} {El : Int→Prop} {m : Nat} {L : List (List Int)}
theorem dims_nn (F : Fld O El) (hL : Rws El m L) {x : Nat} (hx : x<2 ^ m) : 0≤nth (dimsS O m L) x∧nth (dimsS O m L) x≤L.length:=by
 rw [dims_nth F hL hx];omega
theorem fir_some (F : Fld O El) (hL : Rws El m L) (hm : m≤64) {r : Int} (hr : r≤L.length) : Asc 0 m (firS O L m r)∧r≤dimZ O L m (firS O L m r)∧∀ t,Asc 0 m t→r≤dimZ O L m t→(firS O L m r).length≤t.length:=by
 have hfull : bitsTo (2 ^ m - 1) m ∈ allS m:=mem_allS.2 (bits_asc _ _)
 have hp2 : 0<2 ^ m:=Nat.two_pow_pos m
 have hd : pD O L m r (bitsTo (2 ^ m - 1) m)=true:=by
  unfold pD
  rw [decide_eq_true_eq,dimZ_bits F hL (by omega),dims_nth F hL (by omega)]
  have e : offTo (2 ^ m - 1) m=[]:=by
   refine List.eq_nil_iff_forall_not_mem.2 fun y hy=>?_
   obtain ⟨j,h1,_,h3⟩:=mem_offTo.1 hy
   rw [Nat.testBit_two_pow_sub_one] at h3
   simp at h3;omega
  rw [e]
  have:=rkQ_le O L []
  simp at this
  omega
 cases hf : (allS m).find? (pD O L m r) with
 | none=>exact absurd hd (List.find?_eq_none.1 hf _ hfull)
 | some t =>
  have e : firS O L m r=t:=by unfold firS;rw [hf];rfl
  obtain ⟨k1,k2,k3⟩:=find_first (allS_pair m) hf
  rw [e]
  refine ⟨mem_allS.1 k2,by unfold pD at k1;simpa using k1,fun u hu hru=>?_⟩
  rcases k3 u (mem_allS.2 hu) (by unfold pD;exact decide_eq_true hru) with h | h
  ·rw [h];exact Nat.le_refl _
  ·rw [lessS_iff] at h;omega
theorem prof_iff (l : List Int) (n : Nat) {i : Nat} (hi : i≤n) : ∀ k,k≤2 ^ n→(0≤nth (profTo l n k) i)∧(∀ x,x<k→(bitsTo x n).length=i→nth l x≤nth (profTo l n k) i)∧(nth (profTo l n k) i=0∨∃ x,x<k∧(bitsTo x n).length=i∧nth (profTo l n k) i=nth l x)
 | 0,_=>by
  have e : nth (profTo l n 0) i=0:=by rw [profTo];simp [nth,List.getD_eq_getElem?_getD,List.getElem?_replicate];split <;> rfl
  rw [e]
  exact ⟨Int.le_refl _,fun x hx=>by omega,.inl rfl⟩
 | k+1,hk=>by
  obtain ⟨h1,h2,h3⟩:=prof_iff l n hi k (by omega)
  have hbl:=bitsTo_len k n
  have e : nth (profTo l n (k+1)) i=if i=(bitsTo k n).length then max (nth (profTo l n k) (bitsTo k n).length) (nth l k) else nth (profTo l n k) i:=by
   rw [profTo,nth_set _ _ _ _ (by rw [profTo_len];omega)]
  rw [e]
  by_cases hc : i=(bitsTo k n).length
  ·rw [if_pos hc,← hc]
   refine ⟨by omega,fun x hx hxl=>?_,?_⟩
   ·by_cases e2 : x=k
    ·subst e2;omega
    ·have:=h2 x (by omega) hxl;omega
   ·by_cases h4 : nth l k≤nth (profTo l n k) i
    ·rw [Int.max_eq_left h4]
     rcases h3 with h3 | ⟨x,a1,a2,a3⟩
     ·exact .inl h3
     ·exact .inr ⟨x,by omega,a2,a3⟩
    ·rw [Int.max_eq_right (by omega)]
     exact .inr ⟨k,by omega,hc.symm,rfl⟩
  ·rw [if_neg hc]
   refine ⟨h1,fun x hx hxl=>?_,?_⟩
   ·by_cases e2 : x=k
    ·subst e2;exact absurd hxl.symm hc
    ·exact h2 x (by omega) hxl
   ·rcases h3 with h3 | ⟨x,a1,a2,a3⟩
    ·exact .inl h3
    ·exact .inr ⟨x,by omega,a2,a3⟩
def mxTo (f : List Int→Int) (T : List (List Int)) : Nat→Int
 | 0=>0
 | j+1=>max (mxTo f T j) (f (nthR T j))
def prfR (O : FOps) (L : List (List Int)) (m i : Nat) : Int:=mxTo (dimZ O L m) (setsS m i 0) (setsS m i 0).length
theorem mx_iff (f : List Int→Int) (T : List (List Int)) : ∀ k,0≤mxTo f T k∧(∀ j,j<k→f (nthR T j)≤mxTo f T k)∧(mxTo f T k=0∨∃ j,j<k∧mxTo f T k=f (nthR T j))
 | 0=>⟨Int.le_refl _,fun j hj=>by omega,.inl rfl⟩
 | k+1=>by
  obtain ⟨h1,h2,h3⟩:=mx_iff f T k
  rw [mxTo]
  refine ⟨by omega,fun j hj=>?_,?_⟩
  ·by_cases e : j=k
   ·subst e;omega
   ·have:=h2 j (by omega);omega
  ·by_cases h4 : f (nthR T k)≤mxTo f T k
   ·rw [Int.max_eq_left h4]
    rcases h3 with h3 | ⟨j,a1,a2⟩
    ·exact .inl h3
    ·exact .inr ⟨j,by omega,a2⟩
   ·rw [Int.max_eq_right (by omega)]
    exact .inr ⟨k,by omega,rfl⟩
theorem prof_at (F : Fld O El) (hL : Rws El m L) (hm : m≤64) {i : Nat} (hi : i≤m) : nth (profS (dimsS O m L) m) i=prfR O L m i:=by
 unfold profS prfR
 obtain ⟨h1,h2,h3⟩:=prof_iff (dimsS O m L) m hi (2 ^ m) (Nat.le_refl _)
 obtain ⟨g1,g2,g3⟩:=mx_iff (dimZ O L m) (setsS m i 0) (setsS m i 0).length
 apply Int.le_antisymm
 ·rcases h3 with h3 | ⟨x,a1,a2,a3⟩
  ·rw [h3];exact g1
  ·rw [a3,← dimZ_bits F hL a1]
   obtain ⟨j,hj,e⟩:=mem_nthR (mem_setsS.2 ⟨a2,bits_asc x m⟩)
   rw [← e];exact g2 j hj
 ·rcases g3 with g3 | ⟨j,a1,a2⟩
  ·rw [g3];exact h1
  ·obtain ⟨b1,b2⟩:=mem_setsS.1 (nthR_mem a1)
   obtain ⟨x,hx,e⟩:=asc_bits hm b2
   rw [a2,← e,dimZ_bits F hL hx]
   exact h2 x hx (by rw [e];exact b1)
def wtsR (O : FOps) (L : List (List Int)) (m k : Nat) : List Int:=(List.range k).map fun (i : Nat)=>((firS O L m ((i : Int)+1)).length : Int)
theorem wts_at (F : Fld O El) (hL : Rws El m L) (hm : m≤64) {r : Int} (h1 : 1≤r) (hr : r≤L.length) : ixGe (profS (dimsS O m L) m) r=((firS O L m r).length : Int):=by
 obtain ⟨a1,a2,a3⟩:=fir_some F hL hm hr
 have hlen : (profS (dimsS O m L) m).length=m+1:=profTo_len _ _ _
 have hal:=asc_len a1 (Nat.zero_le m)
 have h:=ixGo_at r (profS (dimsS O m L) m) (firS O L m r).length 0 (by omega) (fun j hj=>?_) ?_
 ·unfold ixGe;rw [h];simp
 ·rw [prof_at F hL hm (by omega)]
  obtain ⟨g1,g2,g3⟩:=mx_iff (dimZ O L m) (setsS m j 0) (setsS m j 0).length
  unfold prfR
  rcases g3 with g3 | ⟨q,b1,b2⟩
  ·omega
  ·obtain ⟨c1,c2⟩:=mem_setsS.1 (nthR_mem b1)
   rw [b2]
   rcases Int.lt_or_le (dimZ O L m (nthR (setsS m j 0) q)) r with h | h
   ·exact h
   ·have:=a3 _ c2 h;omega
 ·rw [prof_at F hL hm (by omega)]
  obtain ⟨g1,g2,g3⟩:=mx_iff (dimZ O L m) (setsS m (firS O L m r).length 0) (setsS m (firS O L m r).length 0).length
  obtain ⟨q,hq,e⟩:=mem_nthR (mem_setsS.2 ⟨rfl,a1⟩)
  have:=g2 q hq
  rw [e] at this
  unfold prfR;omega
theorem wts_eq (F : Fld O El) (hL : Rws El m L) (hm : m≤64) : wtsS O m L=wtsR O L m L.length:=by
 unfold wtsS wtsTo wtsR
 refine List.map_congr_left fun i hi=>?_
 rw [List.mem_range] at hi
 exact wts_at F hL hm (by omega) (by omega)
end
end

section
open Go.RowKit
theorem mem_duaTo {l : List Int} {n : Nat} {v : Int} : ∀ {k},v ∈ duaTo l n k ↔ ∃ j : Nat,j<k∧v=(j : Int)+1∧¬ ((n - j : Nat) : Int) ∈ l
 | 0=>by simp [duaTo]
 | k+1=>by
  have ih:=mem_duaTo (l:=l) (n:=n) (v:=v) (k:=k)
  rw [duaTo]
  constructor
  ·intro h
   split at h
   ·obtain ⟨j,h1,h2⟩:=ih.1 h
    exact ⟨j,by omega,h2⟩
   ·rename_i hk
    rcases List.mem_append.1 h with h | h
    ·obtain ⟨j,h1,h2⟩:=ih.1 h
     exact ⟨j,by omega,h2⟩
    ·exact ⟨k,by omega,List.mem_singleton.1 h,hk⟩
  ·rintro ⟨j,h1,h2,h3⟩
   by_cases e : j=k
   ·subst e
    rw [if_neg h3]
    exact List.mem_append.2 (.inr (List.mem_singleton.2 h2))
   ·split
    ·exact ih.2 ⟨j,by omega,h2,h3⟩
    ·exact List.mem_append.2 (.inl (ih.2 ⟨j,by omega,h2,h3⟩))
theorem duaTo_pair (l : List Int) (n : Nat) : ∀ k,(duaTo l n k).Pairwise (· < ·)
 | 0=>List.Pairwise.nil
 | k+1=>by
  have ih:=duaTo_pair l n k
  rw [duaTo]
  split
  ·exact ih
  ·rw [List.pairwise_append]
   refine ⟨ih,List.pairwise_singleton _ _,fun a ha b hb=>?_⟩
   obtain ⟨j,h1,h2,_⟩:=mem_duaTo.1 ha
   rw [List.mem_singleton.1 hb];omega
end

end Go.Proofs.YtcflcogbpnmjeaaGreat
