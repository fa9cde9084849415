/-  -/
import Derived.Test.YtcflcogbpnmjeaaGreatK27
import Derived.Test.YtcflcogbpnmjeaaGreatHCK9
import Derived.Test.YtcflcogbpnmjeaaGreatK20
import Derived.Test.YtcflcogbpnmjeaaGreatHCK8
import Derived.Test.YtcflcogbpnmjeaaGreatK28
import Derived.Test.YtcflcogbpnmjeaaGreatK32
import Derived.Test.YtcflcogbpnmjeaaGreatK33
import Derived.Test.YtcflcogbpnmjeaaGreatHCK1
import Derived.Test.YtcflcogbpnmjeaaGreatHCK5
import Derived.Test.YtcflcogbpnmjeaaGreatHCK2
import Derived.Test.YtcflcogbpnmjeaaGreatK35
import Derived.Test.YtcflcogbpnmjeaaGreatHCK4
namespace Go.Proofs.YtcflcogbpnmjeaaGreat
set_option linter.unusedVariables false
set_option linter.unusedSimpArgs false
set_option linter.unusedSectionVars false

section
open Go.RowKit
def provF : Option (List (List Int))→Int
 | some []=>0
 | _=>13
theorem provS_F (O : FOps) (L : List (List Int)) (m : Nat) (C : Clm) (T : List (List Int)) : provS O L m C T=provF (folS O L m C C.W [] [] T):=by
 unfold provS provF
 cases folS O L m C C.W [] [] T with
 | none=>rfl
 | some r=>cases r <;> rfl
set_option maxRecDepth 100000 in
set_option maxHeartbeats 1600000 in
theorem rProves26_any (P M : Int) (am : Option Addr) (mn cm : Nat) (mod : List Int) (m : Nat) (a : Option Addr) (n c : Nat) (L : List (List Int)) (ay : Option Addr) (ny cy : Nat) (C : Clm) (ax : Option Addr) (nx cx : Nat) (ts : List (List Int)) (w : World)
  (hmod : Ints w am mn mod) (hi : Mat w a n L) (hE : codeE P M mod m L=0) (cb : Bool) (hc : C.cos=cb) (hRight : Hid (RightK P M am mn cm mod m a n c L ay ny cy C w)) (hw6 : C.W≤64) (hm6 : m≤64) (hts : Mat w ax nx ts) (hnc : nx≤cx) :
  Calls Tryz.prog 138 #[rclV P M am mn cm m a n c ay ny cy C,.agg #[.slice ax nx cx]] w fun e w'=>e = .returned (.int .i64 (provS (tblOf P M.toNat mod).ops L m C ts))∧Below w.heap.size w w':=by
 obtain ⟨PR,hPR⟩ : ∃ PR,provS (tblOf P M.toNat mod).ops L m C ts=PR:=⟨_,rfl⟩
 rw [hPR]
 have HFo0 : ∀ V,Below w.heap.size w V→Calls Tryz.prog 182 #[rclV P M am mn cm m a n c ay ny cy C,.slice none 0 0,.slice none 0 0,.slice ax nx cx] V (FolPost (folS (tblOf P M.toNat mod).ops L m C C.W [] [] ts) V):=fun V hV =>
  rFollow26_any P M am mn cm mod m a n c L ay ny cy C w hmod hi hE cb hc hRight hw6 hm6 C.W V none 0 0 [] none 0 0 [] ax nx cx ts (by omega) (by omega) hnc hV (Ints.nil _ _) (Ints.nil _ _) (hts.keep hV) (by simp) (fun x hx=>by simp at hx)
 obtain ⟨RF,hRF⟩ : ∃ RF,folS (tblOf P M.toNat mod).ops L m C C.W [] [] ts=RF:=⟨_,rfl⟩
 rw [hRF] at HFo0
 have hP2 : PR=provF RF:=by rw [← hPR,← hRF];exact provS_F _ _ _ _ _
 unfold rclV at HFo0 ⊢
 rw [hc]
 simp only [hc] at HFo0
 have HFo:=Lib.hid HFo0
 have HP2:=Lib.hid hP2
 clear hPR hRF HFo0 hP2 hmod hi hE hc hRight hw6 hm6 hts
 go_enter Tryz.func138,Tryz.ntmps138
 go_wp2_with fail
 refine (HFo.out _ (below2 w _ _)).mono ?_
 rintro e w2 ⟨hb2,rv,ov,rfl,hFV⟩
 have hbF:=Below.next (below2 w _ _) hb2
 rcases hFV with ⟨h1,rfl,rfl⟩ | ⟨rest,a12,c12,h1,rfl,rfl,hM12,h12⟩
 ·have HP : Hid (PR=13):=by show _=_;rw [HP2.out,h1];rfl
  clear h1
  go_wp2_with fail
  go_ret
  exact ⟨by rw [HP.out];rfl,hbF⟩
 ·cases rest with
  | nil =>
   have HP : Hid (PR=0):=by show _=_;rw [HP2.out,h1];rfl
   clear h1 hM12 h12
   rw [List.length_nil]
   go_wp2_with fail
   go_ret
   exact ⟨by rw [HP.out];rfl,hbF⟩
  | cons x rest =>
   have HP : Hid (PR=13):=by show _=_;rw [HP2.out,h1];rfl
   obtain ⟨k,hk⟩ : ∃ k,(x :: rest).length=k:=⟨_,rfl⟩
   have hk0 : 0<k:=by rw [← hk];simp
   rw [hk]
   clear h1 hM12 h12 hk
   have hd : decide ((0 : Int)<(k : Int))=true:=by simp;omega
   go_wp2_with fail
   go_ret
   exact ⟨by rw [HP.out];rfl,hbF⟩
set_option maxRecDepth 100000 in
set_option maxHeartbeats 1600000 in
theorem rRank26_any (P M : Int) (am : Option Addr) (mn cm : Nat) (mod : List Int) (N : Int) (a : Option Addr) (n c : Nat) (L : List (List Int)) (mm W : Int) (w : World) (hmod : Ints w am mn mod) (hi : Mat w a n L) :
  Calls Tryz.prog 136 #[.agg #[.int .i64 P,.int .i64 M,.slice am mn cm,.int .i64 N,.slice a n c],.int .i64 mm,.int .i64 W] w fun e w'=>e = .returned (.int .i64 (rkcE P M mod N L mm W))∧Below w.heap.size w w':=by
 have Hil:=Lib.hid hi.len
 go_enter Tryz.func136,Tryz.ntmps136
 go_wp2_with fail
 obtain ⟨U,hU⟩ : ∃ U : World,U=w.alloc (.cells #[.int .i64 P,.int .i64 M,.slice am mn cm,.int .i64 N,.slice a n c] 27):=⟨_,rfl⟩
 rw [← hU]
 have hbU : Below w.heap.size w U:=by rw [hU];exact below1 _ _
 have x0 : Box U w.heap.size [.int .i64 P,.int .i64 M,.slice am mn cm,.int .i64 N,.slice a n c]:=by rw [hU];exact Box.new _ _ _ rfl
 have HX:=Lib.hid x0
 clear hU x0
 refine (rCheck_any P M am mn cm mod N a n c L U (hmod.keep hbU) (hi.keep hbU)).mono ?_
 rintro e w1 ⟨rfl,hb1⟩
 have hbF:=Below.next hbU hb1
 have x1:=HX.out.keep hb1
 have c3:=x1.cell 3 rfl
 have c4:=x1.cell 4 rfl
 clear x1
 by_cases hE : codeE P M mod N L=0
 ·have HE : Hid (rkcE P M mod N L mm W=if mm<0∨(n : Int)<mm∨W<0∨N<W then 6 else 0):=by show _=_;rw [rkcE,if_pos hE,Hil.out]
  rw [hE]
  clear hE
  by_cases h1 : mm<0
  ·have HE2 : Hid (rkcE P M mod N L mm W=6):=by show _=_;rw [HE.out,if_pos (.inl h1)]
   have d1 : decide (mm<0)=true:=by simpa using h1
   clear h1
   go_wp2_with fail
   go_ret
   exact ⟨by rw [HE2.out];rfl,hbF⟩
  have d1 : decide (mm<0)=false:=by simpa using h1
  by_cases h2 : (n : Int)<mm
  ·have HE2 : Hid (rkcE P M mod N L mm W=6):=by show _=_;rw [HE.out,if_pos (.inr (.inl h2))]
   have d2 : decide ((n : Int)<mm)=true:=by simpa using h2
   clear h1 h2
   go_wp2_with fail
   go_ret
   exact ⟨by rw [HE2.out];rfl,hbF⟩
  have d2 : decide ((n : Int)<mm)=false:=by simpa using h2
  by_cases h3 : W<0
  ·have HE2 : Hid (rkcE P M mod N L mm W=6):=by show _=_;rw [HE.out,if_pos (.inr (.inr (.inl h3)))]
   have d3 : decide (W<0)=true:=by simpa using h3
   clear h1 h2 h3
   go_wp2_with fail
   go_ret
   exact ⟨by rw [HE2.out];rfl,hbF⟩
  have d3 : decide (W<0)=false:=by simpa using h3
  by_cases h4 : N<W
  ·have HE2 : Hid (rkcE P M mod N L mm W=6):=by show _=_;rw [HE.out,if_pos (.inr (.inr (.inr h4)))]
   have d4 : decide (N<W)=true:=by simpa using h4
   clear h1 h2 h3 h4
   go_wp2_with fail
   go_ret
   exact ⟨by rw [HE2.out];rfl,hbF⟩
  have d4 : decide (N<W)=false:=by simpa using h4
  have HE2 : Hid (rkcE P M mod N L mm W=0):=by
   show _=_
   rw [HE.out,if_neg]
   rintro (h | h | h | h)
   ·exact h1 h
   ·exact h2 h
   ·exact h3 h
   ·exact h4 h
  clear h1 h2 h3 h4
  go_wp2_with fail
  go_ret
  exact ⟨by rw [HE2.out];rfl,hbF⟩
 ·have HE : Hid (rkcE P M mod N L mm W=codeE P M mod N L):=if_neg hE
  have hE1 : (codeE P M mod N L == 0)=false:=by simpa using hE
  clear hE
  generalize codeE P M mod N L=er at *
  go_wp2_with fail
  go_ret
  exact ⟨by rw [HE.out];rfl,hbF⟩
theorem rkc_env {P M : Int} {mod : List Int} {N : Int} {L : List (List Int)} {mm W : Int} (h : rkcE P M mod N L mm W=0) : codeE P M mod N L=0∧1≤N∧N≤64∧0≤mm∧mm≤L.length∧0≤W∧W≤N:=by
 have hE:=rkc_code h
 obtain ⟨_,h1,h2,_⟩:=codeE_zero hE
 unfold rkcE at h
 rw [if_pos hE] at h
 by_cases hx : mm<0∨(L.length : Int)<mm∨W<0∨N<W
 ·rw [if_pos hx] at h;cases h
 ·refine ⟨hE,h1,h2,?_,?_,?_,?_⟩ <;> (refine Classical.byContradiction fun hh=>hx ?_)
  ·exact .inl (by omega)
  ·exact .inr (.inl (by omega))
  ·exact .inr (.inr (.inl (by omega)))
  ·exact .inr (.inr (.inr (by omega)))
set_option maxRecDepth 100000 in
set_option maxHeartbeats 1600000 in
theorem rCheckRank26_any (P M : Int) (am : Option Addr) (mn cm : Nat) (mod : List Int) (N : Int) (a : Option Addr) (n c : Nat) (L : List (List Int)) (mm W : Int) (ax : Option Addr) (nx cx : Nat) (ts : List (List Int)) (w : World)
  (hmod : Ints w am mn mod) (hi : Mat w a n L) (hts : Mat w ax nx ts) (hnc : nx≤cx) :
  Calls Tryz.prog 88 #[.agg #[.int .i64 P,.int .i64 M,.slice am mn cm,.int .i64 N,.slice a n c],.int .i64 mm,.int .i64 W,.agg #[.slice ax nx cx]] w fun e w'=>e = .returned (.int .i64 (chkRE P M mod N L mm W ts))∧Below w.heap.size w w':=by
 have HPr : Hid (rkcE P M mod N L mm W=0→∀ V,Below w.heap.size w V→Calls Tryz.prog 138 #[.agg #[.int .i64 P,.int .i64 M,.slice am mn cm,.int .i64 N,.slice a n c,.int .i64 mm,.int .i64 W,.slice none 0 0,.bool false],.agg #[.slice ax nx cx]] V
   fun e w'=>e = .returned (.int .i64 (chkRE P M mod N L mm W ts))∧Below V.heap.size V w'):=fun h V hV=>by
  obtain ⟨hE,h1,h2,h3,h4,h5,h6⟩:=rkc_env h
  have h7:=rProves26_any P M am mn cm mod N.toNat a n c L none 0 0 ⟨mm.toNat,W.toNat,false,[]⟩ ax nx cx ts V (hmod.keep hV) (hi.keep hV) (by rw [Int.toNat_of_nonneg (by omega)];exact hE) false rfl (Lib.hid (rightK_rank (hmod.keep hV) (hi.keep hV) (by rw [Int.toNat_of_nonneg (by omega)];exact hE) rfl)) (by show W.toNat≤64;omega) (by omega) (hts.keep hV) hnc
  unfold rclV at h7
  dsimp only at h7
  rw [Int.toNat_of_nonneg (show 0≤N by omega),Int.toNat_of_nonneg h3,Int.toNat_of_nonneg h5] at h7
  rw [chkRE,if_pos h]
  exact h7
 have HRk : Hid (∀ V,Below w.heap.size w V→Calls Tryz.prog 136 #[.agg #[.int .i64 P,.int .i64 M,.slice am mn cm,.int .i64 N,.slice a n c],.int .i64 mm,.int .i64 W] V fun e w'=>e = .returned (.int .i64 (rkcE P M mod N L mm W))∧Below V.heap.size V w'):=fun V hV =>
  rRank26_any P M am mn cm mod N a n c L mm W V (hmod.keep hV) (hi.keep hV)
 obtain ⟨V0,hV0⟩ : ∃ V0,chkRE P M mod N L mm W ts=V0:=⟨_,rfl⟩
 have hV1 : rkcE P M mod N L mm W ≠ 0→V0=rkcE P M mod N L mm W:=fun h=>by rw [← hV0,chkRE,if_neg h]
 rw [hV0] at HPr ⊢
 have HV1:=Lib.hid hV1
 clear hmod hi hts hV0 hV1
 go_enter Tryz.func88,Tryz.ntmps88
 go_wp2_with fail
 obtain ⟨U,hU⟩ : ∃ U : World,U=(w.alloc (.cells #[.int .i64 P,.int .i64 M,.slice am mn cm,.int .i64 N,.slice a n c] 27)).alloc (.cells #[.slice ax nx cx] 37):=⟨_,rfl⟩
 rw [← hU]
 have hbU : Below w.heap.size w U:=by rw [hU];exact below2 _ _ _
 have x0 : Box U w.heap.size [.int .i64 P,.int .i64 M,.slice am mn cm,.int .i64 N,.slice a n c]:=by rw [hU];exact (Box.new _ _ _ rfl).alloc _
 have y0 : Box U (w.heap.size+1) [.slice ax nx cx]:=by rw [hU];exact Box.new _ _ _ (by simp)
 clear hU
 refine (HRk.out U hbU).mono ?_
 rintro e w1 ⟨rfl,hb1⟩
 have hbw1:=Below.next hbU hb1
 have x1:=x0.keep hb1
 have y1:=y0.keep hb1
 have c0:=x1.cell 0 rfl
 have c1:=x1.cell 1 rfl
 have c2:=x1.cell 2 rfl
 have c3:=x1.cell 3 rfl
 have c4:=x1.cell 4 rfl
 have d0:=y1.cell 0 rfl
 by_cases hE : rkcE P M mod N L mm W=0
 ·have HP2:=Lib.hid (HPr.out hE)
  rw [hE]
  clear hE x0 y0 x1 y1
  go_wp2_with fail
  refine (HP2.out _ hbw1).mono ?_
  rintro e w3 ⟨rfl,hb3⟩
  have hbF:=Below.next hbw1 hb3
  go_wp2_with fail
  go_ret
  exact ⟨rfl,hbF⟩
 ·have HV2:=Lib.hid (HV1.out hE)
  have hE2 : (rkcE P M mod N L mm W != 0)=true:=by simpa using hE
  clear hE x0 y0 x1 y1
  generalize rkcE P M mod N L mm W=er at *
  go_wp2_with fail
  go_ret
  exact ⟨by rw [HV2.out];rfl,hbw1⟩
end

section
open Go.RowKit
set_option maxRecDepth 100000 in
set_option maxHeartbeats 8000000 in
theorem rCheck29_any (P M : Int) (am : Option Addr) (mn cm : Nat) (mod : List Int) (N : Int) (a : Option Addr) (n c : Nat) (L : List (List Int)) (asx : Option Addr) (nsx csx : Nat) (SS : List (List Int)) (atx : Option Addr) (ntx ctx : Nat) (TT : List (List (List Int))) (w : World)
  (hmod : Ints w am mn mod) (hi : Mat w a n L) (hSS : Mat w asx nsx SS) (hTT : Trees w atx ntx TT) :
  Calls Tryz.prog 46 #[.agg #[.int .i64 P,.int .i64 M,.slice am mn cm,.int .i64 N,.slice a n c],.agg #[.slice asx nsx csx,.slice atx ntx ctx]] w (HChkPost P M mod N n L SS TT w):=by
 have Hil:=Lib.hid hi.len
 have HSl:=Lib.hid hSS.len
 have HTl:=Lib.hid hTT.len
 have hplS:=hSS.pl
 have hplT:=hTT.pl
 go_enter Tryz.func46,Tryz.ntmps46
 go_wp2_with fail
 obtain ⟨U,hU⟩ : ∃ U : World,U=(w.alloc (.cells #[.int .i64 P,.int .i64 M,.slice am mn cm,.int .i64 N,.slice a n c] 27)).alloc (.cells #[.slice asx nsx csx,.slice atx ntx ctx] 59):=⟨_,rfl⟩
 rw [← hU]
 have hbU : Below w.heap.size w U:=by rw [hU];exact below2 _ _ _
 have x0 : Box U w.heap.size [.int .i64 P,.int .i64 M,.slice am mn cm,.int .i64 N,.slice a n c]:=by rw [hU];exact (Box.new _ _ _ rfl).alloc _
 have z0 : Box U (w.heap.size+1) [.slice asx nsx csx,.slice atx ntx ctx]:=by rw [hU];exact Box.new _ _ _ (by simp)
 have HS : Hid (∀ V,Below U.heap.size U V→V.cell? ⟨w.heap.size,0,none⟩=some (.int .i64 P)∧V.cell? ⟨w.heap.size,1,none⟩=some (.int .i64 M)∧V.cell? ⟨w.heap.size,2,none⟩=some (.slice am mn cm)∧V.cell? ⟨w.heap.size,3,none⟩=some (.int .i64 N)∧V.cell? ⟨w.heap.size,4,none⟩=some (.slice a n c) ∧
   V.cell? ⟨w.heap.size+1,0,none⟩=some (.slice asx nsx csx)∧V.cell? ⟨w.heap.size+1,1,none⟩=some (.slice atx ntx ctx)):=fun V hV=>by
  have x1:=x0.keep hV
  have z1:=z0.keep hV
  exact ⟨x1.cell 0 rfl,x1.cell 1 rfl,x1.cell 2 rfl,x1.cell 3 rfl,x1.cell 4 rfl,z1.cell 0 rfl,z1.cell 1 rfl⟩
 have HbU:=Lib.hid hbU
 have HErr : Hid (∀ V er,hcE P M mod N L SS TT=er→er ≠ 0→Below U.heap.size U V→HChkPost P M mod N n L SS TT w (.returned (.tuple #[.slice none 0 0,.int .i64 er])) V):=fun V er h1 h2 hV =>
  ⟨Below.next hbU hV,.inl ⟨by rw [h1];exact h2,by rw [h1]⟩⟩
 clear hU x0 z0
 refine (rCheck_any P M am mn cm mod N a n c L U (hmod.keep hbU) (hi.keep hbU)).mono ?_
 rintro e w1 ⟨rfl,hb1⟩
 by_cases hC : codeE P M mod N L=0
 rotate_left
 ·have HR:=Lib.hid (HErr.out w1 _ (if_neg hC) hC hb1)
  have hE' : (codeE P M mod N L != 0)=true:=by simpa using hC
  clear hC
  generalize codeE P M mod N L=er at *
  go_wp2_with fail
  go_ret2
  exact HR.out
 obtain ⟨m,em,hm1,hm64,F,hR⟩:=codeE_fld hC
 subst em
 have hn256 : n≤256:=by rw [← hi.len];exact (codeE_rws hC).choose_spec.2.2.2.1
 obtain ⟨d0,d1,d2,d3,d4,d5,d6⟩:=HS.out w1 hb1
 have HRej : Hid (∀ V,¬ (SS.length=L.length∧TT.length=L.length∧hokTo P M mod m L SS TT L.length=true)→Below U.heap.size U V→HChkPost P M mod m n L SS TT w (.returned (.tuple #[.slice none 0 0,.int .i64 13])) V):=fun V h hV =>
  HErr.out V 13 (by show hcE _ _ _ _ _ _ _=13;unfold hcE;rw [if_pos hC,Int.toNat_natCast,if_neg h]) (by decide) hV
 by_cases hs1 : nsx=n
 rotate_left
 ·have HR:=Lib.hid (HRej.out w1 (fun h=>hs1 (by rw [← hSS.len,h.1,hi.len])) hb1)
  have e1 : ((nsx : Int) != (n : Int))=true:=by simpa using fun h=>hs1 (by omega)
  rw [hC]
  clear hC hs1
  go_wp2_with fail
  go_ret2
  exact HR.out
 subst hs1
 by_cases ht1 : ntx=nsx
 rotate_left
 ·have HR:=Lib.hid (HRej.out w1 (fun h=>ht1 (by rw [← hTT.len,h.2.1,hi.len])) hb1)
  have e1 : ((ntx : Int) != (nsx : Int))=true:=by simpa using fun h=>ht1 (by omega)
  rw [hC]
  clear hC ht1
  go_wp2_with fail
  go_ret2
  exact HR.out
 subst ht1
 have hbw1:=Below.next hbU hb1
 have HRj : Hid (∀ V k,k<ntx→hokB P M mod m L SS TT k=false→Below U.heap.size U V→HChkPost P M mod m ntx L SS TT w (.returned (.tuple #[.slice none 0 0,.int .i64 13])) V):=fun V k hk hb hV =>
  HRej.out V (fun h=>by
   have h1:=hokTo_no hb (ntx - (k+1))
   rw [show k+1+(ntx - (k+1))=L.length by rw [hi.len];omega] at h1
   rw [h1] at h
   exact absurd h.2.2 (by decide)) hV
 have HOk : Hid (∀ a1 c1 V,hokTo P M mod m L SS TT ntx=true→V.ownsRow w1.heap.size 3 1 (.slice a1 ntx c1) ntx ((lenL SS ntx).map (Value.int .i64))→Below w1.heap.size w1 V→HChkPost P M mod m ntx L SS TT w (.returned (.tuple #[.slice a1 ntx c1,.int .i64 0])) V):=fun a1 c1 V h1 h2 h3 =>
  ⟨Below.next hbw1 h3,.inr ⟨by unfold hcE;rw [if_pos hC,Int.toNat_natCast,if_pos ⟨by rw [hSS.len,hi.len],by rw [hTT.len,hi.len],by rw [hi.len];exact h1⟩],a1,c1,rfl,own_mono h2 hbw1.size⟩⟩
 have HStep : Hid (∀ k,hokTo P M mod m L SS TT k=true→hokB P M mod m L SS TT k=true→hokTo P M mod m L SS TT (k+1)=true):=fun k h1 h2=>by
  show (hokTo P M mod m L SS TT k && hokB P M mod m L SS TT k)=true
  rw [h1,h2];rfl
 have HB0 : Hid (∀ k : Nat,okSet m (nthR SS k)=false→hokB P M mod m L SS TT k=false):=fun k h=>by unfold hokB;rw [h];rfl
 have HB1 : Hid (∀ k : Nat,¬ (k : Int)+1≤dimZ (tblOf P M.toNat mod).ops L m (nthR SS k)→hokB P M mod m L SS TT k=false):=fun k h=>by unfold hokB;rw [decide_eq_false h,Bool.false_and,Bool.and_false]
 have HB2 : Hid (∀ (k : Nat) er,chkRE P M mod m L ((ntx : Int) - ((k : Int)+1)+1) (((nthR SS k).length : Int) - 1) (nthT TT k)=er→er ≠ 0→hokB P M mod m L SS TT k=false):=fun k er h1 h2=>by
  unfold hokB
  rw [decide_eq_false (p:=chkRE _ _ _ _ _ _ _ _=0) (by rw [hi.len,h1];exact h2),Bool.and_false,Bool.and_false]
 have HB3 : Hid (∀ k : Nat,okSet m (nthR SS k)=true→(k : Int)+1≤dimZ (tblOf P M.toNat mod).ops L m (nthR SS k)→chkRE P M mod m L ((ntx : Int) - ((k : Int)+1)+1) (((nthR SS k).length : Int) - 1) (nthT TT k)=0→hokB P M mod m L SS TT k=true):=fun k h1 h2 h3=>by
  unfold hokB
  rw [h1,decide_eq_true h2,hi.len,h3];rfl
 have HW : Hid (∀ k,lenL SS (k+1)=lenL SS k ++ [((nthR SS k).length : Int)]):=fun k=>by unfold lenL;rw [List.range_succ];simp
 have HW0 : Hid (lenL SS 0=[]):=rfl
 have HCk : Hid (∀ V mm WW ax nx cx ts,Below w.heap.size w V→Mat V ax nx ts→nx≤cx→Calls Tryz.prog 88 #[.agg #[.int .i64 P,.int .i64 M,.slice am mn cm,.int .i64 m,.slice a ntx c],.int .i64 mm,.int .i64 WW,.agg #[.slice ax nx cx]] V fun e w'=>e = .returned (.int .i64 (chkRE P M mod m L mm WW ts))∧Below V.heap.size V w'):=fun V mm WW ax nx cx ts hV h1 h2 =>
  rCheckRank26_any P M am mn cm mod m a ntx c L mm WW ax nx cx ts V (hmod.keep hV) (hi.keep hV) h1 h2
 have HRs0 : Hid (∀ V ao no co Q,Below w.heap.size w V→Ints V ao no Q→Calls Tryz.prog 79 #[.slice ao no co,.int .i64 m] V fun e w'=>e = .returned (.bool (okSet m Q))∧Below V.heap.size V w'):=fun V ao no co Q hV hQ =>
  (rising_any m ao no co Q V hQ).mono fun e w' h=>⟨h.1,Drawn.below h.2⟩
 have HDm0 : Hid (∀ V ao no co Q,Below w.heap.size w V→Ints V ao no Q→Calls Tryz.prog 75 #[.agg #[.int .i64 P,.int .i64 M,.slice am mn cm,.int .i64 m,.slice a ntx c],.slice ao no co] V fun e w'=>e = .returned (.int .i64 (dimZ (tblOf P M.toNat mod).ops L m Q))∧Below V.heap.size V w'):=fun V ao no co Q hV hQ =>
  rDim29_any P M am mn cm mod m a ntx c L ao no co Q V (hmod.keep hV) (hi.keep hV) hQ hC
 obtain ⟨ck,hck⟩ : ∃ ck,chkRE P M mod m L=ck:=⟨_,rfl⟩
 obtain ⟨dz,hdz⟩ : ∃ dz,dimZ (tblOf P M.toNat mod).ops L m=dz:=⟨_,rfl⟩
 obtain ⟨G,hG⟩ : ∃ G,lenL SS=G:=⟨_,rfl⟩
 obtain ⟨H,hH⟩ : ∃ H,hokTo P M mod m L SS TT=H:=⟨_,rfl⟩
 obtain ⟨hb,hhb⟩ : ∃ hb,hokB P M mod m L SS TT=hb:=⟨_,rfl⟩
 rw [hck] at HCk HB2 HB3
 rw [hdz] at HB1 HB3 HDm0
 rw [hG] at HW HW0 HOk
 rw [hH] at HOk HStep
 rw [hhb] at HRj HStep HB0 HB1 HB2 HB3
 have HH0 : Hid (H 0=true):=by show _=_;rw [← hH];rfl
 rw [hC]
 have HSw : Hid (∀ V,Below w1.heap.size w1 V→V.cell? ⟨w.heap.size,0,none⟩=some (.int .i64 P)∧V.cell? ⟨w.heap.size,1,none⟩=some (.int .i64 M)∧V.cell? ⟨w.heap.size,2,none⟩=some (.slice am mn cm)∧V.cell? ⟨w.heap.size,3,none⟩=some (.int .i64 m)∧V.cell? ⟨w.heap.size,4,none⟩=some (.slice a ntx c) ∧
   V.cell? ⟨w.heap.size+1,0,none⟩=some (.slice asx ntx csx)∧V.cell? ⟨w.heap.size+1,1,none⟩=some (.slice atx ntx ctx)):=fun V hV=>HS.out V (Below.next hb1 hV)
 have Hbw1:=Lib.hid hbw1
 have Hb1:=Lib.hid hb1
 clear hck hdz hG hH hhb hC F hR HErr HRej HS hb1 hbU hbw1
 go_wp2_with fail
 go_loopw [8,9] (fun ov iv wr=>∃ (k : Nat) (a1 : Option Addr) (c1 : Nat),k≤ntx∧iv = .int .i64 ((k : Int)+1)∧ov = .slice a1 k c1∧wr.ownsRow w1.heap.size 3 1 (.slice a1 k c1) k ((G k).map (Value.int .i64))∧Hid (H k=true)∧Below w1.heap.size w1 wr) (fun _ iv _=>ntx+1 - (intOf iv).toNat)
 case atStart=>exact ⟨0,none,0,Nat.zero_le _,rfl,rfl,by rw [HW0.out];exact own_none,HH0.out,Below.refl _ _⟩
 case round =>
  obtain ⟨k,a1,c1,hk,rfl,rfl,hown,Hk,hbr⟩:=hrel
  obtain ⟨d0,d1,d2,d3,d4,d5,d6⟩:=HSw.out wr hbr
  by_cases hlt : k<ntx
  ·obtain ⟨r,hr⟩ : ∃ r : Int,(k : Int)+1=r:=⟨_,rfl⟩
   have hr1 : 1≤r:=by omega
   have hrn : r≤ntx:=by omega
   have g1 : decide (r≤(ntx : Int))=true:=by simp;omega
   have g2 : r - 1=(k : Int):=by omega
   have HRk:=Lib.hid (fun V=>HRj.out V k hlt)
   have HB0k:=Lib.hid (HB0.out k)
   have HB1k:=Lib.hid (HB1.out k)
   have HB2k:=Lib.hid (HB2.out k)
   have HB3k:=Lib.hid (HB3.out k)
   have HStk:=Lib.hid (HStep.out k Hk.out)
   have HWk:=Lib.hid (HW.out k)
   rw [hr] at HB1k HB2k HB3k ⊢
   obtain ⟨rb,rn,rc,hcell,hrow⟩:=(hSS.keep (Below.next Hbw1.out hbr)).cell k (by omega)
   obtain ⟨tb,tn,tc,htcell,htree,htc⟩:=(hTT.keep (Below.next Hbw1.out hbr)).cell k (by omega)
   obtain ⟨S,hS⟩ : ∃ S,nthR SS k=S:=⟨_,rfl⟩
   obtain ⟨ts,hts⟩ : ∃ ts,nthT TT k=ts:=⟨_,rfl⟩
   rw [hS] at HB0k HB1k HB2k HB3k HWk hrow
   rw [hts] at HB2k HB3k htree
   have hrl:=hrow.len
   rw [hrl] at HB2k HB3k HWk
   have hrmax : rn≤maxLen:=hrow.max
   unfold maxLen at hrmax
   have Hr:=Lib.hid hr
   have Hown:=Lib.hid hown
   have Hbr:=Lib.hid hbr
   have Hrow:=Lib.hid hrow
   have Htree:=Lib.hid htree
   have Hrl:=Lib.hid hrl
   clear hr hown hbr hrow htree hS hts hrl
   have hbw:=Below.next Hbw1.out Hbr.out
   have Hbw:=Lib.hid hbw
   have HSr : Hid (∀ V,Below wr.heap.size wr V→V.cell? ⟨w.heap.size,0,none⟩=some (.int .i64 P)∧V.cell? ⟨w.heap.size,1,none⟩=some (.int .i64 M)∧V.cell? ⟨w.heap.size,2,none⟩=some (.slice am mn cm)∧V.cell? ⟨w.heap.size,3,none⟩=some (.int .i64 m)∧V.cell? ⟨w.heap.size,4,none⟩=some (.slice a ntx c) ∧
     V.cell? ⟨w.heap.size+1,0,none⟩=some (.slice asx ntx csx)∧V.cell? ⟨w.heap.size+1,1,none⟩=some (.slice atx ntx ctx)∧V.cell? ⟨ablk atx,aoff atx+k,none⟩=some (.slice tb tn tc)):=fun V hV=>by
    obtain ⟨x0,x1,x2,x3,x4,x5,x6⟩:=HSw.out V (Below.next Hbr.out hV)
    exact ⟨x0,x1,x2,x3,x4,x5,x6,cell_keep hV htcell⟩
   have HU1:=Lib.hid (Below.next Hb1.out Hbr.out)
   have HRs : Hid (∀ V,Below wr.heap.size wr V→Calls Tryz.prog 79 #[.slice rb rn rc,.int .i64 m] V fun e w'=>e = .returned (.bool (okSet m S))∧Below V.heap.size V w'):=fun V hV=>HRs0.out V rb rn rc S (Below.next hbw hV) (Hrow.out.keep hV)
   have HDm : Hid (∀ V,Below wr.heap.size wr V→Calls Tryz.prog 75 #[.agg #[.int .i64 P,.int .i64 M,.slice am mn cm,.int .i64 m,.slice a ntx c],.slice rb rn rc] V fun e w'=>e = .returned (.int .i64 (dz S))∧Below V.heap.size V w'):=fun V hV=>HDm0.out V rb rn rc S (Below.next hbw hV) (Hrow.out.keep hV)
   have HCkk : Hid (∀ V,Below wr.heap.size wr V→Calls Tryz.prog 88 #[.agg #[.int .i64 P,.int .i64 M,.slice am mn cm,.int .i64 m,.slice a ntx c],.int .i64 ((ntx : Int) - r+1),.int .i64 ((rn : Int) - 1),.agg #[.slice tb tn tc]] V fun e w'=>e = .returned (.int .i64 (ck ((ntx : Int) - r+1) ((rn : Int) - 1) ts))∧Below V.heap.size V w'):=fun V hV =>
    HCk.out V _ _ tb tn tc ts (Below.next hbw hV) (Htree.out.keep hV) htc
   have hw1 : IntKind.i64.wrap ((ntx : Int) - r)=(ntx : Int) - r:=IntWalk.i64_in _ (by omega)
   have hw2 : IntKind.i64.wrap ((ntx : Int) - r+1)=(ntx : Int) - r+1:=IntWalk.i64_in _ (by omega)
   have hw3 : IntKind.i64.wrap ((rn : Int) - 1)=(rn : Int) - 1:=IntWalk.i64_in _ (by omega)
   have hwk : IntKind.i64.wrap (k : Int)=(k : Int):=IntWalk.i64_in _ (by omega)
   have hkI : (k : Int)<(ntx : Int):=by omega
   have hkI0 : (0 : Int)≤(k : Int):=by omega
   clear hbw htcell
   go_upto_region 12 with fail
   generalize wr=X at *
   clear hcell d0 d1 d2 d3 d4 d5 d6
   obtain ⟨z,hz⟩ : ∃ z,okSet m S=z:=⟨_,rfl⟩
   rw [hz] at HRs HB0k HB3k
   clear hz
   cases z
   ·have HR : Hid (∀ V,Below X.heap.size X V→HChkPost P M mod m ntx L SS TT w (.returned (.tuple #[.slice none 0 0,.int .i64 13])) V):=fun V hV=>HRk.out V (HB0k.out rfl) (Below.next HU1.out hV)
    go_cut [71] (fun v wx=>v = .bool true∧Below X.heap.size X wx)
    case first =>
     refine wp_region_held_drew (S:=(fun V=>V.cell? ⟨w.heap.size,0,none⟩=some (.int .i64 P)∧V.cell? ⟨w.heap.size,1,none⟩=some (.int .i64 M)∧V.cell? ⟨w.heap.size,2,none⟩=some (.slice am mn cm)∧V.cell? ⟨w.heap.size,3,none⟩=some (.int .i64 m)∧V.cell? ⟨w.heap.size,4,none⟩=some (.slice a ntx c)∧V.cell? ⟨w.heap.size+1,0,none⟩=some (.slice asx ntx csx)∧V.cell? ⟨w.heap.size+1,1,none⟩=some (.slice atx ntx ctx)∧V.cell? ⟨ablk atx,aoff atx+k,none⟩=some (.slice tb tn tc))) (by kernel_rfl) ?_ (fun hHeld=>?_)
     ·exact HSr.out _ (Below.refl _ _).drew
     refine wpAnyH_take (i:=0) (v:=?_) (by simp only [List.getElem?_toArray,List.getElem?_cons_succ,List.getElem?_cons_zero];rfl) (by kernel_rfl) (by kernel_rfl) (by kernel_rfl) (by exact fun _ _ _ h=>h) (Or.inl ⟨by rfl,?_⟩) (by assumption) ?_
     rotate_left
     ·(intro w hSw;(try dsimp only at hSw);go_simp;first | done | with_reducible rfl)
     try simp only [Act.put,List.setIfInBounds_toArray,List.set_cons_zero,List.set_cons_succ]
     refine wpAnyH_take (i:=1) (v:=?_) (by simp only [List.getElem?_toArray,List.getElem?_cons_succ,List.getElem?_cons_zero];rfl) (by kernel_rfl) (by kernel_rfl) (by kernel_rfl) (by exact fun _ _ _ h=>h) (Or.inl ⟨by rfl,?_⟩) (by assumption) ?_
     rotate_left
     ·(intro w hSw;(try dsimp only at hSw);go_simp;first | done | with_reducible rfl)
     try simp only [Act.put,List.setIfInBounds_toArray,List.set_cons_zero,List.set_cons_succ]
     refine wpAnyH_take (i:=2) (v:=?_) (by simp only [List.getElem?_toArray,List.getElem?_cons_succ,List.getElem?_cons_zero];rfl) (by kernel_rfl) (by kernel_rfl) (by kernel_rfl) (by exact fun _ _ _ h=>h) (Or.inl ⟨by rfl,?_⟩) (by assumption) ?_
     rotate_left
     ·(intro w hSw;(try dsimp only at hSw);go_simp;first | done | with_reducible rfl)
     try simp only [Act.put,List.setIfInBounds_toArray,List.set_cons_zero,List.set_cons_succ]
     refine wpAnyH_ready (rs:=[3]) (by kernel_rfl) (by simp) ?_
     refine AllReadyH.cons rfl (fun K hK=>?_) AllReadyH.nil
     go_simp
     refine (HRs.out _ (Below.refl _ _).drew).mono ?_;rintro e w4 ⟨rfl,hb4⟩;have hb4 : Below X.heap.size X w4:=Below.next (Below.refl _ _).drew hb4
     go_wp2_with fail
     refine hK.out _ _ ?_ (fun hHeld=>?_)
     ·exact HSr.out _ hb4
     clear hK K
     try simp only [Act.put,List.setIfInBounds_toArray,List.set_cons_zero,List.set_cons_succ]
     refine wpAnyH_take (i:=4) (v:=?_) (by simp only [List.getElem?_toArray,List.getElem?_cons_succ,List.getElem?_cons_zero];rfl) (by kernel_rfl) (by kernel_rfl) (by kernel_rfl) (by exact fun _ _ _ h=>h) (Or.inl ⟨by rfl,?_⟩) (by assumption) ?_
     rotate_left
     ·(intro w hSw;(try dsimp only at hSw);go_simp;first | done | with_reducible rfl)
     try simp only [Act.put,List.setIfInBounds_toArray,List.set_cons_zero,List.set_cons_succ]
     refine wpAnyH_take (i:=5) (v:=?_) (by simp only [List.getElem?_toArray,List.getElem?_cons_succ,List.getElem?_cons_zero];rfl) (by kernel_rfl) (by kernel_rfl) (by kernel_rfl) (by exact fun _ _ _ h=>h) (Or.inl ⟨by rfl,?_⟩) (by assumption) ?_
     rotate_left
     ·(intro w hSw;(try dsimp only at hSw);go_simp;first | done | with_reducible rfl)
     try simp only [Act.put,List.setIfInBounds_toArray,List.set_cons_zero,List.set_cons_succ]
     refine wpAnyH_take (i:=6) (v:=undef) (by simp only [List.getElem?_toArray,List.getElem?_cons_succ,List.getElem?_cons_zero];rfl) (by kernel_rfl) (by kernel_rfl) (by kernel_rfl) (by exact fun _ _ _ h=>h) (Or.inr ⟨by rfl,rfl⟩) (by assumption) ?_
     try simp only [Act.put,List.setIfInBounds_toArray,List.set_cons_zero,List.set_cons_succ]
     refine wpAnyH_take (i:=7) (v:=undef) (by simp only [List.getElem?_toArray,List.getElem?_cons_succ,List.getElem?_cons_zero];rfl) (by kernel_rfl) (by kernel_rfl) (by kernel_rfl) (by exact fun _ _ _ h=>h) (Or.inr ⟨by rfl,rfl⟩) (by assumption) ?_
     try simp only [Act.put,List.setIfInBounds_toArray,List.set_cons_zero,List.set_cons_succ]
     refine wpAnyH_take (i:=8) (v:=undef) (by simp only [List.getElem?_toArray,List.getElem?_cons_succ,List.getElem?_cons_zero];rfl) (by kernel_rfl) (by kernel_rfl) (by kernel_rfl) (by exact fun _ _ _ h=>h) (Or.inr ⟨by rfl,rfl⟩) (by assumption) ?_
     try simp only [Act.put,List.setIfInBounds_toArray,List.set_cons_zero,List.set_cons_succ]
     refine wpAnyH_take (i:=9) (v:=undef) (by simp only [List.getElem?_toArray,List.getElem?_cons_succ,List.getElem?_cons_zero];rfl) (by kernel_rfl) (by kernel_rfl) (by kernel_rfl) (by exact fun _ _ _ h=>h) (Or.inr ⟨by rfl,rfl⟩) (by assumption) ?_
     try simp only [Act.put,List.setIfInBounds_toArray,List.set_cons_zero,List.set_cons_succ]
     refine wpAnyH_take (i:=10) (v:=undef) (by simp only [List.getElem?_toArray,List.getElem?_cons_succ,List.getElem?_cons_zero];rfl) (by kernel_rfl) (by kernel_rfl) (by kernel_rfl) (by exact fun _ _ _ h=>h) (Or.inr ⟨by rfl,rfl⟩) (by assumption) ?_
     try simp only [Act.put,List.setIfInBounds_toArray,List.set_cons_zero,List.set_cons_succ]
     refine wpAnyH_take (i:=11) (v:=?_) (by simp only [List.getElem?_toArray,List.getElem?_cons_succ,List.getElem?_cons_zero];rfl) (by kernel_rfl) (by kernel_rfl) (by kernel_rfl) (by exact fun _ _ _ h=>h) (Or.inl ⟨by rfl,?_⟩) (by assumption) ?_
     rotate_left
     ·(intro w hSw;(try dsimp only at hSw);go_simp;first | done | with_reducible rfl)
     try simp only [Act.put,List.setIfInBounds_toArray,List.set_cons_zero,List.set_cons_succ]
     refine wpAnyH_take (i:=12) (v:=?_) (by simp only [List.getElem?_toArray,List.getElem?_cons_succ,List.getElem?_cons_zero];rfl) (by kernel_rfl) (by kernel_rfl) (by kernel_rfl) (by exact fun _ _ _ h=>h) (Or.inl ⟨by rfl,?_⟩) (by assumption) ?_
     rotate_left
     ·(intro w hSw;(try dsimp only at hSw);go_simp;first | done | with_reducible rfl)
     try simp only [Act.put,List.setIfInBounds_toArray,List.set_cons_zero,List.set_cons_succ]
     refine wpAnyH_take (i:=13) (v:=undef) (by simp only [List.getElem?_toArray,List.getElem?_cons_succ,List.getElem?_cons_zero];rfl) (by kernel_rfl) (by kernel_rfl) (by kernel_rfl) (by exact fun _ _ _ h=>h) (Or.inr ⟨by rfl,rfl⟩) (by assumption) ?_
     try simp only [Act.put,List.setIfInBounds_toArray,List.set_cons_zero,List.set_cons_succ]
     refine wpAnyH_take (i:=14) (v:=undef) (by simp only [List.getElem?_toArray,List.getElem?_cons_succ,List.getElem?_cons_zero];rfl) (by kernel_rfl) (by kernel_rfl) (by kernel_rfl) (by exact fun _ _ _ h=>h) (Or.inr ⟨by rfl,rfl⟩) (by assumption) ?_
     try simp only [Act.put,List.setIfInBounds_toArray,List.set_cons_zero,List.set_cons_succ]
     refine wpAnyH_take (i:=15) (v:=undef) (by simp only [List.getElem?_toArray,List.getElem?_cons_succ,List.getElem?_cons_zero];rfl) (by kernel_rfl) (by kernel_rfl) (by kernel_rfl) (by exact fun _ _ _ h=>h) (Or.inr ⟨by rfl,rfl⟩) (by assumption) ?_
     try simp only [Act.put,List.setIfInBounds_toArray,List.set_cons_zero,List.set_cons_succ]
     refine wpAnyH_take (i:=16) (v:=undef) (by simp only [List.getElem?_toArray,List.getElem?_cons_succ,List.getElem?_cons_zero];rfl) (by kernel_rfl) (by kernel_rfl) (by kernel_rfl) (by exact fun _ _ _ h=>h) (Or.inr ⟨by rfl,rfl⟩) (by assumption) ?_
     try simp only [Act.put,List.setIfInBounds_toArray,List.set_cons_zero,List.set_cons_succ]
     refine wpAnyH_take (i:=17) (v:=undef) (by simp only [List.getElem?_toArray,List.getElem?_cons_succ,List.getElem?_cons_zero];rfl) (by kernel_rfl) (by kernel_rfl) (by kernel_rfl) (by exact fun _ _ _ h=>h) (Or.inr ⟨by rfl,rfl⟩) (by assumption) ?_
     try simp only [Act.put,List.setIfInBounds_toArray,List.set_cons_zero,List.set_cons_succ]
     refine wpAnyH_take (i:=18) (v:=undef) (by simp only [List.getElem?_toArray,List.getElem?_cons_succ,List.getElem?_cons_zero];rfl) (by kernel_rfl) (by kernel_rfl) (by kernel_rfl) (by exact fun _ _ _ h=>h) (Or.inr ⟨by rfl,rfl⟩) (by assumption) ?_
     try simp only [Act.put,List.setIfInBounds_toArray,List.set_cons_zero,List.set_cons_succ]
     refine wpAnyH_take (i:=19) (v:=undef) (by simp only [List.getElem?_toArray,List.getElem?_cons_succ,List.getElem?_cons_zero];rfl) (by kernel_rfl) (by kernel_rfl) (by kernel_rfl) (by exact fun _ _ _ h=>h) (Or.inr ⟨by rfl,rfl⟩) (by assumption) ?_
     try simp only [Act.put,List.setIfInBounds_toArray,List.set_cons_zero,List.set_cons_succ]
     refine wpAnyH_take (i:=20) (v:=undef) (by simp only [List.getElem?_toArray,List.getElem?_cons_succ,List.getElem?_cons_zero];rfl) (by kernel_rfl) (by kernel_rfl) (by kernel_rfl) (by exact fun _ _ _ h=>h) (Or.inr ⟨by rfl,rfl⟩) (by assumption) ?_
     try simp only [Act.put,List.setIfInBounds_toArray,List.set_cons_zero,List.set_cons_succ]
     refine wpAnyH_take (i:=21) (v:=undef) (by simp only [List.getElem?_toArray,List.getElem?_cons_succ,List.getElem?_cons_zero];rfl) (by kernel_rfl) (by kernel_rfl) (by kernel_rfl) (by exact fun _ _ _ h=>h) (Or.inr ⟨by rfl,rfl⟩) (by assumption) ?_
     try simp only [Act.put,List.setIfInBounds_toArray,List.set_cons_zero,List.set_cons_succ]
     refine wpAnyH_take (i:=22) (v:=undef) (by simp only [List.getElem?_toArray,List.getElem?_cons_succ,List.getElem?_cons_zero];rfl) (by kernel_rfl) (by kernel_rfl) (by kernel_rfl) (by exact fun _ _ _ h=>h) (Or.inr ⟨by rfl,rfl⟩) (by assumption) ?_
     try simp only [Act.put,List.setIfInBounds_toArray,List.set_cons_zero,List.set_cons_succ]
     refine wpAnyH_take (i:=23) (v:=undef) (by simp only [List.getElem?_toArray,List.getElem?_cons_succ,List.getElem?_cons_zero];rfl) (by kernel_rfl) (by kernel_rfl) (by kernel_rfl) (by exact fun _ _ _ h=>h) (Or.inr ⟨by rfl,rfl⟩) (by assumption) ?_
     try simp only [Act.put,List.setIfInBounds_toArray,List.set_cons_zero,List.set_cons_succ]
     refine wpAnyH_take (i:=24) (v:=undef) (by simp only [List.getElem?_toArray,List.getElem?_cons_succ,List.getElem?_cons_zero];rfl) (by kernel_rfl) (by kernel_rfl) (by kernel_rfl) (by exact fun _ _ _ h=>h) (Or.inr ⟨by rfl,rfl⟩) (by assumption) ?_
     try simp only [Act.put,List.setIfInBounds_toArray,List.set_cons_zero,List.set_cons_succ]
     refine wpAnyH_take (i:=25) (v:=undef) (by simp only [List.getElem?_toArray,List.getElem?_cons_succ,List.getElem?_cons_zero];rfl) (by kernel_rfl) (by kernel_rfl) (by kernel_rfl) (by exact fun _ _ _ h=>h) (Or.inr ⟨by rfl,rfl⟩) (by assumption) ?_
     try simp only [Act.put,List.setIfInBounds_toArray,List.set_cons_zero,List.set_cons_succ]
     refine wpAnyH_take (i:=26) (v:=undef) (by simp only [List.getElem?_toArray,List.getElem?_cons_succ,List.getElem?_cons_zero];rfl) (by kernel_rfl) (by kernel_rfl) (by kernel_rfl) (by exact fun _ _ _ h=>h) (Or.inr ⟨by rfl,rfl⟩) (by assumption) ?_
     try simp only [Act.put,List.setIfInBounds_toArray,List.set_cons_zero,List.set_cons_succ]
     refine wpAnyH_take (i:=27) (v:=undef) (by simp only [List.getElem?_toArray,List.getElem?_cons_succ,List.getElem?_cons_zero];rfl) (by kernel_rfl) (by kernel_rfl) (by kernel_rfl) (by exact fun _ _ _ h=>h) (Or.inr ⟨by rfl,rfl⟩) (by assumption) ?_
     try simp only [Act.put,List.setIfInBounds_toArray,List.set_cons_zero,List.set_cons_succ]
     refine wpAnyH_take (i:=28) (v:=undef) (by simp only [List.getElem?_toArray,List.getElem?_cons_succ,List.getElem?_cons_zero];rfl) (by kernel_rfl) (by kernel_rfl) (by kernel_rfl) (by exact fun _ _ _ h=>h) (Or.inr ⟨by rfl,rfl⟩) (by assumption) ?_
     try simp only [Act.put,List.setIfInBounds_toArray,List.set_cons_zero,List.set_cons_succ]
     refine wpAnyH_take (i:=29) (v:=?_) (by simp only [List.getElem?_toArray,List.getElem?_cons_succ,List.getElem?_cons_zero];rfl) (by kernel_rfl) (by kernel_rfl) (by kernel_rfl) (by exact fun _ _ _ h=>h) (Or.inl ⟨by rfl,?_⟩) (by assumption) ?_
     rotate_left
     ·(intro w hSw;(try dsimp only at hSw);go_simp;first | done | with_reducible rfl)
     try simp only [Act.put,List.setIfInBounds_toArray,List.set_cons_zero,List.set_cons_succ]
     refine wpAnyH_done (by kernel_rfl) ?_ _
     go_wp2_with fail
     go_meet
     exact ⟨rfl,hb4⟩
    obtain ⟨rfl,hbc⟩:=hcut
    have HF:=Lib.hid (HR.out wc hbc)
    go_wp2_with fail
    go_ret2
    exact HF.out
   obtain ⟨d,hd⟩ : ∃ d,dz S=d:=⟨_,rfl⟩
   rw [hd] at HDm HB1k HB3k
   clear hd
   by_cases hdr : d<r
   ·have HR : Hid (∀ V,Below X.heap.size X V→HChkPost P M mod m ntx L SS TT w (.returned (.tuple #[.slice none 0 0,.int .i64 13])) V):=fun V hV=>HRk.out V (HB1k.out (by omega)) (Below.next HU1.out hV)
    have g5 : decide (d<r)=true:=by simpa using hdr
    clear hdr
    go_cut [71] (fun v wx=>v = .bool true∧Below X.heap.size X wx)
    case first =>
     refine wp_region_held_drew (S:=(fun V=>V.cell? ⟨w.heap.size,0,none⟩=some (.int .i64 P)∧V.cell? ⟨w.heap.size,1,none⟩=some (.int .i64 M)∧V.cell? ⟨w.heap.size,2,none⟩=some (.slice am mn cm)∧V.cell? ⟨w.heap.size,3,none⟩=some (.int .i64 m)∧V.cell? ⟨w.heap.size,4,none⟩=some (.slice a ntx c)∧V.cell? ⟨w.heap.size+1,0,none⟩=some (.slice asx ntx csx)∧V.cell? ⟨w.heap.size+1,1,none⟩=some (.slice atx ntx ctx)∧V.cell? ⟨ablk atx,aoff atx+k,none⟩=some (.slice tb tn tc))) (by kernel_rfl) ?_ (fun hHeld=>?_)
     ·exact HSr.out _ (Below.refl _ _).drew
     refine wpAnyH_take (i:=0) (v:=?_) (by simp only [List.getElem?_toArray,List.getElem?_cons_succ,List.getElem?_cons_zero];rfl) (by kernel_rfl) (by kernel_rfl) (by kernel_rfl) (by exact fun _ _ _ h=>h) (Or.inl ⟨by rfl,?_⟩) (by assumption) ?_
     rotate_left
     ·(intro w hSw;(try dsimp only at hSw);go_simp;first | done | with_reducible rfl)
     try simp only [Act.put,List.setIfInBounds_toArray,List.set_cons_zero,List.set_cons_succ]
     refine wpAnyH_take (i:=1) (v:=?_) (by simp only [List.getElem?_toArray,List.getElem?_cons_succ,List.getElem?_cons_zero];rfl) (by kernel_rfl) (by kernel_rfl) (by kernel_rfl) (by exact fun _ _ _ h=>h) (Or.inl ⟨by rfl,?_⟩) (by assumption) ?_
     rotate_left
     ·(intro w hSw;(try dsimp only at hSw);go_simp;first | done | with_reducible rfl)
     try simp only [Act.put,List.setIfInBounds_toArray,List.set_cons_zero,List.set_cons_succ]
     refine wpAnyH_take (i:=2) (v:=?_) (by simp only [List.getElem?_toArray,List.getElem?_cons_succ,List.getElem?_cons_zero];rfl) (by kernel_rfl) (by kernel_rfl) (by kernel_rfl) (by exact fun _ _ _ h=>h) (Or.inl ⟨by rfl,?_⟩) (by assumption) ?_
     rotate_left
     ·(intro w hSw;(try dsimp only at hSw);go_simp;first | done | with_reducible rfl)
     try simp only [Act.put,List.setIfInBounds_toArray,List.set_cons_zero,List.set_cons_succ]
     refine wpAnyH_ready (rs:=[3]) (by kernel_rfl) (by simp) ?_
     refine AllReadyH.cons rfl (fun K hK=>?_) AllReadyH.nil
     go_simp
     refine (HRs.out _ (Below.refl _ _).drew).mono ?_;rintro e w4 ⟨rfl,hb4⟩;have hb4 : Below X.heap.size X w4:=Below.next (Below.refl _ _).drew hb4
     go_wp2_with fail
     refine hK.out _ _ ?_ (fun hHeld=>?_)
     ·exact HSr.out _ hb4
     clear hK K
     try simp only [Act.put,List.setIfInBounds_toArray,List.set_cons_zero,List.set_cons_succ]
     refine wpAnyH_take (i:=4) (v:=?_) (by simp only [List.getElem?_toArray,List.getElem?_cons_succ,List.getElem?_cons_zero];rfl) (by kernel_rfl) (by kernel_rfl) (by kernel_rfl) (by exact fun _ _ _ h=>h) (Or.inl ⟨by rfl,?_⟩) (by assumption) ?_
     rotate_left
     ·(intro w hSw;(try dsimp only at hSw);go_simp;first | done | with_reducible rfl)
     try simp only [Act.put,List.setIfInBounds_toArray,List.set_cons_zero,List.set_cons_succ]
     refine wpAnyH_take (i:=5) (v:=?_) (by simp only [List.getElem?_toArray,List.getElem?_cons_succ,List.getElem?_cons_zero];rfl) (by kernel_rfl) (by kernel_rfl) (by kernel_rfl) (by exact fun _ _ _ h=>h) (Or.inl ⟨by rfl,?_⟩) (by assumption) ?_
     rotate_left
     ·(intro w hSw;(try dsimp only at hSw);go_simp;first | done | with_reducible rfl)
     try simp only [Act.put,List.setIfInBounds_toArray,List.set_cons_zero,List.set_cons_succ]
     refine wpAnyH_take (i:=6) (v:=?_) (by simp only [List.getElem?_toArray,List.getElem?_cons_succ,List.getElem?_cons_zero];rfl) (by kernel_rfl) (by kernel_rfl) (by kernel_rfl) (by exact fun _ _ _ h=>h) (Or.inl ⟨by rfl,?_⟩) (by assumption) ?_
     rotate_left
     ·(intro w hSw;(try dsimp only at hSw);go_simp;first | done | with_reducible rfl)
     try simp only [Act.put,List.setIfInBounds_toArray,List.set_cons_zero,List.set_cons_succ]
     refine wpAnyH_take (i:=7) (v:=?_) (by simp only [List.getElem?_toArray,List.getElem?_cons_succ,List.getElem?_cons_zero];rfl) (by kernel_rfl) (by kernel_rfl) (by kernel_rfl) (by exact fun _ _ _ h=>h) (Or.inl ⟨by rfl,?_⟩) (by assumption) ?_
     rotate_left
     ·(intro w hSw;(try dsimp only at hSw);go_simp;first | done | with_reducible rfl)
     try simp only [Act.put,List.setIfInBounds_toArray,List.set_cons_zero,List.set_cons_succ]
     refine wpAnyH_take (i:=9) (v:=?_) (by simp only [List.getElem?_toArray,List.getElem?_cons_succ,List.getElem?_cons_zero];rfl) (by kernel_rfl) (by kernel_rfl) (by kernel_rfl) (by exact fun _ _ _ h=>h) (Or.inl ⟨by rfl,?_⟩) (by assumption) ?_
     rotate_left
     ·(intro w hSw;(try dsimp only at hSw);go_simp;first | done | with_reducible rfl)
     try simp only [Act.put,List.setIfInBounds_toArray,List.set_cons_zero,List.set_cons_succ]
     refine wpAnyH_ready (rs:=[8]) (by kernel_rfl) (by simp) ?_
     refine AllReadyH.cons rfl (fun K hK=>?_) AllReadyH.nil
     go_simp
     refine (HDm.out _ hb4).mono ?_;rintro e w5 ⟨rfl,hb5⟩;have hb5 : Below X.heap.size X w5:=Below.next hb4 hb5
     go_wp2_with fail
     refine hK.out _ _ ?_ (fun hHeld=>?_)
     ·exact HSr.out _ hb5
     clear hK K
     try simp only [Act.put,List.setIfInBounds_toArray,List.set_cons_zero,List.set_cons_succ]
     refine wpAnyH_take (i:=10) (v:=?_) (by simp only [List.getElem?_toArray,List.getElem?_cons_succ,List.getElem?_cons_zero];rfl) (by kernel_rfl) (by kernel_rfl) (by kernel_rfl) (by exact fun _ _ _ h=>h) (Or.inl ⟨by rfl,?_⟩) (by assumption) ?_
     rotate_left
     ·(intro w hSw;(try dsimp only at hSw);go_simp;first | done | with_reducible rfl)
     try simp only [Act.put,List.setIfInBounds_toArray,List.set_cons_zero,List.set_cons_succ]
     refine wpAnyH_take (i:=11) (v:=?_) (by simp only [List.getElem?_toArray,List.getElem?_cons_succ,List.getElem?_cons_zero];rfl) (by kernel_rfl) (by kernel_rfl) (by kernel_rfl) (by exact fun _ _ _ h=>h) (Or.inl ⟨by rfl,?_⟩) (by assumption) ?_
     rotate_left
     ·(intro w hSw;(try dsimp only at hSw);go_simp;first | done | with_reducible rfl)
     try simp only [Act.put,List.setIfInBounds_toArray,List.set_cons_zero,List.set_cons_succ]
     refine wpAnyH_take (i:=12) (v:=?_) (by simp only [List.getElem?_toArray,List.getElem?_cons_succ,List.getElem?_cons_zero];rfl) (by kernel_rfl) (by kernel_rfl) (by kernel_rfl) (by exact fun _ _ _ h=>h) (Or.inl ⟨by rfl,?_⟩) (by assumption) ?_
     rotate_left
     ·(intro w hSw;(try dsimp only at hSw);go_simp;first | done | with_reducible rfl)
     try simp only [Act.put,List.setIfInBounds_toArray,List.set_cons_zero,List.set_cons_succ]
     refine wpAnyH_take (i:=13) (v:=undef) (by simp only [List.getElem?_toArray,List.getElem?_cons_succ,List.getElem?_cons_zero];rfl) (by kernel_rfl) (by kernel_rfl) (by kernel_rfl) (by exact fun _ _ _ h=>h) (Or.inr ⟨by rfl,rfl⟩) (by assumption) ?_
     try simp only [Act.put,List.setIfInBounds_toArray,List.set_cons_zero,List.set_cons_succ]
     refine wpAnyH_take (i:=14) (v:=undef) (by simp only [List.getElem?_toArray,List.getElem?_cons_succ,List.getElem?_cons_zero];rfl) (by kernel_rfl) (by kernel_rfl) (by kernel_rfl) (by exact fun _ _ _ h=>h) (Or.inr ⟨by rfl,rfl⟩) (by assumption) ?_
     try simp only [Act.put,List.setIfInBounds_toArray,List.set_cons_zero,List.set_cons_succ]
     refine wpAnyH_take (i:=15) (v:=undef) (by simp only [List.getElem?_toArray,List.getElem?_cons_succ,List.getElem?_cons_zero];rfl) (by kernel_rfl) (by kernel_rfl) (by kernel_rfl) (by exact fun _ _ _ h=>h) (Or.inr ⟨by rfl,rfl⟩) (by assumption) ?_
     try simp only [Act.put,List.setIfInBounds_toArray,List.set_cons_zero,List.set_cons_succ]
     refine wpAnyH_take (i:=16) (v:=undef) (by simp only [List.getElem?_toArray,List.getElem?_cons_succ,List.getElem?_cons_zero];rfl) (by kernel_rfl) (by kernel_rfl) (by kernel_rfl) (by exact fun _ _ _ h=>h) (Or.inr ⟨by rfl,rfl⟩) (by assumption) ?_
     try simp only [Act.put,List.setIfInBounds_toArray,List.set_cons_zero,List.set_cons_succ]
     refine wpAnyH_take (i:=17) (v:=undef) (by simp only [List.getElem?_toArray,List.getElem?_cons_succ,List.getElem?_cons_zero];rfl) (by kernel_rfl) (by kernel_rfl) (by kernel_rfl) (by exact fun _ _ _ h=>h) (Or.inr ⟨by rfl,rfl⟩) (by assumption) ?_
     try simp only [Act.put,List.setIfInBounds_toArray,List.set_cons_zero,List.set_cons_succ]
     refine wpAnyH_take (i:=18) (v:=undef) (by simp only [List.getElem?_toArray,List.getElem?_cons_succ,List.getElem?_cons_zero];rfl) (by kernel_rfl) (by kernel_rfl) (by kernel_rfl) (by exact fun _ _ _ h=>h) (Or.inr ⟨by rfl,rfl⟩) (by assumption) ?_
     try simp only [Act.put,List.setIfInBounds_toArray,List.set_cons_zero,List.set_cons_succ]
     refine wpAnyH_take (i:=19) (v:=undef) (by simp only [List.getElem?_toArray,List.getElem?_cons_succ,List.getElem?_cons_zero];rfl) (by kernel_rfl) (by kernel_rfl) (by kernel_rfl) (by exact fun _ _ _ h=>h) (Or.inr ⟨by rfl,rfl⟩) (by assumption) ?_
     try simp only [Act.put,List.setIfInBounds_toArray,List.set_cons_zero,List.set_cons_succ]
     refine wpAnyH_take (i:=20) (v:=undef) (by simp only [List.getElem?_toArray,List.getElem?_cons_succ,List.getElem?_cons_zero];rfl) (by kernel_rfl) (by kernel_rfl) (by kernel_rfl) (by exact fun _ _ _ h=>h) (Or.inr ⟨by rfl,rfl⟩) (by assumption) ?_
     try simp only [Act.put,List.setIfInBounds_toArray,List.set_cons_zero,List.set_cons_succ]
     refine wpAnyH_take (i:=21) (v:=undef) (by simp only [List.getElem?_toArray,List.getElem?_cons_succ,List.getElem?_cons_zero];rfl) (by kernel_rfl) (by kernel_rfl) (by kernel_rfl) (by exact fun _ _ _ h=>h) (Or.inr ⟨by rfl,rfl⟩) (by assumption) ?_
     try simp only [Act.put,List.setIfInBounds_toArray,List.set_cons_zero,List.set_cons_succ]
     refine wpAnyH_take (i:=22) (v:=undef) (by simp only [List.getElem?_toArray,List.getElem?_cons_succ,List.getElem?_cons_zero];rfl) (by kernel_rfl) (by kernel_rfl) (by kernel_rfl) (by exact fun _ _ _ h=>h) (Or.inr ⟨by rfl,rfl⟩) (by assumption) ?_
     try simp only [Act.put,List.setIfInBounds_toArray,List.set_cons_zero,List.set_cons_succ]
     refine wpAnyH_take (i:=23) (v:=undef) (by simp only [List.getElem?_toArray,List.getElem?_cons_succ,List.getElem?_cons_zero];rfl) (by kernel_rfl) (by kernel_rfl) (by kernel_rfl) (by exact fun _ _ _ h=>h) (Or.inr ⟨by rfl,rfl⟩) (by assumption) ?_
     try simp only [Act.put,List.setIfInBounds_toArray,List.set_cons_zero,List.set_cons_succ]
     refine wpAnyH_take (i:=24) (v:=undef) (by simp only [List.getElem?_toArray,List.getElem?_cons_succ,List.getElem?_cons_zero];rfl) (by kernel_rfl) (by kernel_rfl) (by kernel_rfl) (by exact fun _ _ _ h=>h) (Or.inr ⟨by rfl,rfl⟩) (by assumption) ?_
     try simp only [Act.put,List.setIfInBounds_toArray,List.set_cons_zero,List.set_cons_succ]
     refine wpAnyH_take (i:=25) (v:=undef) (by simp only [List.getElem?_toArray,List.getElem?_cons_succ,List.getElem?_cons_zero];rfl) (by kernel_rfl) (by kernel_rfl) (by kernel_rfl) (by exact fun _ _ _ h=>h) (Or.inr ⟨by rfl,rfl⟩) (by assumption) ?_
     try simp only [Act.put,List.setIfInBounds_toArray,List.set_cons_zero,List.set_cons_succ]
     refine wpAnyH_take (i:=26) (v:=undef) (by simp only [List.getElem?_toArray,List.getElem?_cons_succ,List.getElem?_cons_zero];rfl) (by kernel_rfl) (by kernel_rfl) (by kernel_rfl) (by exact fun _ _ _ h=>h) (Or.inr ⟨by rfl,rfl⟩) (by assumption) ?_
     try simp only [Act.put,List.setIfInBounds_toArray,List.set_cons_zero,List.set_cons_succ]
     refine wpAnyH_take (i:=27) (v:=undef) (by simp only [List.getElem?_toArray,List.getElem?_cons_succ,List.getElem?_cons_zero];rfl) (by kernel_rfl) (by kernel_rfl) (by kernel_rfl) (by exact fun _ _ _ h=>h) (Or.inr ⟨by rfl,rfl⟩) (by assumption) ?_
     try simp only [Act.put,List.setIfInBounds_toArray,List.set_cons_zero,List.set_cons_succ]
     refine wpAnyH_take (i:=28) (v:=undef) (by simp only [List.getElem?_toArray,List.getElem?_cons_succ,List.getElem?_cons_zero];rfl) (by kernel_rfl) (by kernel_rfl) (by kernel_rfl) (by exact fun _ _ _ h=>h) (Or.inr ⟨by rfl,rfl⟩) (by assumption) ?_
     try simp only [Act.put,List.setIfInBounds_toArray,List.set_cons_zero,List.set_cons_succ]
     refine wpAnyH_take (i:=29) (v:=?_) (by simp only [List.getElem?_toArray,List.getElem?_cons_succ,List.getElem?_cons_zero];rfl) (by kernel_rfl) (by kernel_rfl) (by kernel_rfl) (by exact fun _ _ _ h=>h) (Or.inl ⟨by rfl,?_⟩) (by assumption) ?_
     rotate_left
     ·(intro w hSw;(try dsimp only at hSw);go_simp;first | done | with_reducible rfl)
     try simp only [Act.put,List.setIfInBounds_toArray,List.set_cons_zero,List.set_cons_succ]
     refine wpAnyH_done (by kernel_rfl) ?_ _
     go_wp2_with fail
     go_meet
     exact ⟨rfl,hb5⟩
    obtain ⟨rfl,hbc⟩:=hcut
    have HF:=Lib.hid (HR.out wc hbc)
    go_wp2_with fail
    go_ret2
    exact HF.out
   have g5 : decide (d<r)=false:=by simpa using hdr
   obtain ⟨er,her⟩ : ∃ er,ck ((ntx : Int) - r+1) ((rn : Int) - 1) ts=er:=⟨_,rfl⟩
   have HB2d:=Lib.hid (HB2k.out er)
   have HB3d : Hid (ck ((ntx : Int) - r+1) ((rn : Int) - 1) ts=0→hb k=true):=fun h=>HB3k.out rfl (by omega) h
   rw [her] at HCkk HB3d HB2d
   clear her hdr
   go_cut [71] (fun v wx=>v = .bool (er != 0)∧Below X.heap.size X wx)
   case first =>
    go_region_held3 (fun V=>V.cell? ⟨w.heap.size,0,none⟩=some (.int .i64 P)∧V.cell? ⟨w.heap.size,1,none⟩=some (.int .i64 M)∧V.cell? ⟨w.heap.size,2,none⟩=some (.slice am mn cm)∧V.cell? ⟨w.heap.size,3,none⟩=some (.int .i64 m)∧V.cell? ⟨w.heap.size,4,none⟩=some (.slice a ntx c)∧V.cell? ⟨w.heap.size+1,0,none⟩=some (.slice asx ntx csx)∧V.cell? ⟨w.heap.size+1,1,none⟩=some (.slice atx ntx ctx)∧V.cell? ⟨ablk atx,aoff atx+k,none⟩=some (.slice tb tn tc))
     ((refine HSr.out _ ?_;first | exact (Below.refl _ _).drew | exact hb6 | exact hb5 | exact hb4))
     (first
      | (go_at_call 79;((with_reducible refine (HRs.out _ (Below.refl _ _).drew).mono ?_);rintro e w4 ⟨rfl,hb4'⟩;have hb4 : Below X.heap.size X w4:=Below.next (Below.refl _ _).drew hb4'))
      | (go_at_call 75;((with_reducible refine (HDm.out _ hb4).mono ?_);rintro e w5 ⟨rfl,hb5'⟩;have hb5 : Below X.heap.size X w5:=Below.next hb4 hb5'))
      | (go_at_call 88;((with_reducible refine (HCkk.out _ hb5).mono ?_);rintro e w6 ⟨rfl,hb6'⟩;have hb6 : Below X.heap.size X w6:=Below.next hb5 hb6')))
    go_wp2_with fail
    go_meet
    exact ⟨rfl,hb6⟩
   obtain ⟨rfl,hbX⟩:=hcut
   by_cases h0 : er=0
   ·subst h0
    have HStn : Hid (H (k+1)=true):=HStk.out (HB3d.out rfl)
    have hbm : Below w1.heap.size w1 (wc.alloc (.cells #[.int .i64 rn] 3)):=Below.next (Below.next Hbr.out hbX) (below1 _ _)
    have hop:=own_keep Hown.out (Below.next hbX (below1 wc (.cells #[.int .i64 rn] 3)))
    have hcn:=cell_new wc (.int .i64 rn) 3
    have hs8:=hbm.size
    go_wp2_with (at_builtin;refine wpList_push rfl _ _ 22 3 rfl (.int .i64 0) 8 Tryz.underlying22 infoInt rfl w1.heap.size a1 k c1 _ rfl hop ⟨wc.heap.size,0,none⟩ 1 (.int .i64 rn) rfl hcn rfl (by omega) (by unfold maxLen;omega) hs8 ?_;intro a5 c5 w5 hown5 hgr5 hap5)
    go_roundw
    case rel =>
     refine ⟨k+1,a5,c5,by omega,?_,rfl,by rw [HWk.out];simpa using hown5,HStn.out,Below.app hbm hop hgr5 (Nat.le_refl _) hs8⟩
     have:=Hr.out
     congr 1
     omega
    case measure =>
     have:=Hr.out
     simp [intOf] <;> omega
   ·have HF:=Lib.hid (HRk.out wc (HB2d.out rfl h0) (Below.next HU1.out hbX))
    have g6 : (er != 0)=true:=by simpa using h0
    clear h0
    go_wp2_with fail
    go_ret2
    exact HF.out
  ·obtain rfl : k=ntx:=by omega
   have g1 : decide ((k : Int)+1≤(k : Int))=false:=by simp;omega
   have HF:=Lib.hid (HOk.out a1 c1 wr Hk.out hown hbr)
   clear hown hbr
   go_wp2_with fail
   go_ret2
   exact HF.out
end

section
open Go.RowKit
def hckX (P M : Int) (mod : List Int) (N : Int) (L SS : List (List Int)) (TT : List (List (List Int))) : List Int:=if hcE P M mod N L SS TT=0 then lenL SS L.length else []
theorem hck_u {P M : Int} {mod : List Int} {N : Int} {L SS : List (List Int)} {TT : List (List (List Int))} {w w' : World} {e : Ending} (h : HChkPost P M mod N L.length L SS TT w e w') :
  PairU (hcE P M mod N L SS TT) (hckX P M mod N L SS TT) w e w':=by
 obtain ⟨hb,⟨h0,rfl⟩ | ⟨h0,a,c,rfl,h1⟩⟩:=h
 ·exact pair_no hb h0
 ·exact pair_ok hb h0 (Ints.own h1).1
end

end Go.Proofs.YtcflcogbpnmjeaaGreat
