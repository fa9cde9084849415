/- The arguments, opened: a number with a tree; pairs of numbers below 2 to the 32nd. -/
import Derived.Test.YtapjcccpokhhhaaGreatK36
import Derived.Test.YtapjcccpokhhhaaGreatK30
import Derived.Test.YtapjcccpokhhhaaGreatK21
import Derived.Test.YtapjcccpokhhhaaGreatK16
import Derived.WalkKit
import Derived.ProofKit
import Derived.OpenShut
import Derived.ShutString
import Derived.ChangeOld
import Derived.Below
import Derived.Deep.Matrix
namespace Go.Proofs.YtapjcccpokhhhaaGreat
set_option linter.unusedVariables false
set_option linter.unusedSimpArgs false
set_option linter.unusedSectionVars false

/- The walks of few of the law 26 and of Few of the reference's exclusion. -/
section
open Go.RowKit

set_option maxRecDepth 100000 in
set_option maxHeartbeats 3200000 in
theorem few26_any (P M : Int) (am : Option Addr) (mn cm : Nat) (N : Int) (a : Option Addr) (n c : Nat) (L : List (List Int)) (w : World) (hi : Mat w a n L) :
    Calls Tryz.prog 15 #[.agg #[.int .i64 P, .int .i64 M, .slice am mn cm, .int .i64 N, .slice a n c]] w (SomeBool w) := by
  have H : Hid (∀ V, Below w.heap.size w V → Calls Tryz.prog 49 #[.agg #[.int .i64 P, .int .i64 M, .slice am mn cm, .int .i64 N, .slice a n c], .int .i64 100] V (SomeBool V)) := fun V hV => rFew12_any P M am mn cm N a n c 100 L V (hi.keep hV) (by omega)
  clear hi
  go_enter Tryz.func15, Tryz.ntmps15
  go_upto_region 1 with fail
  obtain ⟨W, hW⟩ : ∃ W : World, W = w.alloc (.cells #[.int .i64 P, .int .i64 M, .slice am mn cm, .int .i64 N, .slice a n c] 27) := ⟨_, rfl⟩
  rw [← hW]
  have hbW : Below w.heap.size w W := by rw [hW]; exact below1 _ _
  have x0 : Box W w.heap.size [.int .i64 P, .int .i64 M, .slice am mn cm, .int .i64 N, .slice a n c] := by rw [hW]; exact Box.new _ _ _ rfl
  have HX := Lib.hid x0
  have c0 := x0.cell 0 rfl
  have c1 := x0.cell 1 rfl
  have c2 := x0.cell 2 rfl
  have c3 := x0.cell 3 rfl
  have c4 := x0.cell 4 rfl
  clear hW x0
  have Hf := Lib.hid (H.out W hbW)
  clear H
  by_cases h1 : N ≤ 14
  · have d1 : decide (N ≤ 14) = true := by simpa using h1
    clear h1
    go_wp2_with (go_at_call 49; refine Hf.out.mono ?_; rintro e w1 ⟨z, rfl, hb1⟩; have q1 := (HX.out.keep hb1).cell 3 rfl; have hF := Below.next hbW hb1; cases z)
    all_goals (go_wp2_with fail; go_ret; exact ⟨_, rfl, hF⟩)
  · have d1 : decide (N ≤ 14) = false := by simpa using h1
    clear h1
    by_cases h2 : 64 < N
    · have d2 : decide (64 < N) = true := by simpa using h2
      clear h2
      go_wp2_with (go_at_call 49; refine Hf.out.mono ?_; rintro e w1 ⟨z, rfl, hb1⟩; have q1 := (HX.out.keep hb1).cell 3 rfl; have hF := Below.next hbW hb1; cases z)
      all_goals (go_wp2_with fail; go_ret; exact ⟨_, rfl, hF⟩)
    · have d2 : decide (64 < N) = false := by simpa using h2
      clear h2
      go_wp2_with (go_at_call 49; refine Hf.out.mono ?_; rintro e w1 ⟨z, rfl, hb1⟩; have q1 := (HX.out.keep hb1).cell 3 rfl; have hF := Below.next hbW hb1; cases z)
      all_goals (go_wp2_with fail; go_ret; exact ⟨_, rfl, hF⟩)


theorem rFew26_any (ax : Option Addr) (nx cx : Nat) (ts : List (List Int)) (w : World) (h : Mat w ax nx ts) : Calls Tryz.prog 16 #[.agg #[.slice ax nx cx]] w (SomeBool w) := by
  have HF := Lib.hid (fun V (hV : Below w.heap.size w V) => rFew9_any ax nx cx 20000 ts V (h.keep hV) (by omega))
  clear h
  go_enter Tryz.func16, Tryz.ntmps16
  go_wp2_with fail
  refine (HF.out _ (below1 _ _)).mono ?_
  rintro e w1 ⟨z, rfl, hb1⟩
  have hF := Below.next (below1 w (.cells #[.slice ax nx cx] 30)) hb1
  go_wp2_with fail
  go_ret
  exact ⟨z, rfl, hF⟩
end

/- The walk of ExclusionBuilds. -/
section
open Go.RowKit

theorem Box.other {w : World} {b : Nat} {cs : List Value} (h : Box w b cs) {g i : Nat} (v : Value) (hb : b ≠ g) : Box (w.setCell ⟨g, i, none⟩ v) b cs := by
  refine ⟨by rw [World.size_setCell]; exact h.1, fun j x hx => ?_, fun j => ?_⟩
  · rw [World.cell?_setCell_other _ _ _ _ (by simp <;> omega)]
    exact h.2.1 j x hx
  · rw [World.frozen?_setCell]
    exact h.2.2 j

theorem bld_chk {P M : Int} {mod : List Int} {N : Int} {L : List (List Int)} {mm W : Int} (h : (bldRE P M mod N L mm W).1 = 0) : chkRE P M mod N L mm W (bldRE P M mod N L mm W).2 = 0 := by
  unfold bldRE chkRE at *
  by_cases h0 : rkcE P M mod N L mm W = 0
  · rw [if_pos h0] at h ⊢
    rw [if_pos h0]
    refine tree_prov ?_
    rw [← h]
  · rw [if_neg h0] at h
    exact absurd h h0

def BldP (T : List (List Int)) (er : Int) (V : World) (e : Ending) (w' : World) : Prop := ∃ av nv cv R, e = .returned (.tuple #[.agg #[.slice av nv cv], .int .i64 er]) ∧ OMat w' V.heap.size av nv cv R T ∧ Below V.heap.size V w'
theorem ExBldPost.bldP {V : Int × List (List Int)} {w w' : World} {e : Ending} (h : ExBldPost V w e w') : BldP (if V.1 = 0 then V.2 else []) V.1 w e w' := by
  obtain ⟨hb, ⟨h1, rfl⟩ | ⟨h1, ar, cr, R, rfl, hO⟩⟩ := h
  · rw [if_neg h1]
    exact ⟨none, 0, 0, [], rfl, OMat.nul _ _, hb⟩
  · rw [if_pos h1]
    exact ⟨ar, _, cr, R, by rw [h1], hO, hb⟩

set_option maxRecDepth 100000 in
set_option maxHeartbeats 1600000 in
theorem small26_any (P M : Int) (am : Option Addr) (mn cm : Nat) (N : Int) (a : Option Addr) (n c : Nat) (W : Int) (w : World) :
    Calls Tryz.prog 19 #[.agg #[.int .i64 P, .int .i64 M, .slice am mn cm, .int .i64 N, .slice a n c], .int .i64 W] w (SomeBool w) := by
  go_enter Tryz.func19, Tryz.ntmps19
  go_upto_region 1 with fail
  obtain ⟨U, hU⟩ : ∃ U : World, U = w.alloc (.cells #[.int .i64 P, .int .i64 M, .slice am mn cm, .int .i64 N, .slice a n c] 27) := ⟨_, rfl⟩
  rw [← hU]
  have hbU : Below w.heap.size w U := by rw [hU]; exact below1 _ _
  have x0 : Box U w.heap.size [.int .i64 P, .int .i64 M, .slice am mn cm, .int .i64 N, .slice a n c] := by rw [hU]; exact Box.new _ _ _ rfl
  have c3 := x0.cell 3 rfl
  have c4 := x0.cell 4 rfl
  clear hU x0
  by_cases h1 : W < 0
  · have d1 : decide (W < 0) = true := by simpa using h1
    clear h1
    go_wp2_with fail
    go_ret
    exact ⟨_, rfl, hbU⟩
  have d1 : decide (W < 0) = false := by simpa using h1
  by_cases h2 : N < W
  · have d2 : decide (N < W) = true := by simpa using h2
    clear h1 h2
    go_wp2_with fail
    go_ret
    exact ⟨_, rfl, hbU⟩
  have d2 : decide (N < W) = false := by simpa using h2
  by_cases h3 : 64 < N
  · have d3 : decide (64 < N) = true := by simpa using h3
    clear h1 h2 h3
    go_wp2_with fail
    go_ret
    exact ⟨_, rfl, hbU⟩
  have d3 : decide (64 < N) = false := by simpa using h3
  obtain ⟨W', rfl⟩ : ∃ W' : Nat, W = W' := ⟨W.toNat, by omega⟩
  have HSm := Lib.hid (rSmall26_any n W' (by omega) U)
  clear h1 h2 h3
  go_wp2_with fail
  refine HSm.out.mono ?_
  rintro e w1 ⟨z, rfl, rfl⟩
  go_wp2_with fail
  go_ret
  exact ⟨z, rfl, hbU⟩

set_option maxRecDepth 100000 in
set_option maxHeartbeats 8000000 in
theorem exLawBuilds_any (P M : Int) (am : Option Addr) (mn cm : Nat) (mod : List Int) (N : Int) (a : Option Addr) (n c : Nat) (L : List (List Int)) (z1 z2 : Int) (w : World)
    (hmod : Ints w am mn mod) (hi : Mat w a n L) :
    Calls Tryz.prog 4 #[.agg #[.int .i64 P, .int .i64 M, .slice am mn cm, .int .i64 N, .slice a n c], .int .i64 z1, .int .i64 z2] w fun e w' => e = .returned (.bool true) ∧ Below w.heap.size w w' := by
  have HF : Hid (∀ V, Below w.heap.size w V → Calls Tryz.prog 15 #[.agg #[.int .i64 P, .int .i64 M, .slice am mn cm, .int .i64 N, .slice a n c]] V (SomeBool V)) :=
    fun V hV => few26_any P M am mn cm N a n c L V (hi.keep hV)
  obtain ⟨e1, T1, HB1, HR1, HC1⟩ : ∃ (e1 : Int) (T1 : List (List Int)), Hid (∀ V, Below w.heap.size w V → Calls Tryz.prog 20 #[.agg #[.int .i64 P, .int .i64 M, .slice am mn cm, .int .i64 N, .slice a n c], .int .i64 z1, .int .i64 z2] V (BldP T1 e1 V)) ∧
      Hid (∀ V, Below w.heap.size w V → Calls Tryz.prog 21 #[.agg #[.int .i64 P, .int .i64 M, .slice am mn cm, .int .i64 N, .slice a n c], .int .i64 z1, .int .i64 z2] V (BldP T1 e1 V)) ∧
      Hid (e1 = 0 → ∀ V ax nx cx, Below w.heap.size w V → Mat V ax nx T1 → Calls Tryz.prog 17 #[.agg #[.int .i64 P, .int .i64 M, .slice am mn cm, .int .i64 N, .slice a n c], .int .i64 z1, .int .i64 z2, .agg #[.slice ax nx cx]] V fun e w' => e = .returned (.int .i64 0) ∧ Below V.heap.size V w') := by
    refine ⟨_, _, fun V hV => (exBuildRank_any P M am mn cm mod N a n c L z1 z2 V (hmod.keep hV) (hi.keep hV)).mono fun e w' h => h.bldP, fun V hV => (rBuildRank26_any P M am mn cm mod N a n c L z1 z2 V (hmod.keep hV) (hi.keep hV)).mono fun e w' h => h.bldP, fun h V ax nx cx hV hM => ?_⟩
    rw [if_pos h] at hM
    have h2 := exCheckRank_any P M am mn cm mod N a n c L z1 z2 ax nx cx _ V (hmod.keep hV) (hi.keep hV) hM
    rw [bld_chk h] at h2
    exact h2
  obtain ⟨e2, T2, HB2, HR2, HC2⟩ : ∃ (e2 : Int) (T2 : List (List Int)), Hid (∀ V, Below w.heap.size w V → Calls Tryz.prog 23 #[.agg #[.int .i64 P, .int .i64 M, .slice am mn cm, .int .i64 N, .slice a n c], .int .i64 z2] V (BldP T2 e2 V)) ∧
      Hid (∀ V, Below w.heap.size w V → Calls Tryz.prog 24 #[.agg #[.int .i64 P, .int .i64 M, .slice am mn cm, .int .i64 N, .slice a n c], .int .i64 z2] V (BldP T2 e2 V)) ∧
      Hid (e2 = 0 → ∀ V ax nx cx, Below w.heap.size w V → Mat V ax nx T2 → Calls Tryz.prog 25 #[.agg #[.int .i64 P, .int .i64 M, .slice am mn cm, .int .i64 N, .slice a n c], .int .i64 z2, .agg #[.slice ax nx cx]] V fun e w' => e = .returned (.int .i64 0) ∧ Below V.heap.size V w') := by
    refine ⟨_, _, fun V hV => (exBuildDistance_any P M am mn cm mod N a n c L z2 V (hmod.keep hV) (hi.keep hV)).mono fun e w' h => h.bldP, fun V hV => (rBuildDistance26_any P M am mn cm mod N a n c L z2 V (hmod.keep hV) (hi.keep hV)).mono fun e w' h => h.bldP, fun h V ax nx cx hV hM => ?_⟩
    rw [if_pos h] at hM
    have h2 := exCheckDistance_any P M am mn cm mod N a n c L z2 ax nx cx _ V (hmod.keep hV) (hi.keep hV) hM
    rw [bld_chk h] at h2
    exact h2
  clear hmod hi
  go_enter Tryz.func4, Tryz.ntmps4
  go_wp2_with fail
  obtain ⟨W, hW⟩ : ∃ W : World, W = w.alloc (.cells #[.int .i64 P, .int .i64 M, .slice am mn cm, .int .i64 N, .slice a n c] 27) := ⟨_, rfl⟩
  rw [← hW]
  have hbW : Below w.heap.size w W := by rw [hW]; exact below1 _ _
  have x0 : Box W w.heap.size [.int .i64 P, .int .i64 M, .slice am mn cm, .int .i64 N, .slice a n c] := by rw [hW]; exact Box.new _ _ _ rfl
  have HS : Hid (∀ V, Below W.heap.size W V → V.cell? ⟨w.heap.size, 0, none⟩ = some (.int .i64 P) ∧ V.cell? ⟨w.heap.size, 1, none⟩ = some (.int .i64 M) ∧ V.cell? ⟨w.heap.size, 2, none⟩ = some (.slice am mn cm) ∧ V.cell? ⟨w.heap.size, 3, none⟩ = some (.int .i64 N) ∧ V.cell? ⟨w.heap.size, 4, none⟩ = some (.slice a n c)) := fun V hV => by
    have x1 := x0.keep hV
    exact ⟨x1.cell 0 rfl, x1.cell 1 rfl, x1.cell 2 rfl, x1.cell 3 rfl, x1.cell 4 rfl⟩
  have HbW := Lib.hid hbW
  clear hW x0 hbW
  refine (awake26_any W).mono ?_
  rintro e w1 ⟨rfl, hb1⟩
  obtain ⟨c0, c1, c2, c3, c4⟩ := HS.out w1 hb1
  go_wp2_with fail
  refine (HF.out w1 (Below.next HbW.out hb1)).mono ?_
  rintro e w2 ⟨z, rfl, hb2⟩
  have hB2 := Below.next hb1 hb2
  clear c0 c1 c2 c3 c4 HF
  cases z
  · go_wp2_with fail
    refine (awake26_any w2).mono ?_
    rintro e wz ⟨rfl, hbz⟩
    have hF := Below.next HbW.out (Below.next hB2 hbz)
    go_wp2_with fail
    go_ret
    exact ⟨rfl, hF⟩
  obtain ⟨c0, c1, c2, c3, c4⟩ := HS.out w2 hB2
  go_wp2_with fail
  refine (small26_any P M am mn cm N a n c z2 w2).mono ?_
  rintro e w3 ⟨z, rfl, hb3⟩
  have hB3 := Below.next hB2 hb3
  clear c0 c1 c2 c3 c4
  cases z
  · go_wp2_with fail
    refine (awake26_any w3).mono ?_
    rintro e wz ⟨rfl, hbz⟩
    have hF := Below.next HbW.out (Below.next hB3 hbz)
    go_wp2_with fail
    go_ret
    exact ⟨rfl, hF⟩
  obtain ⟨c0, c1, c2, c3, c4⟩ := HS.out w3 hB3
  go_wp2_with fail
  refine (HB1.out w3 (Below.next HbW.out hB3)).mono ?_
  rintro e w4 ⟨av, nv, cv, Rv, rfl, hO4, hb4⟩
  have hB4 := Below.next hB3 hb4
  clear c0 c1 c2 c3 c4 HB1
  obtain ⟨U4, hU4⟩ : ∃ U : World, U = w4.alloc (.cells #[.slice av nv cv] 30) := ⟨_, rfl⟩
  have hb4' : Below w4.heap.size w4 U4 := by rw [hU4]; exact below1 _ _
  have hX4 : Box U4 w4.heap.size [.slice av nv cv] := by rw [hU4]; exact Box.new _ _ _ rfl
  have hBU4 := Below.next hB4 hb4'
  obtain ⟨c0, c1, c2, c3, c4⟩ := HS.out U4 hBU4
  rw [hU4] at c0 c1 c2 c3 c4
  have HU4 := Lib.hid hU4
  clear hU4
  go_wp2_with fail
  rw [← HU4.out]
  refine (HR1.out U4 (Below.next HbW.out hBU4)).mono ?_
  rintro e w5 ⟨bv, nb, cb, Rb, rfl, hO5, hb5⟩
  have hB5 := Below.next hBU4 hb5
  clear c0 c1 c2 c3 c4 HR1
  obtain ⟨U5, hU5⟩ : ∃ U : World, U = w5.alloc (.cells #[.slice bv nb cb] 30) := ⟨_, rfl⟩
  have hb5' : Below w5.heap.size w5 U5 := by rw [hU5]; exact below1 _ _
  have hX5 : Box U5 w5.heap.size [.slice bv nb cb] := by rw [hU5]; exact Box.new _ _ _ rfl
  have hX4' := (hX4.keep hb5).keep hb5'
  have hBU5 := Below.next hB5 hb5'
  have hMa := ((hO4.mat.keep hb4').keep hb5).keep hb5'
  have hMb := hO5.mat.keep hb5'
  have hs45 : w4.heap.size < w5.heap.size := by have h1 := hX4.1; have h2 := hb5.size; omega
  have HX := Lib.hid (And.intro hX4' (And.intro hX5 (And.intro hMa hMb)))
  have HZ : Hid (∀ V, Below U5.heap.size U5 V → (V.cell? ⟨w.heap.size, 0, none⟩ = some (.int .i64 P) ∧ V.cell? ⟨w.heap.size, 1, none⟩ = some (.int .i64 M) ∧ V.cell? ⟨w.heap.size, 2, none⟩ = some (.slice am mn cm) ∧ V.cell? ⟨w.heap.size, 3, none⟩ = some (.int .i64 N) ∧ V.cell? ⟨w.heap.size, 4, none⟩ = some (.slice a n c)) ∧ V.cell? ⟨w4.heap.size, 0, none⟩ = some (.slice av nv cv) ∧ V.cell? ⟨w5.heap.size, 0, none⟩ = some (.slice bv nb cb)) := fun V hV =>
    ⟨HS.out V (Below.next hBU5 hV), (HX.out.1.keep hV).cell 0 rfl, (HX.out.2.1.keep hV).cell 0 rfl⟩
  have Hsz := Lib.hid (And.intro hs45 (And.intro hB4.size hB5.size))
  obtain ⟨⟨c0, c1, c2, c3, c4⟩, d0, f0⟩ := HZ.out U5 (Below.refl _ _)
  rw [hU5] at c0 c1 c2 c3 c4 d0 f0
  have HU5 := Lib.hid hU5
  have e0 : (e1 != e1) = false := by simp
  have hX4'0 := Lib.hid hX4'.1
  clear hU5 hX4 hX5 hX4' hMa hMb hO4 hO5 hs45 HU4
  go_upto_region 5 with fail
  rw [← HU5.out] at c0 c1 c2 c3 c4 d0 f0
  go_cut [59] (fun v wx => v = .bool false ∧ Below U5.heap.size U5 wx)
  case first =>
    rw [← HU5.out]
    by_cases h1 : e1 = 0
    · have HC := Lib.hid (HC1.out h1)
      subst h1
      go_wp2_with fail
      refine (rSame26_any av nv cv T1 bv nb cb T1 U5 HX.out.2.2.1 HX.out.2.2.2).mono ?_
      rintro e w6 ⟨rfl, hb6⟩
      have ht1 : decide (T1 = T1) = true := by simp
      rw [ht1]
      clear c0 c1 c2 c3 c4 d0 f0 ht1
      obtain ⟨⟨c0, c1, c2, c3, c4⟩, d0, f0⟩ := HZ.out w6 hb6
      have Hck := Lib.hid (HC.out w6 av nv cv (Below.next HbW.out (Below.next hBU5 hb6)) (HX.out.2.2.1.keep hb6))
      clear HC
      go_wp2_with fail
      refine Hck.out.mono ?_
      rintro e w7 ⟨rfl, hb7⟩
      have hb67 := Below.next hb6 hb7
      clear c0 c1 c2 c3 c4 d0 f0
      go_wp2_with fail
      go_meet
      exact ⟨rfl, hb67⟩
    · have e3 : (e1 == 0) = false := by simpa using h1
      clear h1
      go_wp2_with fail
      refine (rSame26_any av nv cv T1 bv nb cb T1 U5 HX.out.2.2.1 HX.out.2.2.2).mono ?_
      rintro e w6 ⟨rfl, hb6⟩
      have ht1 : decide (T1 = T1) = true := by simp
      rw [ht1]
      clear c0 c1 c2 c3 c4 d0 f0 ht1
      go_wp2_with fail
      go_meet
      exact ⟨rfl, hb6⟩
  obtain ⟨rfl, hb7⟩ := hcut
  generalize wc = w7 at *
  clear c0 c1 c2 c3 c4 d0 f0
  obtain ⟨⟨c0, c1, c2, c3, c4⟩, d0, f0⟩ := HZ.out w7 hb7
  have hB7 := Below.next hBU5 hb7
  go_wp2_with fail
  refine (HB2.out w7 (Below.next HbW.out hB7)).mono ?_
  rintro e w8 ⟨av2, nv2, cv2, Rv2, rfl, hO8, hb8⟩
  clear c0 c1 c2 c3 c4 d0 f0 HB2
  have hb78 := Below.next hb7 hb8
  have hB8 := Below.next hBU5 hb78
  have hX8 := HX.out.1.keep hb78
  have hY8 := HX.out.2.1.keep hb78
  have d0 := hX8.cell 0 rfl
  have fd := hX8.frozen 0
  obtain ⟨U8, hU8⟩ : ∃ U : World, U = w8.setCell ⟨w4.heap.size, 0, none⟩ (.slice av2 nv2 cv2) := ⟨_, rfl⟩
  have hs7 := hb7.size
  have hs5 := hX4'0.out
  have hBU8 : Below W.heap.size W U8 := by rw [hU8]; exact hB8.setCell (by have := Hsz.out.2.1; simpa using this) _
  have hX8' : Box U8 w4.heap.size [.slice av2 nv2 cv2] := by rw [hU8]; exact hX8.setCell 0 _
  have hne : w5.heap.size ≠ w4.heap.size := by have := Hsz.out.1; omega
  have hY8' : Box U8 w5.heap.size [.slice bv nb cb] := by rw [hU8]; exact hY8.other _ hne
  have hO8' : OMat U8 w7.heap.size av2 nv2 cv2 Rv2 T2 := by rw [hU8]; exact hO8.setOther (by simp only []; omega) _
  obtain ⟨c0, c1, c2, c3, c4⟩ := HS.out U8 hBU8
  rw [hU8] at c0 c1 c2 c3 c4
  have HU8 := Lib.hid hU8
  have HB8 := Lib.hid (And.intro hX8' (And.intro hY8' hO8'))
  clear hU8 hX8 hY8 hX8' hY8' hO8' hO8 hne hs5
  go_wp2_with fail
  rw [← HU8.out]
  refine (HR2.out U8 (Below.next HbW.out hBU8)).mono ?_
  rintro e w9 ⟨bv2, nb2, cb2, Rb2, rfl, hO9, hb9⟩
  clear c0 c1 c2 c3 c4 HR2 d0 fd
  have hB9 := Below.next hBU8 hb9
  have hX9 := HB8.out.1.keep hb9
  have hY9 := HB8.out.2.1.keep hb9
  have hM9 := HB8.out.2.2.mat.keep hb9
  have d0 := hY9.cell 0 rfl
  have fd := hY9.frozen 0
  obtain ⟨U9, hU9⟩ : ∃ U : World, U = w9.setCell ⟨w5.heap.size, 0, none⟩ (.slice bv2 nb2 cb2) := ⟨_, rfl⟩
  have hs9 : w5.heap.size < U8.heap.size := HB8.out.2.1.1
  have hs4 : w4.heap.size < U8.heap.size := HB8.out.1.1
  have hBU9 : Below W.heap.size W U9 := by rw [hU9]; exact hB9.setCell (by have := Hsz.out.2.2; simpa using this) _
  have hY9' : Box U9 w5.heap.size [.slice bv2 nb2 cb2] := by rw [hU9]; exact hY9.setCell 0 _
  have hX9' : Box U9 w4.heap.size [.slice av2 nv2 cv2] := by rw [hU9]; exact hX9.other _ (by have := Hsz.out.1; omega)
  have hO9' : Mat U9 bv2 nb2 T2 := by rw [hU9]; exact (hO9.setOther (by simp only []; omega) _).mat
  have hM9' : Mat U9 av2 nv2 T2 := by
    rw [hU9]
    refine (OMat.of_blocks (HB8.out.2.2.keep hb9) fun x hx => Below.heap_setCell _ _ _ _ fun e => ?_).mat
    have h1 := HB8.out.2.2.lt x hx
    have e' : x = w5.heap.size := e
    have h2 := Hsz.out.1
    have h3 := HX.out.2.1.1
    omega
  have HZ9 : Hid (∀ V, Below U9.heap.size U9 V → (V.cell? ⟨w.heap.size, 0, none⟩ = some (.int .i64 P) ∧ V.cell? ⟨w.heap.size, 1, none⟩ = some (.int .i64 M) ∧ V.cell? ⟨w.heap.size, 2, none⟩ = some (.slice am mn cm) ∧ V.cell? ⟨w.heap.size, 3, none⟩ = some (.int .i64 N) ∧ V.cell? ⟨w.heap.size, 4, none⟩ = some (.slice a n c)) ∧ V.cell? ⟨w4.heap.size, 0, none⟩ = some (.slice av2 nv2 cv2) ∧ V.cell? ⟨w5.heap.size, 0, none⟩ = some (.slice bv2 nb2 cb2)) := fun V hV =>
    ⟨HS.out V (Below.next hBU9 hV), (hX9'.keep hV).cell 0 rfl, (hY9'.keep hV).cell 0 rfl⟩
  obtain ⟨⟨c0, c1, c2, c3, c4⟩, p0, q0⟩ := HZ9.out U9 (Below.refl _ _)
  rw [hU9] at c0 c1 c2 c3 c4 p0 q0
  have HU9 := Lib.hid hU9
  have HM9 := Lib.hid (And.intro hM9' hO9')
  have e4 : (e2 == e2) = true := by simp
  clear hU9 hX9 hY9 hM9 hX9' hY9' hO9' hM9' hO9
  go_upto_region 9 with fail
  rw [← HU9.out] at c0 c1 c2 c3 c4 p0 q0 ⊢
  by_cases h1 : e2 = 0
  · have HC := Lib.hid (HC2.out h1)
    subst h1
    go_wp2_with fail
    refine (rSame26_any av2 nv2 cv2 T2 bv2 nb2 cb2 T2 U9 HM9.out.1 HM9.out.2).mono ?_
    rintro e w10 ⟨rfl, hb10⟩
    have ht1 : decide (T2 = T2) = true := by simp
    rw [ht1]
    clear c0 c1 c2 c3 c4 p0 q0 ht1
    obtain ⟨⟨c0, c1, c2, c3, c4⟩, p0, q0⟩ := HZ9.out w10 hb10
    have Hck := Lib.hid (HC.out w10 av2 nv2 cv2 (Below.next HbW.out (Below.next hBU9 hb10)) (HM9.out.1.keep hb10))
    clear HC
    go_wp2_with fail
    refine Hck.out.mono ?_
    rintro e w11 ⟨rfl, hb11⟩
    have hF := Below.next HbW.out (Below.next hBU9 (Below.next hb10 hb11))
    clear c0 c1 c2 c3 c4 p0 q0
    go_wp2_with fail
    go_ret
    exact ⟨rfl, hF⟩
  · have e3 : (e2 != 0) = true := by simpa using h1
    clear h1
    go_wp2_with fail
    refine (rSame26_any av2 nv2 cv2 T2 bv2 nb2 cb2 T2 U9 HM9.out.1 HM9.out.2).mono ?_
    rintro e w10 ⟨rfl, hb10⟩
    have ht1 : decide (T2 = T2) = true := by simp
    rw [ht1]
    have hF := Below.next HbW.out (Below.next hBU9 hb10)
    clear c0 c1 c2 c3 c4 p0 q0 ht1
    go_wp2_with fail
    go_ret
    exact ⟨rfl, hF⟩
end

/- The walks of ExclusionCoset and ExclusionCosets. -/
section
open Go.RowKit

theorem bldC_chk {P M : Int} {mod : List Int} {N : Int} {L : List (List Int)} {y : List Int} {W : Int} (h : (bldCE P M mod N L y W).1 = 0) : chkCE P M mod N L y W (bldCE P M mod N L y W).2 = 0 := by
  unfold bldCE chkCE at *
  by_cases h0 : cosE P M mod N L y W = 0
  · rw [if_pos h0] at h ⊢
    rw [if_pos h0]
    refine tree_prov ?_
    rw [← h]
  · rw [if_neg h0] at h
    exact absurd h h0

set_option maxRecDepth 100000 in
set_option maxHeartbeats 8000000 in
theorem exLawCoset_any (P M : Int) (am : Option Addr) (mn cm : Nat) (mod : List Int) (N : Int) (a : Option Addr) (n c : Nat) (L : List (List Int)) (ay : Option Addr) (ny cy : Nat) (y : List Int) (zw : Int) (ax : Option Addr) (nx cx : Nat) (ts : List (List Int)) (w : World)
    (hmod : Ints w am mn mod) (hi : Mat w a n L) (hy : Ints w ay ny y) (hts : Mat w ax nx ts) (hnc : nx ≤ cx) :
    Calls Tryz.prog 6 #[.agg #[.int .i64 P, .int .i64 M, .slice am mn cm, .int .i64 N, .slice a n c], .slice ay ny cy, .agg #[.int .i64 zw, .slice ax nx cx]] w fun e w' => e = .returned (.bool true) ∧ Below w.heap.size w w' := by
  have HF : Hid (∀ V, Below w.heap.size w V → Calls Tryz.prog 15 #[.agg #[.int .i64 P, .int .i64 M, .slice am mn cm, .int .i64 N, .slice a n c]] V (SomeBool V)) :=
    fun V hV => few26_any P M am mn cm N a n c L V (hi.keep hV)
  have HF2 : Hid (∀ V, Below w.heap.size w V → Calls Tryz.prog 16 #[.agg #[.slice ax nx cx]] V (SomeBool V)) :=
    fun V hV => rFew26_any ax nx cx ts V (hts.keep hV)
  obtain ⟨r, hr⟩ : ∃ r, chkCE P M mod N L y zw ts = r := ⟨_, rfl⟩
  have HX1 : Hid (∀ V, Below w.heap.size w V → Calls Tryz.prog 27 #[.agg #[.int .i64 P, .int .i64 M, .slice am mn cm, .int .i64 N, .slice a n c], .slice ay ny cy, .int .i64 zw, .agg #[.slice ax nx cx]] V fun e w' => e = .returned (.int .i64 r) ∧ Below V.heap.size V w') := fun V hV => by
    rw [← hr]; exact exCheckCoset_any P M am mn cm mod N a n c L ay ny cy y zw ax nx cx ts V (hmod.keep hV) (hi.keep hV) (hy.keep hV) (hts.keep hV)
  have HX2 : Hid (∀ V, Below w.heap.size w V → Calls Tryz.prog 28 #[.agg #[.int .i64 P, .int .i64 M, .slice am mn cm, .int .i64 N, .slice a n c], .slice ay ny cy, .int .i64 zw, .agg #[.slice ax nx cx]] V fun e w' => e = .returned (.int .i64 r) ∧ Below V.heap.size V w') := fun V hV => by
    rw [← hr]; exact rCheckCoset26_any P M am mn cm mod N a n c L ay ny cy y zw ax nx cx ts V (hmod.keep hV) (hi.keep hV) (hy.keep hV) (hts.keep hV) hnc
  clear hmod hi hy hts hr
  go_enter Tryz.func6, Tryz.ntmps6
  go_wp2_with fail
  obtain ⟨W, hW⟩ : ∃ W : World, W = (w.alloc (.cells #[.int .i64 P, .int .i64 M, .slice am mn cm, .int .i64 N, .slice a n c] 27)).alloc (.cells #[.int .i64 zw, .slice ax nx cx] 46) := ⟨_, rfl⟩
  rw [← hW]
  have hbW : Below w.heap.size w W := by rw [hW]; exact below2 _ _ _
  have x0 : Box W w.heap.size [.int .i64 P, .int .i64 M, .slice am mn cm, .int .i64 N, .slice a n c] := by rw [hW]; exact (Box.new _ _ _ rfl).alloc _
  have t0 : Box W (w.heap.size + 1) [.int .i64 zw, .slice ax nx cx] := by rw [hW]; exact Box.new _ _ _ (by simp)
  have HS : Hid (∀ V, Below W.heap.size W V → V.cell? ⟨w.heap.size, 0, none⟩ = some (.int .i64 P) ∧ V.cell? ⟨w.heap.size, 1, none⟩ = some (.int .i64 M) ∧ V.cell? ⟨w.heap.size, 2, none⟩ = some (.slice am mn cm) ∧ V.cell? ⟨w.heap.size, 3, none⟩ = some (.int .i64 N) ∧ V.cell? ⟨w.heap.size, 4, none⟩ = some (.slice a n c) ∧
      V.cell? ⟨w.heap.size + 1, 0, none⟩ = some (.int .i64 zw) ∧ V.cell? ⟨w.heap.size + 1, 1, none⟩ = some (.slice ax nx cx) ∧ Below W.heap.size W V) := fun V hV => by
    have x1 := x0.keep hV
    have t1 := t0.keep hV
    exact ⟨x1.cell 0 rfl, x1.cell 1 rfl, x1.cell 2 rfl, x1.cell 3 rfl, x1.cell 4 rfl, t1.cell 0 rfl, t1.cell 1 rfl, hV⟩
  have HbW := Lib.hid hbW
  clear hW x0 hbW t0
  refine (awake26_any W).mono ?_
  rintro e w1 ⟨rfl, hb1⟩
  obtain ⟨c0, c1, c2, c3, c4, d0, d1, _⟩ := HS.out w1 hb1
  go_wp2_with fail
  refine (HF.out w1 (Below.next HbW.out hb1)).mono ?_
  rintro e w2 ⟨z, rfl, hb2⟩
  have hB2 := Below.next hb1 hb2
  clear c0 c1 c2 c3 c4 d0 d1 HF
  cases z
  · go_wp2_with fail
    refine (awake26_any w2).mono ?_
    rintro e w3 ⟨rfl, hb3⟩
    have hF := Below.next HbW.out (Below.next hB2 hb3)
    go_wp2_with fail
    go_ret
    exact ⟨rfl, hF⟩
  by_cases hno : 100 < ny
  · have hd : decide ((100 : Int) < ny) = true := by simp; omega
    clear hno
    go_wp2_with fail
    refine (awake26_any w2).mono ?_
    rintro e w3 ⟨rfl, hb3⟩
    have hF := Below.next HbW.out (Below.next hB2 hb3)
    go_wp2_with fail
    go_ret
    exact ⟨rfl, hF⟩
  have hd100 : decide ((100 : Int) < ny) = false := by simp; omega
  clear hno
  obtain ⟨c0, c1, c2, c3, c4, d0, d1, _⟩ := HS.out w2 hB2
  go_wp2_with fail
  refine (HF2.out w2 (Below.next HbW.out hB2)).mono ?_
  rintro e w4 ⟨z, rfl, hb4⟩
  have hB4 := Below.next hB2 hb4
  clear c0 c1 c2 c3 c4 d0 d1 HF2
  cases z
  · go_wp2_with fail
    refine (awake26_any w4).mono ?_
    rintro e w3 ⟨rfl, hb3⟩
    have hF := Below.next HbW.out (Below.next hB4 hb3)
    go_wp2_with fail
    go_ret
    exact ⟨rfl, hF⟩
  obtain ⟨c0, c1, c2, c3, c4, d0, d1, _⟩ := HS.out w4 hB4
  have e1 : (r == r) = true := by simp
  go_upto_region 3 with fail
  go_cut [6] (fun v wx => v = .bool true ∧ Below W.heap.size W wx)
  case first =>
    go_region_held3 (fun V => V.cell? ⟨w.heap.size, 0, none⟩ = some (.int .i64 P) ∧ V.cell? ⟨w.heap.size, 1, none⟩ = some (.int .i64 M) ∧ V.cell? ⟨w.heap.size, 2, none⟩ = some (.slice am mn cm) ∧ V.cell? ⟨w.heap.size, 3, none⟩ = some (.int .i64 N) ∧ V.cell? ⟨w.heap.size, 4, none⟩ = some (.slice a n c) ∧
        V.cell? ⟨w.heap.size + 1, 0, none⟩ = some (.int .i64 zw) ∧ V.cell? ⟨w.heap.size + 1, 1, none⟩ = some (.slice ax nx cx) ∧ Below W.heap.size W V)
      ((refine HS.out _ ?_; first | exact hb7w | exact hb5w | exact Below.next hB4 (Below.refl _ _).drew | assumption | (go_split_ands; assumption)))
      (first
      | (go_at_call 27; ((with_reducible refine (HX1.out _ (Below.next HbW.out (by go_split_ands; assumption))).mono ?_); rintro e w5 ⟨rfl, hb5⟩; have hb5w : Below W.heap.size W w5 := (by go_split_ands; exact Below.next (by assumption) hb5)))
      | (go_at_call 28; ((with_reducible refine (HX2.out _ (Below.next HbW.out (by go_split_ands; assumption))).mono ?_); rintro e w7 ⟨rfl, hb7⟩; have hb7w : Below W.heap.size W w7 := (by go_split_ands; exact Below.next (by assumption) hb7))))
    all_goals (go_wp2_with fail; go_meet; first | exact ⟨rfl, hb7w⟩ | exact ⟨rfl, hb5w⟩)
  obtain ⟨rfl, hbc⟩ := hcut
  have hF := Below.next HbW.out hbc
  go_wp2_with fail
  go_ret
  exact ⟨rfl, hF⟩

set_option maxRecDepth 100000 in
set_option maxHeartbeats 8000000 in
theorem exLawCosets_any (P M : Int) (am : Option Addr) (mn cm : Nat) (mod : List Int) (N : Int) (a : Option Addr) (n c : Nat) (L : List (List Int)) (ay : Option Addr) (ny cy : Nat) (y : List Int) (z2 : Int) (w : World)
    (hmod : Ints w am mn mod) (hi : Mat w a n L) (hy : Ints w ay ny y) :
    Calls Tryz.prog 7 #[.agg #[.int .i64 P, .int .i64 M, .slice am mn cm, .int .i64 N, .slice a n c], .slice ay ny cy, .int .i64 z2] w fun e w' => e = .returned (.bool true) ∧ Below w.heap.size w w' := by
  have HF : Hid (∀ V, Below w.heap.size w V → Calls Tryz.prog 15 #[.agg #[.int .i64 P, .int .i64 M, .slice am mn cm, .int .i64 N, .slice a n c]] V (SomeBool V)) :=
    fun V hV => few26_any P M am mn cm N a n c L V (hi.keep hV)
  obtain ⟨e1, T1, HB1, HR1, HC1⟩ : ∃ (e1 : Int) (T1 : List (List Int)), Hid (∀ V, Below w.heap.size w V → Calls Tryz.prog 29 #[.agg #[.int .i64 P, .int .i64 M, .slice am mn cm, .int .i64 N, .slice a n c], .slice ay ny cy, .int .i64 z2] V (BldP T1 e1 V)) ∧
      Hid (∀ V, Below w.heap.size w V → Calls Tryz.prog 30 #[.agg #[.int .i64 P, .int .i64 M, .slice am mn cm, .int .i64 N, .slice a n c], .slice ay ny cy, .int .i64 z2] V (BldP T1 e1 V)) ∧
      Hid (e1 = 0 → ∀ V ax nx cx, Below w.heap.size w V → Mat V ax nx T1 → Calls Tryz.prog 27 #[.agg #[.int .i64 P, .int .i64 M, .slice am mn cm, .int .i64 N, .slice a n c], .slice ay ny cy, .int .i64 z2, .agg #[.slice ax nx cx]] V fun e w' => e = .returned (.int .i64 0) ∧ Below V.heap.size V w') := by
    refine ⟨_, _, fun V hV => (exBuildCoset_any P M am mn cm mod N a n c L ay ny cy y z2 V (hmod.keep hV) (hi.keep hV) (hy.keep hV)).mono fun e w' h => h.bldP, fun V hV => (rBuildCoset26_any P M am mn cm mod N a n c L ay ny cy y z2 V (hmod.keep hV) (hi.keep hV) (hy.keep hV)).mono fun e w' h => h.bldP, fun h V ax nx cx hV hM => ?_⟩
    rw [if_pos h] at hM
    have h2 := exCheckCoset_any P M am mn cm mod N a n c L ay ny cy y z2 ax nx cx _ V (hmod.keep hV) (hi.keep hV) (hy.keep hV) hM
    rw [bldC_chk h] at h2
    exact h2
  clear hmod hi hy
  go_enter Tryz.func7, Tryz.ntmps7
  go_wp2_with fail
  obtain ⟨W, hW⟩ : ∃ W : World, W = w.alloc (.cells #[.int .i64 P, .int .i64 M, .slice am mn cm, .int .i64 N, .slice a n c] 27) := ⟨_, rfl⟩
  rw [← hW]
  have hbW : Below w.heap.size w W := by rw [hW]; exact below1 _ _
  have x0 : Box W w.heap.size [.int .i64 P, .int .i64 M, .slice am mn cm, .int .i64 N, .slice a n c] := by rw [hW]; exact Box.new _ _ _ rfl
  have HS : Hid (∀ V, Below W.heap.size W V → V.cell? ⟨w.heap.size, 0, none⟩ = some (.int .i64 P) ∧ V.cell? ⟨w.heap.size, 1, none⟩ = some (.int .i64 M) ∧ V.cell? ⟨w.heap.size, 2, none⟩ = some (.slice am mn cm) ∧ V.cell? ⟨w.heap.size, 3, none⟩ = some (.int .i64 N) ∧ V.cell? ⟨w.heap.size, 4, none⟩ = some (.slice a n c)) := fun V hV => by
    have x1 := x0.keep hV
    exact ⟨x1.cell 0 rfl, x1.cell 1 rfl, x1.cell 2 rfl, x1.cell 3 rfl, x1.cell 4 rfl⟩
  have HbW := Lib.hid hbW
  clear hW x0 hbW
  refine (awake26_any W).mono ?_
  rintro e w1 ⟨rfl, hb1⟩
  obtain ⟨c0, c1, c2, c3, c4⟩ := HS.out w1 hb1
  go_wp2_with fail
  refine (HF.out w1 (Below.next HbW.out hb1)).mono ?_
  rintro e w2 ⟨z, rfl, hb2⟩
  have hB2 := Below.next hb1 hb2
  clear c0 c1 c2 c3 c4 HF
  cases z
  · go_wp2_with fail
    refine (awake26_any w2).mono ?_
    rintro e wz ⟨rfl, hbz⟩
    have hF := Below.next HbW.out (Below.next hB2 hbz)
    go_wp2_with fail
    go_ret
    exact ⟨rfl, hF⟩
  by_cases hno : 100 < ny
  · have hd : decide ((100 : Int) < ny) = true := by simp; omega
    clear hno
    go_wp2_with fail
    refine (awake26_any w2).mono ?_
    rintro e wz ⟨rfl, hbz⟩
    have hF := Below.next HbW.out (Below.next hB2 hbz)
    go_wp2_with fail
    go_ret
    exact ⟨rfl, hF⟩
  have hd100 : decide ((100 : Int) < ny) = false := by simp; omega
  clear hno
  obtain ⟨c0, c1, c2, c3, c4⟩ := HS.out w2 hB2
  go_wp2_with fail
  refine (small26_any P M am mn cm N a n c z2 w2).mono ?_
  rintro e w3 ⟨z, rfl, hb3⟩
  have hB3 := Below.next hB2 hb3
  clear c0 c1 c2 c3 c4
  cases z
  · go_wp2_with fail
    refine (awake26_any w3).mono ?_
    rintro e wz ⟨rfl, hbz⟩
    have hF := Below.next HbW.out (Below.next hB3 hbz)
    go_wp2_with fail
    go_ret
    exact ⟨rfl, hF⟩
  obtain ⟨c0, c1, c2, c3, c4⟩ := HS.out w3 hB3
  go_wp2_with fail
  refine (HB1.out w3 (Below.next HbW.out hB3)).mono ?_
  rintro e w4 ⟨av, nv, cv, Rv, rfl, hO4, hb4⟩
  have hB4 := Below.next hB3 hb4
  clear c0 c1 c2 c3 c4 HB1
  obtain ⟨U4, hU4⟩ : ∃ U : World, U = w4.alloc (.cells #[.slice av nv cv] 30) := ⟨_, rfl⟩
  have hb4' : Below w4.heap.size w4 U4 := by rw [hU4]; exact below1 _ _
  have hX4 : Box U4 w4.heap.size [.slice av nv cv] := by rw [hU4]; exact Box.new _ _ _ rfl
  have hBU4 := Below.next hB4 hb4'
  obtain ⟨c0, c1, c2, c3, c4⟩ := HS.out U4 hBU4
  rw [hU4] at c0 c1 c2 c3 c4
  have HU4 := Lib.hid hU4
  clear hU4
  go_wp2_with fail
  rw [← HU4.out]
  refine (HR1.out U4 (Below.next HbW.out hBU4)).mono ?_
  rintro e w5 ⟨bv, nb, cb, Rb, rfl, hO5, hb5⟩
  have hB5 := Below.next hBU4 hb5
  clear c0 c1 c2 c3 c4 HR1
  obtain ⟨U5, hU5⟩ : ∃ U : World, U = w5.alloc (.cells #[.slice bv nb cb] 30) := ⟨_, rfl⟩
  have hb5' : Below w5.heap.size w5 U5 := by rw [hU5]; exact below1 _ _
  have hX5 : Box U5 w5.heap.size [.slice bv nb cb] := by rw [hU5]; exact Box.new _ _ _ rfl
  have hX4' := (hX4.keep hb5).keep hb5'
  have hBU5 := Below.next hB5 hb5'
  have hMa := ((hO4.mat.keep hb4').keep hb5).keep hb5'
  have hMb := hO5.mat.keep hb5'
  have hs45 : w4.heap.size < w5.heap.size := by have h1 := hX4.1; have h2 := hb5.size; omega
  have HX := Lib.hid (And.intro hX4' (And.intro hX5 (And.intro hMa hMb)))
  have HZ : Hid (∀ V, Below U5.heap.size U5 V → (V.cell? ⟨w.heap.size, 0, none⟩ = some (.int .i64 P) ∧ V.cell? ⟨w.heap.size, 1, none⟩ = some (.int .i64 M) ∧ V.cell? ⟨w.heap.size, 2, none⟩ = some (.slice am mn cm) ∧ V.cell? ⟨w.heap.size, 3, none⟩ = some (.int .i64 N) ∧ V.cell? ⟨w.heap.size, 4, none⟩ = some (.slice a n c)) ∧ V.cell? ⟨w4.heap.size, 0, none⟩ = some (.slice av nv cv) ∧ V.cell? ⟨w5.heap.size, 0, none⟩ = some (.slice bv nb cb)) := fun V hV =>
    ⟨HS.out V (Below.next hBU5 hV), (HX.out.1.keep hV).cell 0 rfl, (HX.out.2.1.keep hV).cell 0 rfl⟩
  have Hsz := Lib.hid (And.intro hs45 (And.intro hB4.size hB5.size))
  obtain ⟨⟨c0, c1, c2, c3, c4⟩, d0, f0⟩ := HZ.out U5 (Below.refl _ _)
  rw [hU5] at c0 c1 c2 c3 c4 d0 f0
  have HU5 := Lib.hid hU5
  have e0 : (e1 == e1) = true := by simp
  have hX4'0 := Lib.hid hX4'.1
  clear hU5 hX4 hX5 hX4' hMa hMb hO4 hO5 hs45 HU4
  go_upto_region 5 with fail
  rw [← HU5.out] at c0 c1 c2 c3 c4 d0 f0 ⊢
  by_cases h1 : e1 = 0
  · have HC := Lib.hid (HC1.out h1)
    subst h1
    go_wp2_with fail
    refine (rSame26_any av nv cv T1 bv nb cb T1 U5 HX.out.2.2.1 HX.out.2.2.2).mono ?_
    rintro e w6 ⟨rfl, hb6⟩
    have ht1 : decide (T1 = T1) = true := by simp
    rw [ht1]
    clear c0 c1 c2 c3 c4 d0 f0 ht1
    obtain ⟨⟨c0, c1, c2, c3, c4⟩, d0, f0⟩ := HZ.out w6 hb6
    have Hck := Lib.hid (HC.out w6 av nv cv (Below.next HbW.out (Below.next hBU5 hb6)) (HX.out.2.2.1.keep hb6))
    clear HC
    go_wp2_with fail
    refine Hck.out.mono ?_
    rintro e w7 ⟨rfl, hb7⟩
    have hF := Below.next HbW.out (Below.next hBU5 (Below.next hb6 hb7))
    clear c0 c1 c2 c3 c4 d0 f0
    go_wp2_with fail
    go_ret
    exact ⟨rfl, hF⟩
  · have e3 : (e1 != 0) = true := by simpa using h1
    clear h1
    go_wp2_with fail
    refine (rSame26_any av nv cv T1 bv nb cb T1 U5 HX.out.2.2.1 HX.out.2.2.2).mono ?_
    rintro e w6 ⟨rfl, hb6⟩
    have ht1 : decide (T1 = T1) = true := by simp
    rw [ht1]
    have hF := Below.next HbW.out (Below.next hBU5 hb6)
    clear c0 c1 c2 c3 c4 d0 f0 ht1
    go_wp2_with fail
    go_ret
    exact ⟨rfl, hF⟩
end

/- The walk of codewrightlaw48.alive. -/
section
open Go.RowKit
end

/- The arguments, opened: numbers, lists, lists of lists, codes. -/
section
open Go.ChangeShapes Go.WideShapes Go.ChangeAt Go.RowKit

theorem Tryz.own : ownKnob Tryz.prog.godebug = none := by kernel_rfl
theorem Tryz.laid : laidOutB Tryz.prog = true := by kernel_rfl

section
variable {H : Type} {enc : TypeId × Value → H} {W : World} {held : Bool} {fuel : Nat} {cs : List Value} {x : DataW H × List MemPlace}

theorem add_cell {a : Addr} {v : Value} {i : Nat} (h : W.cell? (a.add i) = some v) : W.cell? ⟨a.block, a.off + i, none⟩ = some v := by
  have hs := World.cell?_spot h
  obtain ⟨b, o, s⟩ := a
  by_cases h0 : i = 0
  · subst h0
    simp only [Addr.add, if_true] at hs h
    subst hs
    exact h
  · simpa [Addr.add, h0] using h
theorem plain_of {a : Addr} {v : Value} (h : W.cell? (a.add 0) = some v) : a = ⟨a.block, a.off, none⟩ := by
  have hs := World.cell?_spot h
  obtain ⟨b, o, s⟩ := a
  simp only [Addr.add, if_true] at hs
  subst hs
  rfl
theorem nth_take_getD (l : List Int) (n i : Nat) (h : i < n) : nth (l.take n) i = l.getD i 0 := by
  unfold nth
  simp only [List.getD_eq_getElem?_getD, List.getElem?_take]
  rw [if_pos h]

theorem opened_ints (h : DataW.trod enc Tryz.prog W 0 (fun _ => true) held fuel 22 cs = some x) : ∃ a n c l, cs = [.slice a n c] ∧ Ints W a n l := by
  rcases open_ints Tryz.underlying22 Tryz.underlying3 (by kernel_rfl) h with ⟨hcs, _⟩ | ⟨a, len, cap, zs, hcs, _, hl, hm, hz, _, hcell, _⟩
  · exact ⟨none, 0, 0, [], hcs, Ints.nil _ _⟩
  · simp only [if_true] at hz
    refine ⟨some a, len, cap, zs.take len, hcs, ⟨by simp; omega, fun h0 => ?_, by omega, fun i hi => ?_⟩⟩
    · exact congrArg some (plain_of (hcell 0 (by omega)))
    · rw [nth_take_getD _ _ _ hi]
      exact add_cell (hcell i (by omega))
theorem opened_mat (h : DataW.trod enc Tryz.prog W 0 (fun _ => true) held fuel 25 cs = some x) : ∃ a n c L, cs = [.slice a n c] ∧ Mat W a n L := by
  rcases Go.Deep.open_int_rows Tryz.underlying25 Tryz.underlying22 Tryz.underlying3 (by kernel_rfl) (by kernel_rfl) h with ⟨hcs, _⟩ | ⟨a, len, cap, A, Ln, C, Z, hcs, _, hl, hm, _, hrows⟩
  · exact ⟨none, 0, 0, [], hcs, ⟨rfl, fun h0 => by omega, by unfold maxLen; omega, fun i hi => by omega⟩⟩
  · refine ⟨some a, len, cap, (List.range len).map (fun r => (Z r).take (Ln r)), hcs, ⟨by simp, fun h0 => congrArg some (plain_of (hrows 0 (by omega)).1), by omega, fun r hr => ?_⟩⟩
    obtain ⟨h1, h2, h3, h4, _, h5, h6⟩ := hrows r (by omega)
    refine ⟨A r, Ln r, C r, add_cell h1, ?_⟩
    have e : nthR ((List.range len).map (fun r => (Z r).take (Ln r))) r = (Z r).take (Ln r) := by
      unfold nthR
      simp [List.getD_eq_getElem?_getD, List.getElem?_map, List.getElem?_range hr]
    rw [e]
    match hA : A r, h5, h6 with
    | none, h5, _ =>
      have h0 : Ln r = 0 := by have := h5 rfl; omega
      rw [h0]
      exact Ints.nil _ _
    | some b, _, h6 =>
      obtain ⟨_, h7⟩ := h6 b rfl
      exact ⟨by simp; omega, fun h0 => congrArg some (plain_of (h7 0 (by omega))), by omega, fun i hi => by
        rw [nth_take_getD _ _ _ hi]
        exact add_cell (h7 i (by omega))⟩
end

section
variable {H : Type} {enc : TypeId × Value → H} {W : World} {held : Bool} {b0 : Nat} {v : Value} {d : DataW H} {p : List MemPlace}

set_option maxRecDepth 100000 in
theorem arg_ints (hv : Value.okWide Tryz.prog W .any b0 22 v) (h : DataW.Trod enc Tryz.prog W 0 (fun _ => true) held 22 v d p) : ∃ a n c l, v = .slice a n c ∧ Ints W a n l := by
  obtain ⟨a, n, c, rfl⟩ := okWide_slice Tryz.underlying22 hv
  obtain ⟨fuel, hf⟩ := h
  obtain ⟨a', n', c', l, e, hi⟩ := opened_ints hf
  simp [Value.cells] at e
  obtain ⟨rfl, rfl, rfl⟩ := e
  exact ⟨_, _, _, l, rfl, hi⟩
set_option maxRecDepth 100000 in
theorem arg_code (hv : Value.okWide Tryz.prog W .any b0 27 v) (h : DataW.Trod enc Tryz.prog W 0 (fun _ => true) held 27 v d p) :
    ∃ (P M : Int) (am : Option Addr) (mn cm : Nat) (mod : List Int) (N : Int) (a : Option Addr) (n c : Nat) (L : List (List Int)), v = .agg #[.int .i64 P, .int .i64 M, .slice am mn cm, .int .i64 N, .slice a n c] ∧ Ints W am mn mod ∧ Mat W a n L := by
  obtain ⟨cs, rfl, hsz⟩ := okWide_struct Tryz.underlying27 hv
  rw [show Tryz.prog.cellsOf 27 = 5 by kernel_rfl] at hsz
  obtain ⟨l⟩ := cs
  match l, hsz with
  | [v0, v1, v2, v3, v4], _ =>
  obtain ⟨fuel, hf⟩ := h
  obtain ⟨xs, n0, _, _, _, hlen, hfs⟩ := DataW.trod_struct Tryz.underlying27 hf
  obtain ⟨y0, y1, y2, rfl⟩ : ∃ y0 y1 y2, xs = [y0, y1, y2] := by
    match xs, hlen with
    | [y0, y1, y2], _ => exact ⟨y0, y1, y2, rfl⟩
  have k24 : Tryz.prog.cellsOf 24 = 3 := by kernel_rfl
  have k3 : Tryz.prog.cellsOf 3 = 1 := by kernel_rfl
  have k22 : Tryz.prog.cellsOf 22 = 1 := by kernel_rfl
  have k25 : Tryz.prog.cellsOf 25 = 1 := by kernel_rfl
  have g0 : DataW.trod enc Tryz.prog W 0 (fun _ => true) held n0 24 [v0, v1, v2] = some y0 := by simpa [Value.cells, k24] using hfs 0 _ rfl
  have g1 : DataW.trod enc Tryz.prog W 0 (fun _ => true) held n0 3 [v3] = some y1 := by simpa [Value.cells, k3] using hfs 1 _ rfl
  have g2 : DataW.trod enc Tryz.prog W 0 (fun _ => true) held n0 25 [v4] = some y2 := by simpa [Value.cells, k25] using hfs 2 _ rfl
  obtain ⟨xs', n1, _, _, _, hlen', hfs'⟩ := DataW.trod_struct Tryz.underlying24 g0
  obtain ⟨z0, z1, z2, rfl⟩ : ∃ z0 z1 z2, xs' = [z0, z1, z2] := by
    match xs', hlen' with
    | [z0, z1, z2], _ => exact ⟨z0, z1, z2, rfl⟩
  have q0 : DataW.trod enc Tryz.prog W 0 (fun _ => true) held n1 3 [v0] = some z0 := by simpa [k3] using hfs' 0 _ rfl
  have q1 : DataW.trod enc Tryz.prog W 0 (fun _ => true) held n1 3 [v1] = some z1 := by simpa [k3] using hfs' 1 _ rfl
  have q2 : DataW.trod enc Tryz.prog W 0 (fun _ => true) held n1 22 [v2] = some z2 := by simpa [k22] using hfs' 2 _ rfl
  obtain ⟨P, eP, _, _⟩ := DataW.trod_int Tryz.underlying3 q0
  obtain ⟨M, eM, _, _⟩ := DataW.trod_int Tryz.underlying3 q1
  obtain ⟨N, eN, _, _⟩ := DataW.trod_int Tryz.underlying3 g1
  obtain ⟨am, mn, cm, mod, eI, hI⟩ := opened_ints q2
  obtain ⟨a, n, c, L, eL, hL⟩ := opened_mat g2
  simp at eP eM eN eI eL
  subst eP eM eN eI eL
  exact ⟨P, M, am, mn, cm, mod, N, a, n, c, L, rfl, hI, hL⟩
end
end

/- The arguments, opened: pairs of numbers, exclusions. -/
section
open Go.ChangeShapes Go.WideShapes Go.ChangeAt Go.RowKit

section
variable {H : Type} {enc : TypeId × Value → H} {W : World} {held : Bool} {fuel : Nat} {cs : List Value} {x : DataW H × List MemPlace}
theorem opened_matC (h : DataW.trod enc Tryz.prog W 0 (fun _ => true) held fuel 25 cs = some x) : ∃ a n c L, cs = [.slice a n c] ∧ Mat W a n L ∧ n ≤ c := by
  obtain ⟨a, n, c, L, e, hL⟩ := opened_mat h
  refine ⟨a, n, c, L, e, hL, ?_⟩
  rcases Go.Deep.open_int_rows Tryz.underlying25 Tryz.underlying22 Tryz.underlying3 (by kernel_rfl) (by kernel_rfl) h with ⟨hcs, _⟩ | ⟨a', len, cap, _, _, _, _, hcs, _, hl, _⟩
  · rw [hcs] at e
    simp at e
    omega
  · rw [hcs] at e
    simp at e
    omega
end

section
variable {H : Type} {enc : TypeId × Value → H} {W : World} {held : Bool} {b0 : Nat} {v : Value} {d : DataW H} {p : List MemPlace}
end
end

/- The arguments, opened: a number with a tree; pairs of numbers below 2 to the 32nd. -/
section
open Go.ChangeShapes Go.WideShapes Go.ChangeAt Go.RowKit

section
variable {H : Type} {enc : TypeId × Value → H} {W : World} {held : Bool} {b0 : Nat} {v : Value} {d : DataW H} {p : List MemPlace}
set_option maxRecDepth 100000 in
theorem arg_proof (hv : Value.okWide Tryz.prog W .any b0 46 v) (h : DataW.Trod enc Tryz.prog W 0 (fun _ => true) held 46 v d p) :
    ∃ (z : Int) (ax : Option Addr) (nx cx : Nat) (ts : List (List Int)), v = .agg #[.int .i64 z, .slice ax nx cx] ∧ Mat W ax nx ts ∧ nx ≤ cx := by
  obtain ⟨cs, rfl, hsz⟩ := okWide_struct Tryz.underlying46 hv
  rw [show Tryz.prog.cellsOf 46 = 2 by kernel_rfl] at hsz
  obtain ⟨l⟩ := cs
  match l, hsz with
  | [v0, v1], _ =>
  obtain ⟨fuel, hf⟩ := h
  obtain ⟨xs, n0, _, _, _, hlen, hfs⟩ := DataW.trod_struct Tryz.underlying46 hf
  obtain ⟨y0, y1, rfl⟩ : ∃ y0 y1, xs = [y0, y1] := by
    match xs, hlen with
    | [y0, y1], _ => exact ⟨y0, y1, rfl⟩
  have k3 : Tryz.prog.cellsOf 3 = 1 := by kernel_rfl
  have k30 : Tryz.prog.cellsOf 30 = 1 := by kernel_rfl
  have k25 : Tryz.prog.cellsOf 25 = 1 := by kernel_rfl
  have g0 : DataW.trod enc Tryz.prog W 0 (fun _ => true) held n0 3 [v0] = some y0 := by simpa [Value.cells, k3] using hfs 0 _ rfl
  have g1 : DataW.trod enc Tryz.prog W 0 (fun _ => true) held n0 30 [v1] = some y1 := by simpa [Value.cells, k30] using hfs 1 _ rfl
  obtain ⟨xs', n1, _, _, _, hlen', hfs'⟩ := DataW.trod_struct Tryz.underlying30 g1
  obtain ⟨y2, rfl⟩ : ∃ y2, xs' = [y2] := by
    match xs', hlen' with
    | [y2], _ => exact ⟨y2, rfl⟩
  have g2 : DataW.trod enc Tryz.prog W 0 (fun _ => true) held n1 25 [v1] = some y2 := by simpa [Value.cells, k25] using hfs' 0 _ rfl
  obtain ⟨z, e, _, _⟩ := DataW.trod_int Tryz.underlying3 g0
  obtain ⟨ax, nx, cx, ts, e1, hM, hc⟩ := opened_matC g2
  simp at e e1
  subst e e1
  exact ⟨z, ax, nx, cx, ts, rfl, hM, hc⟩
end
end

end Go.Proofs.YtapjcccpokhhhaaGreat
