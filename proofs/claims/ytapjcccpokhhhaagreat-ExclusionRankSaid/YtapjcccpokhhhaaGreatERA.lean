/- ExclusionRank: the statement. -/
import Derived.Test.YtapjcccpokhhhaaGreatG33
import Derived.Test.YtapjcccpokhhhaaGreatG29
import Derived.Test.YtapjcccpokhhhaaGreatG34
namespace Go.Proofs.YtapjcccpokhhhaaGreat
set_option linter.unusedVariables false
set_option linter.unusedSimpArgs false
set_option linter.unusedSectionVars false

/- The walk of CheckDistance of the reference's exclusion. -/
section
open Go.RowKit
end

/- The walks of ExclusionRank and ExclusionDistance. -/
section
open Go.RowKit

set_option maxRecDepth 100000 in
set_option maxHeartbeats 3200000 in
theorem few26_any (P M : Int) (am : Option Addr) (mn cm : Nat) (N : Int) (a : Option Addr) (n c : Nat) (L : List (List Int)) (w : World) (hi : Mat w a n L) :
    Calls Tryz.prog 15 #[.agg #[.int .i64 P, .int .i64 M, .slice am mn cm, .int .i64 N, .slice a n c]] w (SomeBool w) := by
  have H : Hid (∀ V, Below w.heap.size w V → Calls Tryz.prog 49 #[.agg #[.int .i64 P, .int .i64 M, .slice am mn cm, .int .i64 N, .slice a n c], .int .i64 100] V (SomeBool V)) := fun V hV => rFew12_any P M am mn cm N a n c 100 L V (hi.keep hV) (by omega)
  clear hi
  go_enter Tryz.func15, Tryz.ntmps15
  go_upto_region 1 with fail
  obtain ⟨W, hW⟩ : ∃ W : World, W = w.alloc (.cells #[.int .i64 P, .int .i64 M, .slice am mn cm, .int .i64 N, .slice a n c] 27) := ⟨_, rfl⟩
  rw [← hW]
  have hbW : Below w.heap.size w W := by rw [hW]; exact below1 _ _
  have x0 : Box W w.heap.size [.int .i64 P, .int .i64 M, .slice am mn cm, .int .i64 N, .slice a n c] := by rw [hW]; exact Box.new _ _ _ rfl
  have HX := Lib.hid x0
  have c0 := x0.cell 0 rfl
  have c1 := x0.cell 1 rfl
  have c2 := x0.cell 2 rfl
  have c3 := x0.cell 3 rfl
  have c4 := x0.cell 4 rfl
  clear hW x0
  have Hf := Lib.hid (H.out W hbW)
  clear H
  by_cases h1 : N ≤ 14
  · have d1 : decide (N ≤ 14) = true := by simpa using h1
    clear h1
    go_wp2_with (go_at_call 49; refine Hf.out.mono ?_; rintro e w1 ⟨z, rfl, hb1⟩; have q1 := (HX.out.keep hb1).cell 3 rfl; have hF := Below.next hbW hb1; cases z)
    all_goals (go_wp2_with fail; go_ret; exact ⟨_, rfl, hF⟩)
  · have d1 : decide (N ≤ 14) = false := by simpa using h1
    clear h1
    by_cases h2 : 64 < N
    · have d2 : decide (64 < N) = true := by simpa using h2
      clear h2
      go_wp2_with (go_at_call 49; refine Hf.out.mono ?_; rintro e w1 ⟨z, rfl, hb1⟩; have q1 := (HX.out.keep hb1).cell 3 rfl; have hF := Below.next hbW hb1; cases z)
      all_goals (go_wp2_with fail; go_ret; exact ⟨_, rfl, hF⟩)
    · have d2 : decide (64 < N) = false := by simpa using h2
      clear h2
      go_wp2_with (go_at_call 49; refine Hf.out.mono ?_; rintro e w1 ⟨z, rfl, hb1⟩; have q1 := (HX.out.keep hb1).cell 3 rfl; have hF := Below.next hbW hb1; cases z)
      all_goals (go_wp2_with fail; go_ret; exact ⟨_, rfl, hF⟩)


theorem rFew26_any (ax : Option Addr) (nx cx : Nat) (ts : List (List Int)) (w : World) (h : Mat w ax nx ts) : Calls Tryz.prog 16 #[.agg #[.slice ax nx cx]] w (SomeBool w) := by
  have HF := Lib.hid (fun V (hV : Below w.heap.size w V) => rFew9_any ax nx cx 20000 ts V (h.keep hV) (by omega))
  clear h
  go_enter Tryz.func16, Tryz.ntmps16
  go_wp2_with fail
  refine (HF.out _ (below1 _ _)).mono ?_
  rintro e w1 ⟨z, rfl, hb1⟩
  have hF := Below.next (below1 w (.cells #[.slice ax nx cx] 30)) hb1
  go_wp2_with fail
  go_ret
  exact ⟨z, rfl, hF⟩

set_option maxRecDepth 100000 in
set_option maxHeartbeats 8000000 in
theorem exLawRank_any (P M : Int) (am : Option Addr) (mn cm : Nat) (mod : List Int) (N : Int) (a : Option Addr) (n c : Nat) (L : List (List Int)) (z1 z2 : Int) (ax : Option Addr) (nx cx : Nat) (ts : List (List Int)) (w : World)
    (hmod : Ints w am mn mod) (hi : Mat w a n L) (hts : Mat w ax nx ts) (hnc : nx ≤ cx) :
    Calls Tryz.prog 3 #[.agg #[.int .i64 P, .int .i64 M, .slice am mn cm, .int .i64 N, .slice a n c], .agg #[.int .i64 z1, .int .i64 z2], .agg #[.slice ax nx cx]] w fun e w' => e = .returned (.bool true) ∧ Below w.heap.size w w' := by
  have HF : Hid (∀ V, Below w.heap.size w V → Calls Tryz.prog 15 #[.agg #[.int .i64 P, .int .i64 M, .slice am mn cm, .int .i64 N, .slice a n c]] V (SomeBool V)) :=
    fun V hV => few26_any P M am mn cm N a n c L V (hi.keep hV)
  have HF2 : Hid (∀ V, Below w.heap.size w V → Calls Tryz.prog 16 #[.agg #[.slice ax nx cx]] V (SomeBool V)) :=
    fun V hV => rFew26_any ax nx cx ts V (hts.keep hV)
  obtain ⟨r, hr⟩ : ∃ r, chkRE P M mod N L z1 z2 ts = r := ⟨_, rfl⟩
  have HX1 : Hid (∀ V, Below w.heap.size w V → Calls Tryz.prog 17 #[.agg #[.int .i64 P, .int .i64 M, .slice am mn cm, .int .i64 N, .slice a n c], .int .i64 z1, .int .i64 z2, .agg #[.slice ax nx cx]] V fun e w' => e = .returned (.int .i64 r) ∧ Below V.heap.size V w') := fun V hV => by
    rw [← hr]; exact exCheckRank_any P M am mn cm mod N a n c L z1 z2 ax nx cx ts V (hmod.keep hV) (hi.keep hV) (hts.keep hV)
  have HX2 : Hid (∀ V, Below w.heap.size w V → Calls Tryz.prog 18 #[.agg #[.int .i64 P, .int .i64 M, .slice am mn cm, .int .i64 N, .slice a n c], .int .i64 z1, .int .i64 z2, .agg #[.slice ax nx cx]] V fun e w' => e = .returned (.int .i64 r) ∧ Below V.heap.size V w') := fun V hV => by
    rw [← hr]; exact rCheckRank26_any P M am mn cm mod N a n c L z1 z2 ax nx cx ts V (hmod.keep hV) (hi.keep hV) (hts.keep hV) hnc
  clear hmod hi hts hr
  go_enter Tryz.func3, Tryz.ntmps3
  go_wp2_with fail
  obtain ⟨W, hW⟩ : ∃ W : World, W = ((w.alloc (.cells #[.int .i64 P, .int .i64 M, .slice am mn cm, .int .i64 N, .slice a n c] 27)).alloc (.cells #[.int .i64 z1, .int .i64 z2] 28)).alloc (.cells #[.slice ax nx cx] 30) := ⟨_, rfl⟩
  rw [← hW]
  have hbW : Below w.heap.size w W := by rw [hW]; exact below3 _ _ _ _
  have x0 : Box W w.heap.size [.int .i64 P, .int .i64 M, .slice am mn cm, .int .i64 N, .slice a n c] := by rw [hW]; exact ((Box.new _ _ _ rfl).alloc _).alloc _
  have y0 : Box W (w.heap.size + 1) [.int .i64 z1, .int .i64 z2] := by rw [hW]; exact (Box.new _ _ _ (by simp)).alloc _
  have t0 : Box W (w.heap.size + 1 + 1) [.slice ax nx cx] := by rw [hW]; exact Box.new _ _ _ (by simp)
  have HS : Hid (∀ V, Below W.heap.size W V → V.cell? ⟨w.heap.size, 0, none⟩ = some (.int .i64 P) ∧ V.cell? ⟨w.heap.size, 1, none⟩ = some (.int .i64 M) ∧ V.cell? ⟨w.heap.size, 2, none⟩ = some (.slice am mn cm) ∧ V.cell? ⟨w.heap.size, 3, none⟩ = some (.int .i64 N) ∧ V.cell? ⟨w.heap.size, 4, none⟩ = some (.slice a n c) ∧
      V.cell? ⟨w.heap.size + 1, 0, none⟩ = some (.int .i64 z1) ∧ V.cell? ⟨w.heap.size + 1, 1, none⟩ = some (.int .i64 z2) ∧ V.cell? ⟨w.heap.size + 1 + 1, 0, none⟩ = some (.slice ax nx cx) ∧ Below W.heap.size W V) := fun V hV => by
    have x1 := x0.keep hV
    have y1 := y0.keep hV
    exact ⟨x1.cell 0 rfl, x1.cell 1 rfl, x1.cell 2 rfl, x1.cell 3 rfl, x1.cell 4 rfl, y1.cell 0 rfl, y1.cell 1 rfl, (t0.keep hV).cell 0 rfl, hV⟩
  have HbW := Lib.hid hbW
  clear hW x0 hbW y0 t0
  refine (awake26_any W).mono ?_
  rintro e w1 ⟨rfl, hb1⟩
  obtain ⟨c0, c1, c2, c3, c4, d0, d1, d2, _⟩ := HS.out w1 hb1
  go_wp2_with fail
  refine (HF.out w1 (Below.next HbW.out hb1)).mono ?_
  rintro e w2 ⟨z, rfl, hb2⟩
  have hB2 := Below.next hb1 hb2
  clear c0 c1 c2 c3 c4 d0 d1 d2 HF
  cases z
  · go_wp2_with fail
    refine (awake26_any w2).mono ?_
    rintro e w3 ⟨rfl, hb3⟩
    have hF := Below.next HbW.out (Below.next hB2 hb3)
    go_wp2_with fail
    go_ret
    exact ⟨rfl, hF⟩
  obtain ⟨c0, c1, c2, c3, c4, d0, d1, d2, _⟩ := HS.out w2 hB2
  go_wp2_with fail
  refine (HF2.out w2 (Below.next HbW.out hB2)).mono ?_
  rintro e w4 ⟨z, rfl, hb4⟩
  have hB4 := Below.next hB2 hb4
  clear c0 c1 c2 c3 c4 d0 d1 d2 HF2
  cases z
  · go_wp2_with fail
    refine (awake26_any w4).mono ?_
    rintro e w3 ⟨rfl, hb3⟩
    have hF := Below.next HbW.out (Below.next hB4 hb3)
    go_wp2_with fail
    go_ret
    exact ⟨rfl, hF⟩
  obtain ⟨c0, c1, c2, c3, c4, d0, d1, d2, _⟩ := HS.out w4 hB4
  have e1 : (r == r) = true := by simp
  go_upto_region 3 with fail
  go_cut [6] (fun v wx => v = .bool true ∧ Below W.heap.size W wx)
  case first =>
    go_region_held3 (fun V => V.cell? ⟨w.heap.size, 0, none⟩ = some (.int .i64 P) ∧ V.cell? ⟨w.heap.size, 1, none⟩ = some (.int .i64 M) ∧ V.cell? ⟨w.heap.size, 2, none⟩ = some (.slice am mn cm) ∧ V.cell? ⟨w.heap.size, 3, none⟩ = some (.int .i64 N) ∧ V.cell? ⟨w.heap.size, 4, none⟩ = some (.slice a n c) ∧
        V.cell? ⟨w.heap.size + 1, 0, none⟩ = some (.int .i64 z1) ∧ V.cell? ⟨w.heap.size + 1, 1, none⟩ = some (.int .i64 z2) ∧ V.cell? ⟨w.heap.size + 1 + 1, 0, none⟩ = some (.slice ax nx cx) ∧ Below W.heap.size W V)
      ((refine HS.out _ ?_; first | exact hb7w | exact hb5w | exact Below.next hB4 (Below.refl _ _).drew | assumption | (go_split_ands; assumption)))
      (first
      | (go_at_call 17; ((with_reducible refine (HX1.out _ (Below.next HbW.out (by go_split_ands; assumption))).mono ?_); rintro e w5 ⟨rfl, hb5⟩; have hb5w : Below W.heap.size W w5 := (by go_split_ands; exact Below.next (by assumption) hb5)))
      | (go_at_call 18; ((with_reducible refine (HX2.out _ (Below.next HbW.out (by go_split_ands; assumption))).mono ?_); rintro e w7 ⟨rfl, hb7⟩; have hb7w : Below W.heap.size W w7 := (by go_split_ands; exact Below.next (by assumption) hb7))))
    all_goals (go_wp2_with fail; go_meet; first | exact ⟨rfl, hb7w⟩ | exact ⟨rfl, hb5w⟩)
  obtain ⟨rfl, hbc⟩ := hcut
  have hF := Below.next HbW.out hbc
  go_wp2_with fail
  go_ret
  exact ⟨rfl, hF⟩
end

/- ExclusionRank: the statement. -/
section
open Go.ChangeShapes Go.WideShapes Go.ChangeAt Go.RowKit

set_option maxRecDepth 100000 in
theorem exRank_lifted (os : Os) (started : os.Started) (H : Type) (enc : TypeId × Value → H) :
    ReturnsInHanded {} Tryz.checked os 3 .any (Rows.exclusionRankSpec.pre6 enc Tryz.prog Tryz.f3 Rows.exclusionRankRow.domain false) (Rows.exclusionRankSpec.post enc Tryz.prog Tryz.f3 false true false false) := by
  refine returnsInHanded_of_change (C := Tryz.checked) Tryz.own started (by kernel_rfl) Tryz.func3
    (ChangeSpec.witness6 (enc := enc) (C := Tryz.checked) false ⟨#[], #[.agg #[.int .i64 0, .int .i64 0, .slice none 0 0, .int .i64 0, .slice none 0 0], .agg #[.int .i64 0, .int .i64 0], .agg #[.slice none 0 0]], []⟩ 8 (by kernel_rfl) (by kernel_rfl) (by kernel_rfl) (by kernel_rfl)) ?_
  intro W base args ds gs before hval0 hW hcnd _
  have hval : ∀ (j : Nat) t v, Tryz.f3.params[j]? = some t → args[j]? = some v → Value.okWide Tryz.prog W .any base t v := hval0
  have hW' := hW
  obtain ⟨p, q, hA0, hV, rfl, hfz, hnd⟩ := hW
  have hA : DataW.TrodAll enc Tryz.prog W 0 (fun _ => true) true Tryz.f3.params.toList args.toList ds p := hA0
  rw [Tryz.params3] at hA hval
  obtain ⟨v0, vs0, d0, ds0, p0, q0, hargs, rfl, rfl, h0, r0⟩ := trodAll_cons hA
  obtain ⟨v1, vs1, d1, ds1, p1, q1, rfl, rfl, rfl, h1, r1⟩ := trodAll_cons r0
  obtain ⟨v2, vs2, d2, ds2, p2, q2, rfl, rfl, rfl, h2, r2⟩ := trodAll_cons r1
  obtain ⟨rfl, rfl, rfl⟩ := trodAll_nil r2
  obtain rfl : args = #[v0, v1, v2] := by cases args; simp_all
  obtain ⟨rfl, rfl⟩ := trodVars_none hV
  have k0 := h0
  have k1 := h1
  have k2 := h2
  have lt0 : ∀ x ∈ p0, x.block < W.heap.size := by obtain ⟨m, hm⟩ := k0; exact DataW.trod_lt m _ _ _ hm
  have lt1 : ∀ x ∈ p1, x.block < W.heap.size := by obtain ⟨m, hm⟩ := k1; exact DataW.trod_lt m _ _ _ hm
  have lt2 : ∀ x ∈ p2, x.block < W.heap.size := by obtain ⟨m, hm⟩ := k2; exact DataW.trod_lt m _ _ _ hm
  obtain ⟨P, M, am, mn, cm, mod, N, a, n, c, L, rfl, hI0, hM0⟩ := arg_code (hval 0 _ v0 rfl rfl) h0
  obtain ⟨z1x, z1y, rfl⟩ := arg_pair (hval 1 _ v1 rfl rfl) h1
  obtain ⟨a2x, n2x, c2x, T2, rfl, hT2, hc2⟩ := arg_excl (hval 2 _ v2 rfl rfl) h2
  clear hA0 hval0
  refine (exLawRank_any P M am mn cm mod N a n c L z1x z1y a2x n2x c2x T2 W hI0 hM0 hT2 hc2).mono fun e W' ⟨he, bel⟩ => ?_
  subst he
  exact ⟨_, rfl, _, _, _, [], _, [], hW', trodAll_mk1 (shut_bool Tryz.underlying4 _), (trodAll_cons_mk (Below.trod Tryz.laid (by kernel_rfl) (of_decide_eq_true (by kernel_rfl)) k0 bel lt0) (trodAll_cons_mk (Below.trod Tryz.laid (by kernel_rfl) (of_decide_eq_true (by kernel_rfl)) k1 bel lt1) (trodAll_cons_mk (Below.trod Tryz.laid (by kernel_rfl) (of_decide_eq_true (by kernel_rfl)) k2 bel lt2) trodAll_mk0))), rfl, bel.frame _, fun h => by cases h⟩

theorem exRank_over : Rows.exclusionRankRow.holds Tryz.pinned (OpenSpec.ofChange Rows.exclusionRankSpec) :=
  OpenClaim.holds_of_wide 3 Tryz.f3 rfl rfl rfl rfl rfl rfl rfl ⟨rfl, rfl, rfl, rfl, rfl⟩ rfl rfl rfl rfl rfl (by kernel_rfl) Tryz.func3 exRank_joined
    (of_decide_eq_true (by kernel_rfl)) (by unfold Func.isWrapper; first | (rw [if_pos (by decide +kernel)]; kernel_rfl) | (rw [if_neg (by decide +kernel)]; exact ⟨rfl, rfl⟩))
    (fun os started H enc _ => exRank_lifted os started H enc)

theorem exRank_holds : Rows.ExclusionRankSaid := exRank_over
#print axioms exRank_holds
end

end Go.Proofs.YtapjcccpokhhhaaGreat
