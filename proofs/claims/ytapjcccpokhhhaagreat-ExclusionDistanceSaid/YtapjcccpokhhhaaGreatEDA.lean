/- ExclusionDistance: the statement. -/
import Derived.Test.YtapjcccpokhhhaaGreatG33
import Derived.Test.YtapjcccpokhhhaaGreatG29
import Derived.Test.YtapjcccpokhhhaaGreatG34
namespace Go.Proofs.YtapjcccpokhhhaaGreat
set_option linter.unusedVariables false
set_option linter.unusedSimpArgs false
set_option linter.unusedSectionVars false

/- The walk of CheckDistance of the reference's exclusion. -/
section
open Go.RowKit

set_option maxRecDepth 100000 in
set_option maxHeartbeats 1600000 in
theorem rCheckDistance26_any (P M : Int) (am : Option Addr) (mn cm : Nat) (mod : List Int) (N : Int) (a : Option Addr) (n c : Nat) (L : List (List Int)) (d : Int) (ax : Option Addr) (nx cx : Nat) (ts : List (List Int)) (w : World)
    (hmod : Ints w am mn mod) (hi : Mat w a n L) (hts : Mat w ax nx ts) (hnc : nx ≤ cx) :
    Calls Tryz.prog 26 #[.agg #[.int .i64 P, .int .i64 M, .slice am mn cm, .int .i64 N, .slice a n c], .int .i64 d, .agg #[.slice ax nx cx]] w fun e w' => e = .returned (.int .i64 (chkRE P M mod N L n (wtD N d) ts)) ∧ Below w.heap.size w w' := by
  have Hil := Lib.hid hi.len
  obtain ⟨V0, hV0⟩ : ∃ V0, chkRE P M mod N L n (wtD N d) ts = V0 := ⟨_, rfl⟩
  have HCk : Hid (wtD N d = d - 1 → ∀ V, Below w.heap.size w V → Calls Tryz.prog 18 #[.agg #[.int .i64 P, .int .i64 M, .slice am mn cm, .int .i64 N, .slice a n c], .int .i64 n, .int .i64 (d - 1), .agg #[.slice ax nx cx]] V fun e w' => e = .returned (.int .i64 V0) ∧ Below V.heap.size V w') := fun h V hV => by
    rw [← hV0, h]
    exact rCheckRank26_any P M am mn cm mod N a n c L n (d - 1) ax nx cx ts V (hmod.keep hV) (hi.keep hV) (hts.keep hV) hnc
  have HV0 := Lib.hid hV0
  rw [hV0]
  clear hts hV0
  go_enter Tryz.func26, Tryz.ntmps26
  go_wp2_with fail
  obtain ⟨U, hU⟩ : ∃ U : World, U = (w.alloc (.cells #[.int .i64 P, .int .i64 M, .slice am mn cm, .int .i64 N, .slice a n c] 27)).alloc (.cells #[.slice ax nx cx] 30) := ⟨_, rfl⟩
  rw [← hU]
  have hbU : Below w.heap.size w U := by rw [hU]; exact below2 _ _ _
  have x0 : Box U w.heap.size [.int .i64 P, .int .i64 M, .slice am mn cm, .int .i64 N, .slice a n c] := by rw [hU]; exact (Box.new _ _ _ rfl).alloc _
  have y0 : Box U (w.heap.size + 1) [.slice ax nx cx] := by rw [hU]; exact Box.new _ _ _ (by simp)
  have HX := Lib.hid (And.intro x0 y0)
  clear hU x0 y0
  refine (rCheck_any P M am mn cm mod N a n c L U (hmod.keep hbU) (hi.keep hbU)).mono ?_
  rintro e w1 ⟨rfl, hb1⟩
  have hbF := Below.next hbU hb1
  have x1 := HX.out.1.keep hb1
  have c0 := x1.cell 0 rfl
  have c1 := x1.cell 1 rfl
  have c2 := x1.cell 2 rfl
  have c3 := x1.cell 3 rfl
  have c4 := x1.cell 4 rfl
  have d0 := (HX.out.2.keep hb1).cell 0 rfl
  clear x1
  by_cases hE : codeE P M mod N L = 0
  · obtain ⟨_, hN1, hN2, _⟩ := codeE_zero hE
    rw [hE]
    have hw : wrap64 (N + 1) = N + 1 := wrap64_id (by omega)
    have HE := Lib.hid hE
    by_cases h1 : d < 1
    · have HF : Hid (V0 = 6) := by
        show _ = _
        have hwd : wtD N d = -1 := by rw [wtD, if_pos (.inl h1)]
        have h0 : rkcE P M mod N L n (wtD N d) = 6 := by rw [rkcE, if_pos HE.out, hwd, if_pos (.inr (.inr (.inl (by decide))))]
        rw [← HV0.out, chkRE, if_neg (by rw [h0]; decide), h0]
      have d1 : decide (d < 1) = true := by simpa using h1
      clear h1 hE hw
      go_wp2_with fail
      go_ret
      exact ⟨by rw [HF.out]; rfl, hbF⟩
    have d1 : decide (d < 1) = false := by simpa using h1
    by_cases h2 : N + 1 < d
    · have HF : Hid (V0 = 6) := by
        show _ = _
        have hwd : wtD N d = -1 := by rw [wtD, if_pos (.inr h2)]
        have h0 : rkcE P M mod N L n (wtD N d) = 6 := by rw [rkcE, if_pos HE.out, hwd, if_pos (.inr (.inr (.inl (by decide))))]
        rw [← HV0.out, chkRE, if_neg (by rw [h0]; decide), h0]
      have d2 : decide (N + 1 < d) = true := by simpa using h2
      clear h1 h2 hE
      go_wp2_with fail
      go_ret
      exact ⟨by rw [HF.out]; rfl, hbF⟩
    have d2 : decide (N + 1 < d) = false := by simpa using h2
    have hw2 : wrap64 (d - 1) = d - 1 := wrap64_id (by omega)
    have HC2 := Lib.hid (HCk.out (by rw [wtD, if_neg (by omega)]) w1 hbF)
    clear h1 h2 hE HCk
    go_wp2_with fail
    refine HC2.out.mono ?_
    rintro e w3 ⟨rfl, hb3⟩
    have hbG := Below.next hbF hb3
    go_wp2_with fail
    go_ret
    exact ⟨rfl, hbG⟩
  · have HF : Hid (V0 = codeE P M mod N L) := by
      show _ = _
      have h0 : rkcE P M mod N L n (wtD N d) = codeE P M mod N L := if_neg hE
      rw [← HV0.out, chkRE, if_neg (by rw [h0]; exact hE), h0]
    have hE2 : (codeE P M mod N L != 0) = true := by simpa using hE
    clear hE HV0 HCk
    generalize codeE P M mod N L = er at *
    go_wp2_with fail
    go_ret
    exact ⟨by rw [HF.out]; rfl, hbF⟩
end

/- The walks of ExclusionRank and ExclusionDistance. -/
section
open Go.RowKit

set_option maxRecDepth 100000 in
set_option maxHeartbeats 3200000 in
theorem few26_any (P M : Int) (am : Option Addr) (mn cm : Nat) (N : Int) (a : Option Addr) (n c : Nat) (L : List (List Int)) (w : World) (hi : Mat w a n L) :
    Calls Tryz.prog 15 #[.agg #[.int .i64 P, .int .i64 M, .slice am mn cm, .int .i64 N, .slice a n c]] w (SomeBool w) := by
  have H : Hid (∀ V, Below w.heap.size w V → Calls Tryz.prog 49 #[.agg #[.int .i64 P, .int .i64 M, .slice am mn cm, .int .i64 N, .slice a n c], .int .i64 100] V (SomeBool V)) := fun V hV => rFew12_any P M am mn cm N a n c 100 L V (hi.keep hV) (by omega)
  clear hi
  go_enter Tryz.func15, Tryz.ntmps15
  go_upto_region 1 with fail
  obtain ⟨W, hW⟩ : ∃ W : World, W = w.alloc (.cells #[.int .i64 P, .int .i64 M, .slice am mn cm, .int .i64 N, .slice a n c] 27) := ⟨_, rfl⟩
  rw [← hW]
  have hbW : Below w.heap.size w W := by rw [hW]; exact below1 _ _
  have x0 : Box W w.heap.size [.int .i64 P, .int .i64 M, .slice am mn cm, .int .i64 N, .slice a n c] := by rw [hW]; exact Box.new _ _ _ rfl
  have HX := Lib.hid x0
  have c0 := x0.cell 0 rfl
  have c1 := x0.cell 1 rfl
  have c2 := x0.cell 2 rfl
  have c3 := x0.cell 3 rfl
  have c4 := x0.cell 4 rfl
  clear hW x0
  have Hf := Lib.hid (H.out W hbW)
  clear H
  by_cases h1 : N ≤ 14
  · have d1 : decide (N ≤ 14) = true := by simpa using h1
    clear h1
    go_wp2_with (go_at_call 49; refine Hf.out.mono ?_; rintro e w1 ⟨z, rfl, hb1⟩; have q1 := (HX.out.keep hb1).cell 3 rfl; have hF := Below.next hbW hb1; cases z)
    all_goals (go_wp2_with fail; go_ret; exact ⟨_, rfl, hF⟩)
  · have d1 : decide (N ≤ 14) = false := by simpa using h1
    clear h1
    by_cases h2 : 64 < N
    · have d2 : decide (64 < N) = true := by simpa using h2
      clear h2
      go_wp2_with (go_at_call 49; refine Hf.out.mono ?_; rintro e w1 ⟨z, rfl, hb1⟩; have q1 := (HX.out.keep hb1).cell 3 rfl; have hF := Below.next hbW hb1; cases z)
      all_goals (go_wp2_with fail; go_ret; exact ⟨_, rfl, hF⟩)
    · have d2 : decide (64 < N) = false := by simpa using h2
      clear h2
      go_wp2_with (go_at_call 49; refine Hf.out.mono ?_; rintro e w1 ⟨z, rfl, hb1⟩; have q1 := (HX.out.keep hb1).cell 3 rfl; have hF := Below.next hbW hb1; cases z)
      all_goals (go_wp2_with fail; go_ret; exact ⟨_, rfl, hF⟩)


theorem rFew26_any (ax : Option Addr) (nx cx : Nat) (ts : List (List Int)) (w : World) (h : Mat w ax nx ts) : Calls Tryz.prog 16 #[.agg #[.slice ax nx cx]] w (SomeBool w) := by
  have HF := Lib.hid (fun V (hV : Below w.heap.size w V) => rFew9_any ax nx cx 20000 ts V (h.keep hV) (by omega))
  clear h
  go_enter Tryz.func16, Tryz.ntmps16
  go_wp2_with fail
  refine (HF.out _ (below1 _ _)).mono ?_
  rintro e w1 ⟨z, rfl, hb1⟩
  have hF := Below.next (below1 w (.cells #[.slice ax nx cx] 30)) hb1
  go_wp2_with fail
  go_ret
  exact ⟨z, rfl, hF⟩

set_option maxRecDepth 100000 in
set_option maxHeartbeats 8000000 in
theorem exLawDistance_any (P M : Int) (am : Option Addr) (mn cm : Nat) (mod : List Int) (N : Int) (a : Option Addr) (n c : Nat) (L : List (List Int)) (d : Int) (ax : Option Addr) (nx cx : Nat) (ts : List (List Int)) (w : World)
    (hmod : Ints w am mn mod) (hi : Mat w a n L) (hts : Mat w ax nx ts) (hnc : nx ≤ cx) :
    Calls Tryz.prog 5 #[.agg #[.int .i64 P, .int .i64 M, .slice am mn cm, .int .i64 N, .slice a n c], .int .i64 d, .agg #[.slice ax nx cx]] w fun e w' => e = .returned (.bool true) ∧ Below w.heap.size w w' := by
  have HF : Hid (∀ V, Below w.heap.size w V → Calls Tryz.prog 15 #[.agg #[.int .i64 P, .int .i64 M, .slice am mn cm, .int .i64 N, .slice a n c]] V (SomeBool V)) :=
    fun V hV => few26_any P M am mn cm N a n c L V (hi.keep hV)
  have HF2 : Hid (∀ V, Below w.heap.size w V → Calls Tryz.prog 16 #[.agg #[.slice ax nx cx]] V (SomeBool V)) :=
    fun V hV => rFew26_any ax nx cx ts V (hts.keep hV)
  obtain ⟨r, hr⟩ : ∃ r, chkRE P M mod N L n (wtD N d) ts = r := ⟨_, rfl⟩
  have HX1 : Hid (∀ V, Below w.heap.size w V → Calls Tryz.prog 25 #[.agg #[.int .i64 P, .int .i64 M, .slice am mn cm, .int .i64 N, .slice a n c], .int .i64 d, .agg #[.slice ax nx cx]] V fun e w' => e = .returned (.int .i64 r) ∧ Below V.heap.size V w') := fun V hV => by
    rw [← hr]; exact exCheckDistance_any P M am mn cm mod N a n c L d ax nx cx ts V (hmod.keep hV) (hi.keep hV) (hts.keep hV)
  have HX2 : Hid (∀ V, Below w.heap.size w V → Calls Tryz.prog 26 #[.agg #[.int .i64 P, .int .i64 M, .slice am mn cm, .int .i64 N, .slice a n c], .int .i64 d, .agg #[.slice ax nx cx]] V fun e w' => e = .returned (.int .i64 r) ∧ Below V.heap.size V w') := fun V hV => by
    rw [← hr]; exact rCheckDistance26_any P M am mn cm mod N a n c L d ax nx cx ts V (hmod.keep hV) (hi.keep hV) (hts.keep hV) hnc
  clear hmod hi hts hr
  go_enter Tryz.func5, Tryz.ntmps5
  go_wp2_with fail
  obtain ⟨W, hW⟩ : ∃ W : World, W = (w.alloc (.cells #[.int .i64 P, .int .i64 M, .slice am mn cm, .int .i64 N, .slice a n c] 27)).alloc (.cells #[.slice ax nx cx] 30) := ⟨_, rfl⟩
  rw [← hW]
  have hbW : Below w.heap.size w W := by rw [hW]; exact below2 _ _ _
  have x0 : Box W w.heap.size [.int .i64 P, .int .i64 M, .slice am mn cm, .int .i64 N, .slice a n c] := by rw [hW]; exact (Box.new _ _ _ rfl).alloc _
  have t0 : Box W (w.heap.size + 1) [.slice ax nx cx] := by rw [hW]; exact Box.new _ _ _ (by simp)
  have HS : Hid (∀ V, Below W.heap.size W V → V.cell? ⟨w.heap.size, 0, none⟩ = some (.int .i64 P) ∧ V.cell? ⟨w.heap.size, 1, none⟩ = some (.int .i64 M) ∧ V.cell? ⟨w.heap.size, 2, none⟩ = some (.slice am mn cm) ∧ V.cell? ⟨w.heap.size, 3, none⟩ = some (.int .i64 N) ∧ V.cell? ⟨w.heap.size, 4, none⟩ = some (.slice a n c) ∧
      V.cell? ⟨w.heap.size + 1, 0, none⟩ = some (.slice ax nx cx) ∧ Below W.heap.size W V) := fun V hV => by
    have x1 := x0.keep hV
    exact ⟨x1.cell 0 rfl, x1.cell 1 rfl, x1.cell 2 rfl, x1.cell 3 rfl, x1.cell 4 rfl, (t0.keep hV).cell 0 rfl, hV⟩
  have HbW := Lib.hid hbW
  clear hW x0 hbW t0
  refine (awake26_any W).mono ?_
  rintro e w1 ⟨rfl, hb1⟩
  obtain ⟨c0, c1, c2, c3, c4, d2, _⟩ := HS.out w1 hb1
  go_wp2_with fail
  refine (HF.out w1 (Below.next HbW.out hb1)).mono ?_
  rintro e w2 ⟨z, rfl, hb2⟩
  have hB2 := Below.next hb1 hb2
  clear c0 c1 c2 c3 c4 d2 HF
  cases z
  · go_wp2_with fail
    refine (awake26_any w2).mono ?_
    rintro e w3 ⟨rfl, hb3⟩
    have hF := Below.next HbW.out (Below.next hB2 hb3)
    go_wp2_with fail
    go_ret
    exact ⟨rfl, hF⟩
  obtain ⟨c0, c1, c2, c3, c4, d2, _⟩ := HS.out w2 hB2
  go_wp2_with fail
  refine (HF2.out w2 (Below.next HbW.out hB2)).mono ?_
  rintro e w4 ⟨z, rfl, hb4⟩
  have hB4 := Below.next hB2 hb4
  clear c0 c1 c2 c3 c4 d2 HF2
  cases z
  · go_wp2_with fail
    refine (awake26_any w4).mono ?_
    rintro e w3 ⟨rfl, hb3⟩
    have hF := Below.next HbW.out (Below.next hB4 hb3)
    go_wp2_with fail
    go_ret
    exact ⟨rfl, hF⟩
  obtain ⟨c0, c1, c2, c3, c4, d2, _⟩ := HS.out w4 hB4
  have e1 : (r == r) = true := by simp
  go_upto_region 3 with fail
  go_cut [6] (fun v wx => v = .bool true ∧ Below W.heap.size W wx)
  case first =>
    go_region_held3 (fun V => V.cell? ⟨w.heap.size, 0, none⟩ = some (.int .i64 P) ∧ V.cell? ⟨w.heap.size, 1, none⟩ = some (.int .i64 M) ∧ V.cell? ⟨w.heap.size, 2, none⟩ = some (.slice am mn cm) ∧ V.cell? ⟨w.heap.size, 3, none⟩ = some (.int .i64 N) ∧ V.cell? ⟨w.heap.size, 4, none⟩ = some (.slice a n c) ∧
        V.cell? ⟨w.heap.size + 1, 0, none⟩ = some (.slice ax nx cx) ∧ Below W.heap.size W V)
      ((refine HS.out _ ?_; first | exact hb7w | exact hb5w | exact Below.next hB4 (Below.refl _ _).drew | assumption | (go_split_ands; assumption)))
      (first
      | (go_at_call 25; ((with_reducible refine (HX1.out _ (Below.next HbW.out (by go_split_ands; assumption))).mono ?_); rintro e w5 ⟨rfl, hb5⟩; have hb5w : Below W.heap.size W w5 := (by go_split_ands; exact Below.next (by assumption) hb5)))
      | (go_at_call 26; ((with_reducible refine (HX2.out _ (Below.next HbW.out (by go_split_ands; assumption))).mono ?_); rintro e w7 ⟨rfl, hb7⟩; have hb7w : Below W.heap.size W w7 := (by go_split_ands; exact Below.next (by assumption) hb7))))
    all_goals (go_wp2_with fail; go_meet; first | exact ⟨rfl, hb7w⟩ | exact ⟨rfl, hb5w⟩)
  obtain ⟨rfl, hbc⟩ := hcut
  have hF := Below.next HbW.out hbc
  go_wp2_with fail
  go_ret
  exact ⟨rfl, hF⟩
end

/- ExclusionDistance: the statement. -/
section
open Go.ChangeShapes Go.WideShapes Go.ChangeAt Go.RowKit

set_option maxRecDepth 100000 in
theorem exDistance_lifted (os : Os) (started : os.Started) (H : Type) (enc : TypeId × Value → H) :
    ReturnsInHanded {} Tryz.checked os 5 .any (Rows.exclusionDistanceSpec.pre6 enc Tryz.prog Tryz.f5 Rows.exclusionDistanceRow.domain false) (Rows.exclusionDistanceSpec.post enc Tryz.prog Tryz.f5 false true false false) := by
  refine returnsInHanded_of_change (C := Tryz.checked) Tryz.own started (by kernel_rfl) Tryz.func5
    (ChangeSpec.witness6 (enc := enc) (C := Tryz.checked) false ⟨#[], #[.agg #[.int .i64 0, .int .i64 0, .slice none 0 0, .int .i64 0, .slice none 0 0], .int .i64 0, .agg #[.slice none 0 0]], []⟩ 8 (by kernel_rfl) (by kernel_rfl) (by kernel_rfl) (by kernel_rfl)) ?_
  intro W base args ds gs before hval0 hW hcnd _
  have hval : ∀ (j : Nat) t v, Tryz.f5.params[j]? = some t → args[j]? = some v → Value.okWide Tryz.prog W .any base t v := hval0
  have hW' := hW
  obtain ⟨p, q, hA0, hV, rfl, hfz, hnd⟩ := hW
  have hA : DataW.TrodAll enc Tryz.prog W 0 (fun _ => true) true Tryz.f5.params.toList args.toList ds p := hA0
  rw [Tryz.params5] at hA hval
  obtain ⟨v0, vs0, d0, ds0, p0, q0, hargs, rfl, rfl, h0, r0⟩ := trodAll_cons hA
  obtain ⟨v1, vs1, d1, ds1, p1, q1, rfl, rfl, rfl, h1, r1⟩ := trodAll_cons r0
  obtain ⟨v2, vs2, d2, ds2, p2, q2, rfl, rfl, rfl, h2, r2⟩ := trodAll_cons r1
  obtain ⟨rfl, rfl, rfl⟩ := trodAll_nil r2
  obtain rfl : args = #[v0, v1, v2] := by cases args; simp_all
  obtain ⟨rfl, rfl⟩ := trodVars_none hV
  have k0 := h0
  have k2 := h2
  have lt0 : ∀ x ∈ p0, x.block < W.heap.size := by obtain ⟨m, hm⟩ := k0; exact DataW.trod_lt m _ _ _ hm
  have lt2 : ∀ x ∈ p2, x.block < W.heap.size := by obtain ⟨m, hm⟩ := k2; exact DataW.trod_lt m _ _ _ hm
  obtain ⟨P, M, am, mn, cm, mod, N, a, n, c, L, rfl, hI0, hM0⟩ := arg_code (hval 0 _ v0 rfl rfl) h0
  obtain ⟨z1, rfl, rfl, rfl, w1⟩ := open_int Tryz.underlying3 (hval 1 _ v1 rfl rfl) h1
  obtain ⟨a2x, n2x, c2x, T2, rfl, hT2, hc2⟩ := arg_excl (hval 2 _ v2 rfl rfl) h2
  clear hA0 hval0
  refine (exLawDistance_any P M am mn cm mod N a n c L z1 a2x n2x c2x T2 W hI0 hM0 hT2 hc2).mono fun e W' ⟨he, bel⟩ => ?_
  subst he
  exact ⟨_, rfl, _, _, _, [], _, [], hW', trodAll_mk1 (shut_bool Tryz.underlying4 _), (trodAll_cons_mk (Below.trod Tryz.laid (by kernel_rfl) (of_decide_eq_true (by kernel_rfl)) k0 bel lt0) (trodAll_cons_mk (shut_int Tryz.underlying3 w1) (trodAll_cons_mk (Below.trod Tryz.laid (by kernel_rfl) (of_decide_eq_true (by kernel_rfl)) k2 bel lt2) trodAll_mk0))), rfl, bel.frame _, fun h => by cases h⟩

theorem exDistance_over : Rows.exclusionDistanceRow.holds Tryz.pinned (OpenSpec.ofChange Rows.exclusionDistanceSpec) :=
  OpenClaim.holds_of_wide 5 Tryz.f5 rfl rfl rfl rfl rfl rfl rfl ⟨rfl, rfl, rfl, rfl, rfl⟩ rfl rfl rfl rfl rfl (by kernel_rfl) Tryz.func5 exDistance_joined
    (of_decide_eq_true (by kernel_rfl)) (by unfold Func.isWrapper; first | (rw [if_pos (by decide +kernel)]; kernel_rfl) | (rw [if_neg (by decide +kernel)]; exact ⟨rfl, rfl⟩))
    (fun os started H enc _ => exDistance_lifted os started H enc)

theorem exDistance_holds : Rows.ExclusionDistanceSaid := exDistance_over
#print axioms exDistance_holds
end

end Go.Proofs.YtapjcccpokhhhaaGreat
