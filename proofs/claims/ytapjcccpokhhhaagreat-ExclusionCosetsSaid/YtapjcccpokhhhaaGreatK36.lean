/- The walks of codewrightref09.Few, codewrightref12.Few, codewrightlaw25.few: they end with some answer. -/
import Derived.Test.YtapjcccpokhhhaaGreatK35
import Derived.Test.YtapjcccpokhhhaaGreatK33
import Derived.Test.YtapjcccpokhhhaaGreatK30
import Derived.Test.YtapjcccpokhhhaaGreatK31
import Derived.Test.YtapjcccpokhhhaaGreatK19
import Derived.Test.YtapjcccpokhhhaaGreatK23
namespace Go.Proofs.YtapjcccpokhhhaaGreat
set_option linter.unusedVariables false
set_option linter.unusedSimpArgs false
set_option linter.unusedSectionVars false

/- The walks of BuildRank, BuildDistance, Same and Small of the reference's exclusion. -/
section
open Go.RowKit

set_option maxRecDepth 100000 in
set_option maxHeartbeats 1600000 in
theorem rBuildRank26_any (P M : Int) (am : Option Addr) (mn cm : Nat) (mod : List Int) (N : Int) (a : Option Addr) (n c : Nat) (L : List (List Int)) (mm W : Int) (w : World)
    (hmod : Ints w am mn mod) (hi : Mat w a n L) :
    Calls Tryz.prog 21 #[.agg #[.int .i64 P, .int .i64 M, .slice am mn cm, .int .i64 N, .slice a n c], .int .i64 mm, .int .i64 W] w (ExBldPost (bldRE P M mod N L mm W) w) := by
  obtain ⟨V0, hV0⟩ : ∃ V0, bldRE P M mod N L mm W = V0 := ⟨_, rfl⟩
  have HBd : Hid (rkcE P M mod N L mm W = 0 → ∀ V, Below w.heap.size w V → Calls Tryz.prog 57 #[.agg #[.int .i64 P, .int .i64 M, .slice am mn cm, .int .i64 N, .slice a n c, .int .i64 mm, .int .i64 W, .slice none 0 0, .bool false], .slice none 0 0, .slice none 0 0, .slice none 0 0] V
      fun e w' => ∃ av nv cv, e = .returned (.tuple #[.slice av nv cv, .int .i64 V0.1]) ∧ Below V.heap.size V w' ∧ ((V0.1 ≠ 0 ∧ av = none ∧ nv = 0 ∧ cv = 0) ∨ (V0.1 = 0 ∧ nv = V0.2.length ∧ ∃ R, OMat w' V.heap.size av V0.2.length cv R V0.2))) := fun h V hV => by
    obtain ⟨hE, h1, h2, h3, h4, h5, h6⟩ := rkc_env h
    have h7 := rBuild26_any P M am mn cm mod N.toNat a n c L none 0 0 ⟨mm.toNat, W.toNat, false, []⟩ V (hmod.keep hV) (hi.keep hV) (by rw [Int.toNat_of_nonneg (by omega)]; exact hE) false rfl (Lib.hid (rightK_rank (hmod.keep hV) (hi.keep hV) (by rw [Int.toNat_of_nonneg (by omega)]; exact hE) rfl)) (by show W.toNat ≤ 64; omega) (by omega)
      W.toNat V ⟨none, 0, [], []⟩ none 0 0 [] none 0 0 [] (by show 0 + W.toNat = W.toNat; omega) (by omega) (Below.refl _ _) (OMat.nul _ _) (by simp) (Ints.nil _ _) (Ints.nil _ _) (fun h => by omega) (fun h => by omega) (by simp) (fun x hx => by simp at hx)
    unfold rclV at h7
    dsimp only at h7
    rw [Int.toNat_of_nonneg (show 0 ≤ N by omega), Int.toNat_of_nonneg h3, Int.toNat_of_nonneg h5] at h7
    have hb : bldS (tblOf P M.toNat mod).ops L N.toNat ⟨mm.toNat, W.toNat, false, []⟩ W.toNat [] [] [] = V0 := by
      rw [← hV0, bldRE, if_pos h]; rfl
    rw [hb] at h7
    have hI : ∀ x, ¬ (BSt.I ⟨none, 0, [], []⟩ x) := fun x hx => by
      rcases hx with ⟨h0, _⟩ | ⟨i, hi, _⟩
      · exact h0 rfl
      · simp at hi
    refine h7.mono ?_
    rintro e w' (⟨g1, σ', g2, g3, g4, g5, rfl⟩ | ⟨g1, I', g5, rfl⟩)
    · refine ⟨_, _, _, by rw [g1], g5.below (fun x hx => absurd hx (hI x)) (Nat.le_refl _), .inr ⟨g1, by rw [g3], σ'.R, ?_⟩⟩
      rw [← g3]; exact g2
    · exact ⟨none, 0, 0, rfl, g5.below (fun x hx => absurd hx (hI x)) (Nat.le_refl _), .inl ⟨g1, rfl, rfl, rfl⟩⟩
  have HRk : Hid (∀ V, Below w.heap.size w V → Calls Tryz.prog 53 #[.agg #[.int .i64 P, .int .i64 M, .slice am mn cm, .int .i64 N, .slice a n c], .int .i64 mm, .int .i64 W] V fun e w' => e = .returned (.int .i64 (rkcE P M mod N L mm W)) ∧ Below V.heap.size V w') := fun V hV =>
    rRank26_any P M am mn cm mod N a n c L mm W V (hmod.keep hV) (hi.keep hV)
  have HV1 : Hid (rkcE P M mod N L mm W ≠ 0 → V0 = (rkcE P M mod N L mm W, [])) := fun h => by rw [← hV0, bldRE, if_neg h]
  rw [hV0]
  clear hmod hi hV0
  go_enter Tryz.func21, Tryz.ntmps21
  go_wp2_with fail
  obtain ⟨U, hU⟩ : ∃ U : World, U = (w.alloc (.cells #[.int .i64 P, .int .i64 M, .slice am mn cm, .int .i64 N, .slice a n c] 27)).alloc (.cells #[.slice none 0 0] 30) := ⟨_, rfl⟩
  rw [← hU]
  have hbU : Below w.heap.size w U := by rw [hU]; exact below2 _ _ _
  have x0 : Box U w.heap.size [.int .i64 P, .int .i64 M, .slice am mn cm, .int .i64 N, .slice a n c] := by rw [hU]; exact (Box.new _ _ _ rfl).alloc _
  have y0 : Box U (w.heap.size + 1) [.slice none 0 0] := by rw [hU]; exact Box.new _ _ _ (by simp)
  clear hU
  refine (HRk.out U hbU).mono ?_
  rintro e w1 ⟨rfl, hb1⟩
  have hbw1 := Below.next hbU hb1
  have x1 := x0.keep hb1
  have y1 := y0.keep hb1
  have HY := Lib.hid y1
  by_cases hE : rkcE P M mod N L mm W = 0
  · have HP2 := Lib.hid (HBd.out hE)
    have c0 := x1.cell 0 rfl
    have c1 := x1.cell 1 rfl
    have c2 := x1.cell 2 rfl
    have c3 := x1.cell 3 rfl
    have c4 := x1.cell 4 rfl
    rw [hE]
    clear hE x0 y0 x1 y1 HBd HRk HV1
    go_wp2_with fail
    refine (HP2.out _ hbw1).mono ?_
    rintro e w3 ⟨av, nv, cv, rfl, hb3, hV3⟩
    have y3 := HY.out.keep hb3
    have z0 := y3.cell 0 rfl
    have f0 := y3.frozen 0
    have hF : Below w.heap.size w (w3.setCell ⟨w.heap.size + 1, 0, none⟩ (.slice av nv cv)) := (Below.next hbw1 hb3).setCell (by simp) _
    have HV5 : Hid (ExBldPost V0 w (.returned (.tuple #[.agg #[.slice av nv cv], .int .i64 V0.1])) (w3.setCell ⟨w.heap.size + 1, 0, none⟩ (.slice av nv cv))) := by
      refine ⟨hF, ?_⟩
      rcases hV3 with ⟨h1, rfl, rfl, rfl⟩ | ⟨h1, rfl, R, hO⟩
      · exact .inl ⟨h1, rfl⟩
      · refine .inr ⟨h1, av, cv, R, by rw [h1], ?_⟩
        have hsU := hbw1.size
        have hy := HY.out.1
        refine (OMat.mono hO hsU).of_blocks fun x hx => Below.heap_setCell _ _ _ _ fun e => ?_
        have h2 := (hO.lt x hx).1
        have e' : x = w.heap.size + 1 := e
        omega
    clear hV3 hF y3
    obtain ⟨v1, hv1⟩ : ∃ v1, V0.1 = v1 := ⟨_, rfl⟩
    rw [hv1] at HV5 ⊢
    clear hv1
    go_wp2_with fail
    have z1 : (w3.setCell ⟨w.heap.size + 1, 0, none⟩ (.slice av nv cv)).cell? ⟨w.heap.size + 1, 0, none⟩ = some (.slice av nv cv) := World.cell?_setCell_same _ _ _ z0
    exact bodyPost_ret (v := .tuple #[.agg #[.slice av nv cv], .int .i64 v1]) (by simp [results, Tryz.results21, go_sem, z0, z1]) rfl HV5.out
  · have HE := Lib.hid (HV1.out hE)
    have hE2 : (rkcE P M mod N L mm W != 0) = true := by simpa using hE
    have Hne := Lib.hid hE
    have z0 := y1.cell 0 rfl
    have f0 := y1.frozen 0
    have HF := Lib.hid (fun v : Value => hbw1.setCell (p := ⟨w.heap.size + 1, 0, none⟩) (by simp) v)
    clear hE x0 y0 x1 y1 HBd HRk HV1
    generalize rkcE P M mod N L mm W = er at *
    go_wp2_with fail
    have z1 : (w1.setCell ⟨w.heap.size + 1, 0, none⟩ (.slice none 0 0)).cell? ⟨w.heap.size + 1, 0, none⟩ = some (.slice none 0 0) := World.cell?_setCell_same _ _ _ z0
    exact bodyPost_ret (v := .tuple #[.agg #[.slice none 0 0], .int .i64 er]) (by simp [results, Tryz.results21, go_sem, z0, z1]) rfl ⟨HF.out _, .inl ⟨by rw [HE.out]; exact Hne.out, by rw [HE.out]⟩⟩

set_option maxRecDepth 100000 in
set_option maxHeartbeats 1600000 in
theorem rBuildDistance26_any (P M : Int) (am : Option Addr) (mn cm : Nat) (mod : List Int) (N : Int) (a : Option Addr) (n c : Nat) (L : List (List Int)) (d : Int) (w : World)
    (hmod : Ints w am mn mod) (hi : Mat w a n L) :
    Calls Tryz.prog 24 #[.agg #[.int .i64 P, .int .i64 M, .slice am mn cm, .int .i64 N, .slice a n c], .int .i64 d] w (ExBldPost (bldRE P M mod N L n (wtD N d)) w) := by
  obtain ⟨V0, hV0⟩ : ∃ V0, bldRE P M mod N L n (wtD N d) = V0 := ⟨_, rfl⟩
  have HBd : Hid (wtD N d = d - 1 → ∀ V, Below w.heap.size w V → Calls Tryz.prog 21 #[.agg #[.int .i64 P, .int .i64 M, .slice am mn cm, .int .i64 N, .slice a n c], .int .i64 n, .int .i64 (d - 1)] V
      fun e w' => ∃ av nv cv, e = .returned (.tuple #[.agg #[.slice av nv cv], .int .i64 V0.1]) ∧ Below V.heap.size V w' ∧ ((V0.1 ≠ 0 ∧ av = none ∧ nv = 0 ∧ cv = 0) ∨ (V0.1 = 0 ∧ nv = V0.2.length ∧ ∃ R, OMat w' V.heap.size av V0.2.length cv R V0.2))) := fun h V hV => by
    have h1 := rBuildRank26_any P M am mn cm mod N a n c L n (d - 1) V (hmod.keep hV) (hi.keep hV)
    rw [← h, hV0] at h1
    rw [← h]
    refine h1.mono ?_
    rintro e w' ⟨hb, ⟨h2, rfl⟩ | ⟨h2, ar, cr, R, rfl, hO⟩⟩
    · exact ⟨none, 0, 0, rfl, hb, .inl ⟨h2, rfl, rfl, rfl⟩⟩
    · exact ⟨ar, _, cr, by rw [h2], hb, .inr ⟨h2, rfl, R, hO⟩⟩
  have HV0 := Lib.hid hV0
  rw [hV0]
  clear hV0
  go_enter Tryz.func24, Tryz.ntmps24
  go_wp2_with fail
  obtain ⟨U, hU⟩ : ∃ U : World, U = (w.alloc (.cells #[.int .i64 P, .int .i64 M, .slice am mn cm, .int .i64 N, .slice a n c] 27)).alloc (.cells #[.slice none 0 0] 30) := ⟨_, rfl⟩
  rw [← hU]
  have hbU : Below w.heap.size w U := by rw [hU]; exact below2 _ _ _
  have x0 : Box U w.heap.size [.int .i64 P, .int .i64 M, .slice am mn cm, .int .i64 N, .slice a n c] := by rw [hU]; exact (Box.new _ _ _ rfl).alloc _
  have y0 : Box U (w.heap.size + 1) [.slice none 0 0] := by rw [hU]; exact Box.new _ _ _ (by simp)
  have HX := Lib.hid (And.intro x0 y0)
  clear hU x0 y0
  refine (rCheck_any P M am mn cm mod N a n c L U (hmod.keep hbU) (hi.keep hbU)).mono ?_
  rintro e w1 ⟨rfl, hb1⟩
  have hbF := Below.next hbU hb1
  have x1 := HX.out.1.keep hb1
  have y1 := HX.out.2.keep hb1
  have HY := Lib.hid y1
  have c0 := x1.cell 0 rfl
  have c1 := x1.cell 1 rfl
  have c2 := x1.cell 2 rfl
  have c3 := x1.cell 3 rfl
  have c4 := x1.cell 4 rfl
  have z0 := y1.cell 0 rfl
  have f0 := y1.frozen 0
  have HF := Lib.hid (fun v : Value => hbF.setCell (p := ⟨w.heap.size + 1, 0, none⟩) (by simp) v)
  have HZ : Hid ((w1.setCell ⟨w.heap.size + 1, 0, none⟩ (.slice none 0 0)).cell? ⟨w.heap.size + 1, 0, none⟩ = some (.slice none 0 0)) := World.cell?_setCell_same _ _ _ z0
  clear x1 y1
  have HR : Hid (∀ er : Int, er ≠ 0 → V0 = (er, []) → ExBldPost V0 w (.returned (.tuple #[.agg #[.slice none 0 0], .int .i64 er])) (w1.setCell ⟨w.heap.size + 1, 0, none⟩ (.slice none 0 0))) := fun er h0 h => by
    subst h
    exact ⟨HF.out _, .inl ⟨h0, rfl⟩⟩
  by_cases hE : codeE P M mod N L = 0
  · obtain ⟨_, hN1, hN2, _⟩ := codeE_zero hE
    rw [hE]
    have hw : wrap64 (N + 1) = N + 1 := wrap64_id (by omega)
    have HE := Lib.hid hE
    have HV6 : Hid (wtD N d = -1 → V0 = (6, [])) := fun hwd => by
      have h0 : rkcE P M mod N L n (wtD N d) = 6 := by rw [rkcE, if_pos HE.out, hwd, if_pos (.inr (.inr (.inl (by decide))))]
      rw [← HV0.out, bldRE, if_neg (by rw [h0]; decide), h0]
    by_cases h1 : d < 1
    · have HP := Lib.hid (HR.out 6 (by decide) (HV6.out (by rw [wtD, if_pos (.inl h1)])))
      have d1 : decide (d < 1) = true := by simpa using h1
      clear h1 hE hw
      go_wp2_with fail
      have z1 := HZ.out
      exact bodyPost_ret (v := .tuple #[.agg #[.slice none 0 0], .int .i64 6]) (by simp [results, Tryz.results24, go_sem, z0, z1]) rfl HP.out
    have d1 : decide (d < 1) = false := by simpa using h1
    by_cases h2 : N + 1 < d
    · have HP := Lib.hid (HR.out 6 (by decide) (HV6.out (by rw [wtD, if_pos (.inr h2)])))
      have d2 : decide (N + 1 < d) = true := by simpa using h2
      clear h1 h2 hE
      go_wp2_with fail
      have z1 := HZ.out
      exact bodyPost_ret (v := .tuple #[.agg #[.slice none 0 0], .int .i64 6]) (by simp [results, Tryz.results24, go_sem, z0, z1]) rfl HP.out
    have d2 : decide (N + 1 < d) = false := by simpa using h2
    have hw2 : wrap64 (d - 1) = d - 1 := wrap64_id (by omega)
    have HC2 := Lib.hid (HBd.out (by rw [wtD, if_neg (by omega)]) w1 hbF)
    clear h1 h2 hE HBd HF HZ HR HV6
    go_wp2_with fail
    refine HC2.out.mono ?_
    rintro e w3 ⟨av, nv, cv, rfl, hb3, hV3⟩
    have y3 := HY.out.keep hb3
    have z0' := y3.cell 0 rfl
    have f0' := y3.frozen 0
    have hF : Below w.heap.size w (w3.setCell ⟨w.heap.size + 1, 0, none⟩ (.slice av nv cv)) := (Below.next hbF hb3).setCell (by simp) _
    have HV5 : Hid (ExBldPost V0 w (.returned (.tuple #[.agg #[.slice av nv cv], .int .i64 V0.1])) (w3.setCell ⟨w.heap.size + 1, 0, none⟩ (.slice av nv cv))) := by
      refine ⟨hF, ?_⟩
      rcases hV3 with ⟨h1, rfl, rfl, rfl⟩ | ⟨h1, rfl, R, hO⟩
      · exact .inl ⟨h1, rfl⟩
      · refine .inr ⟨h1, av, cv, R, by rw [h1], ?_⟩
        have hsU := hbF.size
        have hy := HY.out.1
        refine (OMat.mono hO hsU).of_blocks fun x hx => Below.heap_setCell _ _ _ _ fun e => ?_
        have h2 := (hO.lt x hx).1
        have e' : x = w.heap.size + 1 := e
        omega
    clear hV3 hF y3 c0 c1 c2 c3 c4 z0 f0
    obtain ⟨v1, hv1⟩ : ∃ v1, V0.1 = v1 := ⟨_, rfl⟩
    rw [hv1] at HV5 ⊢
    clear hv1
    go_wp2_with fail
    have z1 : (w3.setCell ⟨w.heap.size + 1, 0, none⟩ (.slice av nv cv)).cell? ⟨w.heap.size + 1, 0, none⟩ = some (.slice av nv cv) := World.cell?_setCell_same _ _ _ z0'
    exact bodyPost_ret (v := .tuple #[.agg #[.slice av nv cv], .int .i64 v1]) (by simp [results, Tryz.results24, go_sem, z0', z1]) rfl HV5.out
  · have h0 : rkcE P M mod N L n (wtD N d) = codeE P M mod N L := if_neg hE
    have HP := Lib.hid (HR.out _ hE (by rw [← HV0.out, bldRE, if_neg (by rw [h0]; exact hE), h0]))
    have hE2 : (codeE P M mod N L != 0) = true := by simpa using hE
    clear hE HV0 HBd h0 HR
    generalize codeE P M mod N L = er at *
    go_wp2_with fail
    have z1 := HZ.out
    exact bodyPost_ret (v := .tuple #[.agg #[.slice none 0 0], .int .i64 er]) (by simp [results, Tryz.results24, go_sem, z0, z1]) rfl HP.out

theorem rSame26_any (ax : Option Addr) (nx cx : Nat) (ts : List (List Int)) (ay : Option Addr) (ny cy : Nat) (us : List (List Int)) (w : World) (h : Mat w ax nx ts) (h' : Mat w ay ny us) :
    Calls Tryz.prog 22 #[.agg #[.slice ax nx cx], .agg #[.slice ay ny cy]] w fun e w' => e = .returned (.bool (decide (ts = us))) ∧ Below w.heap.size w w' := by
  have HF := Lib.hid (fun V (hV : Below w.heap.size w V) => rSameRows_any ax nx cx ts ay ny cy us (h.keep hV) (h'.keep hV))
  clear h h'
  obtain ⟨bb, hbb⟩ : ∃ bb, decide (ts = us) = bb := ⟨_, rfl⟩
  rw [hbb] at HF ⊢
  clear hbb
  go_enter Tryz.func22, Tryz.ntmps22
  go_wp2_with fail
  refine (HF.out _ (below2 _ _ _)).mono ?_
  rintro e w1 ⟨rfl, hq⟩
  have hF := Below.next (below2 w (.cells #[.slice ax nx cx] 30) (.cells #[.slice ay ny cy] 30)) (Drawn.below hq)
  go_wp2_with fail
  go_ret
  exact ⟨rfl, hF⟩

def SomeBoolQ (w : World) (e : Ending) (w' : World) : Prop := ∃ z, e = .returned (.bool z) ∧ w' = w
set_option maxRecDepth 100000 in
set_option maxHeartbeats 1600000 in
theorem rSmall26_any (k : Int) (W : Nat) (hW : W ≤ 64) (w : World) : Calls Tryz.prog 55 #[.int .i64 k, .int .i64 W] w (SomeBoolQ w) := by
  go_enter Tryz.func55, Tryz.ntmps55
  go_wp2_with fail
  go_loopw [5, 6] (fun vv iv wr => ∃ (i : Nat) (v : Int), i ≤ W ∧ vv = .int .i64 v ∧ iv = .int .i64 ((i : Int) + 1) ∧ wr = w) (fun _ iv _ => W + 1 - (intOf iv).toNat)
  case atStart => exact ⟨0, 1, Nat.zero_le _, rfl, rfl, rfl⟩
  case round =>
    obtain ⟨i, v, hi, rfl, rfl, rfl⟩ := hrel
    have kw : IntKind.i64.wrap ((i : Int) + 1 + 1) = (i : Int) + 1 + 1 := IntWalk.i64_in _ (by omega)
    by_cases hlt : i < W
    · have hl : (i : Int) + 1 ≤ W := by omega
      have hn0 : (i : Int) + 1 ≠ 0 := by omega
      have hn1 : (((i : Int) + 1) == 0) = false := by simp; omega
      by_cases hb : 2000 < wrap64 ((wrap64 (v * wrap64 (k + ((i : Int) + 1)))).tdiv ((i : Int) + 1))
      · have hd : decide (2000 < wrap64 ((wrap64 (v * wrap64 (k + ((i : Int) + 1)))).tdiv ((i : Int) + 1))) = true := by simpa using hb
        clear hb
        go_wp2_with fail
        go_ret
        exact ⟨_, rfl, rfl⟩
      · have hd : decide (2000 < wrap64 ((wrap64 (v * wrap64 (k + ((i : Int) + 1)))).tdiv ((i : Int) + 1))) = false := by simpa using hb
        clear hb
        go_wp2_with fail
        go_roundw
        case rel => exact ⟨i + 1, _, by omega, rfl, by go_num, by simp⟩
        case measure => simp [intOf] <;> omega
    · have hl : ¬ (i : Int) + 1 ≤ W := by omega
      have hd : decide ((i : Int) + 1 ≤ W) = false := by simpa using hl
      go_wp2_with fail
      go_ret
      exact ⟨_, rfl, rfl⟩
end

/- The walks of CheckCoset and BuildCoset of the reference's exclusion. -/
section
open Go.RowKit

set_option maxRecDepth 100000 in
set_option maxHeartbeats 1600000 in
theorem rCheckCoset26_any (P M : Int) (am : Option Addr) (mn cm : Nat) (mod : List Int) (N : Int) (a : Option Addr) (n c : Nat) (L : List (List Int)) (ay : Option Addr) (ny cy : Nat) (y : List Int) (W : Int) (ax : Option Addr) (nx cx : Nat) (ts : List (List Int)) (w : World)
    (hmod : Ints w am mn mod) (hi : Mat w a n L) (hy : Ints w ay ny y) (hts : Mat w ax nx ts) (hnc : nx ≤ cx) :
    Calls Tryz.prog 28 #[.agg #[.int .i64 P, .int .i64 M, .slice am mn cm, .int .i64 N, .slice a n c], .slice ay ny cy, .int .i64 W, .agg #[.slice ax nx cx]] w fun e w' => e = .returned (.int .i64 (chkCE P M mod N L y W ts)) ∧ Below w.heap.size w w' := by
  have HPr : Hid (cosE P M mod N L y W = 0 → ∀ V, Below w.heap.size w V → Calls Tryz.prog 54 #[.agg #[.int .i64 P, .int .i64 M, .slice am mn cm, .int .i64 N, .slice a n c, .int .i64 0, .int .i64 W, .slice ay ny cy, .bool true], .agg #[.slice ax nx cx]] V
      fun e w' => e = .returned (.int .i64 (chkCE P M mod N L y W ts)) ∧ Below V.heap.size V w') := fun h V hV => by
    obtain ⟨m, rfl⟩ : ∃ m : Nat, N = m := by
      refine Classical.byContradiction fun hn => ?_
      unfold cosE at h
      by_cases hE : codeE P M mod N L = 0
      · obtain ⟨m, hm, _⟩ := codeE_rws hE
        exact hn ⟨m, hm⟩
      · rw [if_neg hE] at h; exact hE h
    obtain ⟨hE, hyv, _, h3, h4⟩ := cosE_zero h
    obtain ⟨_, h1, h2, _⟩ := codeE_zero hE
    obtain rfl : ny = m := by rw [← hy.len]; exact hyv.1
    have h7 := rProves26_any P M am mn cm mod ny a n c L ay ny cy ⟨0, W.toNat, true, y⟩ ax nx cx ts V (hmod.keep hV) (hi.keep hV) hE true rfl (Lib.hid (rightK_cos (hmod.keep hV) (hi.keep hV) hE rfl (hy.keep hV) hyv)) (by show W.toNat ≤ 64; omega) (by omega) (hts.keep hV) hnc
    unfold rclV at h7
    dsimp only at h7
    rw [Int.toNat_of_nonneg h3] at h7
    rw [chkCE, if_pos h, Int.toNat_natCast]
    exact h7
  have HRk : Hid (∀ V, Below w.heap.size w V → Calls Tryz.prog 60 #[.agg #[.int .i64 P, .int .i64 M, .slice am mn cm, .int .i64 N, .slice a n c], .slice ay ny cy, .int .i64 W] V fun e w' => e = .returned (.int .i64 (cosE P M mod N L y W)) ∧ Below V.heap.size V w') := fun V hV =>
    rCoset26_any P M am mn cm mod N a n c L ay ny cy y W V (hmod.keep hV) (hi.keep hV) (hy.keep hV)
  obtain ⟨V0, hV0⟩ : ∃ V0, chkCE P M mod N L y W ts = V0 := ⟨_, rfl⟩
  have hV1 : cosE P M mod N L y W ≠ 0 → V0 = cosE P M mod N L y W := fun h => by rw [← hV0, chkCE, if_neg h]
  rw [hV0] at HPr ⊢
  have HV1 := Lib.hid hV1
  clear hmod hi hy hts hV0 hV1
  go_enter Tryz.func28, Tryz.ntmps28
  go_wp2_with fail
  obtain ⟨U, hU⟩ : ∃ U : World, U = (w.alloc (.cells #[.int .i64 P, .int .i64 M, .slice am mn cm, .int .i64 N, .slice a n c] 27)).alloc (.cells #[.slice ax nx cx] 30) := ⟨_, rfl⟩
  rw [← hU]
  have hbU : Below w.heap.size w U := by rw [hU]; exact below2 _ _ _
  have x0 : Box U w.heap.size [.int .i64 P, .int .i64 M, .slice am mn cm, .int .i64 N, .slice a n c] := by rw [hU]; exact (Box.new _ _ _ rfl).alloc _
  have y0 : Box U (w.heap.size + 1) [.slice ax nx cx] := by rw [hU]; exact Box.new _ _ _ (by simp)
  clear hU
  refine (HRk.out U hbU).mono ?_
  rintro e w1 ⟨rfl, hb1⟩
  have hbw1 := Below.next hbU hb1
  have x1 := x0.keep hb1
  have y1 := y0.keep hb1
  have c0 := x1.cell 0 rfl
  have c1 := x1.cell 1 rfl
  have c2 := x1.cell 2 rfl
  have c3 := x1.cell 3 rfl
  have c4 := x1.cell 4 rfl
  have d0 := y1.cell 0 rfl
  by_cases hE : cosE P M mod N L y W = 0
  · have HP2 := Lib.hid (HPr.out hE)
    rw [hE]
    clear hE x0 y0 x1 y1
    go_wp2_with fail
    refine (HP2.out _ hbw1).mono ?_
    rintro e w3 ⟨rfl, hb3⟩
    have hbF := Below.next hbw1 hb3
    go_wp2_with fail
    go_ret
    exact ⟨rfl, hbF⟩
  · have HV2 := Lib.hid (HV1.out hE)
    have hE2 : (cosE P M mod N L y W != 0) = true := by simpa using hE
    clear hE x0 y0 x1 y1
    generalize cosE P M mod N L y W = er at *
    go_wp2_with fail
    go_ret
    exact ⟨by rw [HV2.out]; rfl, hbw1⟩


set_option maxRecDepth 100000 in
set_option maxHeartbeats 1600000 in
theorem rBuildCoset26_any (P M : Int) (am : Option Addr) (mn cm : Nat) (mod : List Int) (N : Int) (a : Option Addr) (n c : Nat) (L : List (List Int)) (ay : Option Addr) (ny cy : Nat) (y : List Int) (W : Int) (w : World)
    (hmod : Ints w am mn mod) (hi : Mat w a n L) (hy : Ints w ay ny y) :
    Calls Tryz.prog 30 #[.agg #[.int .i64 P, .int .i64 M, .slice am mn cm, .int .i64 N, .slice a n c], .slice ay ny cy, .int .i64 W] w (ExBldPost (bldCE P M mod N L y W) w) := by
  obtain ⟨V0, hV0⟩ : ∃ V0, bldCE P M mod N L y W = V0 := ⟨_, rfl⟩
  have HBd : Hid (cosE P M mod N L y W = 0 → ∀ V, Below w.heap.size w V → Calls Tryz.prog 57 #[.agg #[.int .i64 P, .int .i64 M, .slice am mn cm, .int .i64 N, .slice a n c, .int .i64 0, .int .i64 W, .slice ay ny cy, .bool true], .slice none 0 0, .slice none 0 0, .slice none 0 0] V
      fun e w' => ∃ av nv cv, e = .returned (.tuple #[.slice av nv cv, .int .i64 V0.1]) ∧ Below V.heap.size V w' ∧ ((V0.1 ≠ 0 ∧ av = none ∧ nv = 0 ∧ cv = 0) ∨ (V0.1 = 0 ∧ nv = V0.2.length ∧ ∃ R, OMat w' V.heap.size av V0.2.length cv R V0.2))) := fun h V hV => by
    obtain ⟨m, rfl⟩ : ∃ m : Nat, N = m := by
      refine Classical.byContradiction fun hn => ?_
      unfold cosE at h
      by_cases hE : codeE P M mod N L = 0
      · obtain ⟨m, hm, _⟩ := codeE_rws hE
        exact hn ⟨m, hm⟩
      · rw [if_neg hE] at h; exact hE h
    obtain ⟨hE, hyv, _, h3, h4⟩ := cosE_zero h
    obtain ⟨_, h1, h2, _⟩ := codeE_zero hE
    obtain rfl : ny = m := by rw [← hy.len]; exact hyv.1
    have h7 := rBuild26_any P M am mn cm mod ny a n c L ay ny cy ⟨0, W.toNat, true, y⟩ V (hmod.keep hV) (hi.keep hV) hE true rfl (Lib.hid (rightK_cos (hmod.keep hV) (hi.keep hV) hE rfl (hy.keep hV) hyv)) (by show W.toNat ≤ 64; omega) (by omega)
      W.toNat V ⟨none, 0, [], []⟩ none 0 0 [] none 0 0 [] (by show 0 + W.toNat = W.toNat; omega) (by omega) (Below.refl _ _) (OMat.nul _ _) (by simp) (Ints.nil _ _) (Ints.nil _ _) (fun h => by omega) (fun h => by omega) (by simp) (fun x hx => by simp at hx)
    unfold rclV at h7
    dsimp only at h7
    rw [Int.toNat_of_nonneg h3] at h7
    have hb : bldS (tblOf P M.toNat mod).ops L ny ⟨0, W.toNat, true, y⟩ W.toNat [] [] [] = V0 := by
      rw [← hV0, bldCE, if_pos h, Int.toNat_natCast]; rfl
    rw [hb] at h7
    have hI : ∀ x, ¬ (BSt.I ⟨none, 0, [], []⟩ x) := fun x hx => by
      rcases hx with ⟨h0, _⟩ | ⟨i, hi, _⟩
      · exact h0 rfl
      · simp at hi
    refine h7.mono ?_
    rintro e w' (⟨g1, σ', g2, g3, g4, g5, rfl⟩ | ⟨g1, I', g5, rfl⟩)
    · refine ⟨_, _, _, by rw [g1], g5.below (fun x hx => absurd hx (hI x)) (Nat.le_refl _), .inr ⟨g1, by rw [g3], σ'.R, ?_⟩⟩
      rw [← g3]; exact g2
    · exact ⟨none, 0, 0, rfl, g5.below (fun x hx => absurd hx (hI x)) (Nat.le_refl _), .inl ⟨g1, rfl, rfl, rfl⟩⟩
  have HRk : Hid (∀ V, Below w.heap.size w V → Calls Tryz.prog 60 #[.agg #[.int .i64 P, .int .i64 M, .slice am mn cm, .int .i64 N, .slice a n c], .slice ay ny cy, .int .i64 W] V fun e w' => e = .returned (.int .i64 (cosE P M mod N L y W)) ∧ Below V.heap.size V w') := fun V hV =>
    rCoset26_any P M am mn cm mod N a n c L ay ny cy y W V (hmod.keep hV) (hi.keep hV) (hy.keep hV)
  have HV1 : Hid (cosE P M mod N L y W ≠ 0 → V0 = (cosE P M mod N L y W, [])) := fun h => by rw [← hV0, bldCE, if_neg h]
  rw [hV0]
  clear hmod hi hy hV0
  go_enter Tryz.func30, Tryz.ntmps30
  go_wp2_with fail
  obtain ⟨U, hU⟩ : ∃ U : World, U = (w.alloc (.cells #[.int .i64 P, .int .i64 M, .slice am mn cm, .int .i64 N, .slice a n c] 27)).alloc (.cells #[.slice none 0 0] 30) := ⟨_, rfl⟩
  rw [← hU]
  have hbU : Below w.heap.size w U := by rw [hU]; exact below2 _ _ _
  have x0 : Box U w.heap.size [.int .i64 P, .int .i64 M, .slice am mn cm, .int .i64 N, .slice a n c] := by rw [hU]; exact (Box.new _ _ _ rfl).alloc _
  have y0 : Box U (w.heap.size + 1) [.slice none 0 0] := by rw [hU]; exact Box.new _ _ _ (by simp)
  clear hU
  refine (HRk.out U hbU).mono ?_
  rintro e w1 ⟨rfl, hb1⟩
  have hbw1 := Below.next hbU hb1
  have x1 := x0.keep hb1
  have y1 := y0.keep hb1
  have HY := Lib.hid y1
  by_cases hE : cosE P M mod N L y W = 0
  · have HP2 := Lib.hid (HBd.out hE)
    have c0 := x1.cell 0 rfl
    have c1 := x1.cell 1 rfl
    have c2 := x1.cell 2 rfl
    have c3 := x1.cell 3 rfl
    have c4 := x1.cell 4 rfl
    rw [hE]
    clear hE x0 y0 x1 y1 HBd HRk HV1
    go_wp2_with fail
    refine (HP2.out _ hbw1).mono ?_
    rintro e w3 ⟨av, nv, cv, rfl, hb3, hV3⟩
    have y3 := HY.out.keep hb3
    have z0 := y3.cell 0 rfl
    have f0 := y3.frozen 0
    have hF : Below w.heap.size w (w3.setCell ⟨w.heap.size + 1, 0, none⟩ (.slice av nv cv)) := (Below.next hbw1 hb3).setCell (by simp) _
    have HV5 : Hid (ExBldPost V0 w (.returned (.tuple #[.agg #[.slice av nv cv], .int .i64 V0.1])) (w3.setCell ⟨w.heap.size + 1, 0, none⟩ (.slice av nv cv))) := by
      refine ⟨hF, ?_⟩
      rcases hV3 with ⟨h1, rfl, rfl, rfl⟩ | ⟨h1, rfl, R, hO⟩
      · exact .inl ⟨h1, rfl⟩
      · refine .inr ⟨h1, av, cv, R, by rw [h1], ?_⟩
        have hsU := hbw1.size
        have hy := HY.out.1
        refine (OMat.mono hO hsU).of_blocks fun x hx => Below.heap_setCell _ _ _ _ fun e => ?_
        have h2 := (hO.lt x hx).1
        have e' : x = w.heap.size + 1 := e
        omega
    clear hV3 hF y3
    obtain ⟨v1, hv1⟩ : ∃ v1, V0.1 = v1 := ⟨_, rfl⟩
    rw [hv1] at HV5 ⊢
    clear hv1
    go_wp2_with fail
    have z1 : (w3.setCell ⟨w.heap.size + 1, 0, none⟩ (.slice av nv cv)).cell? ⟨w.heap.size + 1, 0, none⟩ = some (.slice av nv cv) := World.cell?_setCell_same _ _ _ z0
    exact bodyPost_ret (v := .tuple #[.agg #[.slice av nv cv], .int .i64 v1]) (by simp [results, Tryz.results30, go_sem, z0, z1]) rfl HV5.out
  · have HE := Lib.hid (HV1.out hE)
    have hE2 : (cosE P M mod N L y W != 0) = true := by simpa using hE
    have Hne := Lib.hid hE
    have z0 := y1.cell 0 rfl
    have f0 := y1.frozen 0
    have HF := Lib.hid (fun v : Value => hbw1.setCell (p := ⟨w.heap.size + 1, 0, none⟩) (by simp) v)
    clear hE x0 y0 x1 y1 HBd HRk HV1
    generalize cosE P M mod N L y W = er at *
    go_wp2_with fail
    have z1 : (w1.setCell ⟨w.heap.size + 1, 0, none⟩ (.slice none 0 0)).cell? ⟨w.heap.size + 1, 0, none⟩ = some (.slice none 0 0) := World.cell?_setCell_same _ _ _ z0
    exact bodyPost_ret (v := .tuple #[.agg #[.slice none 0 0], .int .i64 er]) (by simp [results, Tryz.results30, go_sem, z0, z1]) rfl ⟨HF.out _, .inl ⟨by rw [HE.out]; exact Hne.out, by rw [HE.out]⟩⟩
end

/- The examples of the chapter on exclusion, reckoned (plain law). -/
section
def insS (x : Int) : List Int → List Int
  | [] => [x]
  | y :: l => if x ≤ y then x :: y :: l else y :: insS x l
def isort : List Int → List Int
  | [] => []
  | x :: l => insS x (isort l)
theorem insS_perm (x : Int) : ∀ l, (insS x l).Perm (x :: l)
  | [] => List.Perm.refl _
  | y :: l => by
    rw [insS]
    split
    · exact List.Perm.refl _
    · exact ((insS_perm x l).cons y).trans (List.Perm.swap x y l)
theorem insS_pair (x : Int) : ∀ {l : List Int}, l.Pairwise (fun a b => a ≤ b) → (insS x l).Pairwise (fun a b => a ≤ b)
  | [], _ => by simp [insS]
  | y :: l, h => by
    rw [insS]
    rw [List.pairwise_cons] at h
    split
    · rename_i hxy
      rw [List.pairwise_cons, List.pairwise_cons]
      refine ⟨fun a ha => ?_, h.1, h.2⟩
      rcases List.mem_cons.1 ha with rfl | ha
      · exact hxy
      · have := h.1 a ha; omega
    · rename_i hxy
      rw [List.pairwise_cons]
      refine ⟨fun a ha => ?_, insS_pair x h.2⟩
      rcases List.mem_cons.1 ((insS_perm x l).mem_iff.1 ha) with rfl | ha
      · omega
      · exact h.1 a ha
theorem isort_perm : ∀ l, (isort l).Perm l
  | [] => List.Perm.refl _
  | x :: l => (insS_perm x (isort l)).trans ((isort_perm l).cons x)
theorem isort_pair : ∀ l, (isort l).Pairwise (fun a b => a ≤ b)
  | [] => by simp [isort]
  | x :: l => insS_pair x (isort_pair l)
theorem sortL_isort (l : List Int) : sortL l = isort l := (sortL_unique (isort_pair l) (isort_perm l)).symm

def csetI (O : FOps) (L : List (List Int)) (m : Nat) (C : Clm) (s z : List Int) : List Int := isort (grM O L (isort z ++ frTo false (s ++ z) m) (if C.cos = true then m else C.M))
theorem csetI_eq (O : FOps) (L : List (List Int)) (m : Nat) (C : Clm) (s z : List Int) : csetS O L m C s z = csetI O L m C s z := by
  unfold csetS csetI outS
  rw [sortL_isort, sortL_isort]
def bldI (O : FOps) (L : List (List Int)) (m : Nat) (C : Clm) : Nat → List Int → List Int → List (List Int) → Int × List (List Int)
  | 0, s, z, T => if rightS O L m C s (csetI O L m C s z) = true then if T.length = 65536 then (8, []) else (0, T ++ [csetI O L m C s z]) else (11, [])
  | d + 1, s, z, T => if rightS O L m C s (csetI O L m C s z) = true then if T.length = 65536 then (8, []) else kbld (bldI O L m C d) s z (kidsS C s z (csetI O L m C s z)) (T ++ [csetI O L m C s z]) else (11, [])
theorem bldI_eq (O : FOps) (L : List (List Int)) (m : Nat) (C : Clm) : ∀ d, bldS O L m C d = bldI O L m C d
  | 0 => by
    funext s z T
    rw [bldS, bldI, csetI_eq]
  | d + 1 => by
    funext s z T
    rw [bldS, bldI, csetI_eq, bldI_eq O L m C d]
theorem treeI (O : FOps) (L : List (List Int)) (m : Nat) (C : Clm) : treeS O L m C = bldI O L m C C.W [] [] [] := by rw [treeS, bldI_eq]

def awG26 : List (List Int) := [[1, 0, 1, 0], [0, 1, 1, 1]]
theorem aw26_w2 : wtD 4 2 = 1 := by decide
theorem aw26_w3 : wtD 4 3 = 2 := by decide
theorem aw26_w1 : wtD 4 1 = 0 := by decide
theorem aw26_r21 : rkcE 2 1 [] 4 awG26 2 1 = 0 := by decide +kernel
theorem aw26_r22 : rkcE 2 1 [] 4 awG26 2 2 = 0 := by decide +kernel
theorem aw26_r12 : rkcE 2 1 [] 4 awG26 1 2 = 0 := by decide +kernel
theorem aw26_b2 : bldRE 2 1 [] 4 awG26 2 1 = (0, [[0, 1], [1, 2], [0, 2]]) := by rw [bldRE, if_pos aw26_r21, treeI]; decide +kernel
theorem aw26_b3 : bldRE 2 1 [] 4 awG26 2 2 = (11, []) := by rw [bldRE, if_pos aw26_r22, treeI]; decide +kernel
theorem aw26_b12 : bldRE 2 1 [] 4 awG26 1 2 = (0, [[0], [1], [2]]) := by rw [bldRE, if_pos aw26_r12, treeI]; decide +kernel
theorem aw26_c0 : cosE 2 1 [] 4 awG26 [1, 0, 0, 0] 0 = 0 := by decide +kernel
theorem aw26_c1 : cosE 2 1 [] 4 awG26 [1, 0, 0, 0] 1 = 0 := by decide +kernel
theorem aw26_u : bldCE 2 1 [] 4 awG26 [1, 0, 0, 0] 0 = (0, [[0, 1]]) := by rw [bldCE, if_pos aw26_c0, treeI]; decide +kernel
theorem aw26_v : bldCE 2 1 [] 4 awG26 [1, 0, 0, 0] 1 = (11, []) := by rw [bldCE, if_pos aw26_c1, treeI]; decide +kernel
theorem aw26_k1 : chkRE 2 1 [] 4 awG26 2 1 [[0, 1], [1, 2], [0, 2]] = 0 := by decide +kernel
theorem aw26_k2 : chkRE 2 1 [] 4 awG26 2 1 [[0, 1], [1, 3], [0, 2]] = 13 := by decide +kernel
theorem aw26_k3 : chkRE 2 1 [] 4 awG26 2 0 [[0, 1], [1, 2], [0, 2]] = 13 := by decide +kernel
theorem aw26_k4 : chkCE 2 1 [] 4 awG26 [1, 0, 0, 0] 0 [[0, 1]] = 0 := by decide +kernel
theorem aw26_k5 : chkCE 2 1 [] 4 awG26 [1, 0, 0, 0] 1 [[0, 1]] = 13 := by decide +kernel
theorem aw26_k6 : chkRE 2 1 [] 4 awG26 1 2 [[0], [1], [2]] = 0 := by decide +kernel
end

/- The walk of codewrightlaw26.awake. -/
section
open Go.RowKit

theorem lits (V : World) (l : List Int) (cs : Array Value) (h : cs = (l.map (Value.int .i64)).toArray) (hl : l.length ≤ 1000) {g : Nat} (hg : g = V.heap.size) : Ints (V.alloc (.cells cs 3)) (some ⟨g, 0, none⟩) l.length l := by
  subst h
  refine ⟨rfl, fun _ => rfl, by unfold maxLen; omega, fun i hi => ?_⟩
  have h1 := cell_alloc_at V ((l.map (Value.int .i64)).toArray) 3 hg i
  rw [nth_getElem hi]
  simpa [ablk, aoff, hi] using h1
theorem mlit1 (V : World) {p : Addr} {n1 c1 : Nat} {l1 : List Int} (h1 : Ints V (some p) n1 l1) {g : Nat} (hg : g = V.heap.size) : Mat (V.alloc (.cells #[.slice (some p) n1 c1] 22)) (some ⟨g, 0, none⟩) 1 [l1] :=
  ⟨rfl, fun _ => rfl, by unfold maxLen; omega, fun k hk => by
    have h := cell_alloc_at V #[.slice (some p) n1 c1] 22 hg k
    match k, hk with
    | 0, _ => exact ⟨some p, n1, c1, h, h1.keep (below1 _ _)⟩⟩
theorem mlit2 (V : World) {p q : Addr} {n1 n2 c1 c2 : Nat} {l1 l2 : List Int} (h1 : Ints V (some p) n1 l1) (h2 : Ints V (some q) n2 l2) {g : Nat} (hg : g = V.heap.size) : Mat (V.alloc (.cells #[.slice (some p) n1 c1, .slice (some q) n2 c2] 22)) (some ⟨g, 0, none⟩) 2 [l1, l2] :=
  ⟨rfl, fun _ => rfl, by unfold maxLen; omega, fun k hk => by
    have h := cell_alloc_at V #[.slice (some p) n1 c1, .slice (some q) n2 c2] 22 hg k
    match k, hk with
    | 0, _ => exact ⟨some p, n1, c1, h, h1.keep (below1 _ _)⟩
    | 1, _ => exact ⟨some q, n2, c2, h, h2.keep (below1 _ _)⟩⟩
theorem mlit3 (V : World) {p q r : Addr} {n1 n2 n3 c1 c2 c3 : Nat} {l1 l2 l3 : List Int} (h1 : Ints V (some p) n1 l1) (h2 : Ints V (some q) n2 l2) (h3 : Ints V (some r) n3 l3) {g : Nat} (hg : g = V.heap.size) :
    Mat (V.alloc (.cells #[.slice (some p) n1 c1, .slice (some q) n2 c2, .slice (some r) n3 c3] 22)) (some ⟨g, 0, none⟩) 3 [l1, l2, l3] :=
  ⟨rfl, fun _ => rfl, by unfold maxLen; omega, fun k hk => by
    have h := cell_alloc_at V #[.slice (some p) n1 c1, .slice (some q) n2 c2, .slice (some r) n3 c3] 22 hg k
    match k, hk with
    | 0, _ => exact ⟨some p, n1, c1, h, h1.keep (below1 _ _)⟩
    | 1, _ => exact ⟨some q, n2, c2, h, h2.keep (below1 _ _)⟩
    | 2, _ => exact ⟨some r, n3, c3, h, h3.keep (below1 _ _)⟩⟩
/-- three lists of two, literal -/
theorem two3 (V : World) (x1 y1 x2 y2 x3 y3 : Int) : Mat ((((V.alloc (.cells #[.int .i64 x1, .int .i64 y1] 3)).alloc (.cells #[.int .i64 x2, .int .i64 y2] 3)).alloc (.cells #[.int .i64 x3, .int .i64 y3] 3)).alloc
    (.cells #[.slice (some ⟨V.heap.size, 0, none⟩) 2 2, .slice (some ⟨V.heap.size + 1, 0, none⟩) 2 2, .slice (some ⟨V.heap.size + 1 + 1, 0, none⟩) 2 2] 22)) (some ⟨V.heap.size + 1 + 1 + 1, 0, none⟩) 3 [[x1, y1], [x2, y2], [x3, y3]] := by
  have i1 := lits V [x1, y1] #[.int .i64 x1, .int .i64 y1] rfl (by simp) rfl
  have i2 := lits (V.alloc (.cells #[.int .i64 x1, .int .i64 y1] 3)) [x2, y2] #[.int .i64 x2, .int .i64 y2] rfl (by simp) (g := V.heap.size + 1) (by simp)
  have i3 := lits ((V.alloc (.cells #[.int .i64 x1, .int .i64 y1] 3)).alloc (.cells #[.int .i64 x2, .int .i64 y2] 3)) [x3, y3] #[.int .i64 x3, .int .i64 y3] rfl (by simp) (g := V.heap.size + 1 + 1) (by simp)
  exact mlit3 _ ((i1.keep (below1 _ _)).keep (below1 _ _)) (i2.keep (below1 _ _)) i3 (by simp)
theorem one3 (V : World) (x1 x2 x3 : Int) : Mat ((((V.alloc (.cells #[.int .i64 x1] 3)).alloc (.cells #[.int .i64 x2] 3)).alloc (.cells #[.int .i64 x3] 3)).alloc
    (.cells #[.slice (some ⟨V.heap.size, 0, none⟩) 1 1, .slice (some ⟨V.heap.size + 1, 0, none⟩) 1 1, .slice (some ⟨V.heap.size + 1 + 1, 0, none⟩) 1 1] 22)) (some ⟨V.heap.size + 1 + 1 + 1, 0, none⟩) 3 [[x1], [x2], [x3]] := by
  have i1 := lits V [x1] #[.int .i64 x1] rfl (by simp) rfl
  have i2 := lits (V.alloc (.cells #[.int .i64 x1] 3)) [x2] #[.int .i64 x2] rfl (by simp) (g := V.heap.size + 1) (by simp)
  have i3 := lits ((V.alloc (.cells #[.int .i64 x1] 3)).alloc (.cells #[.int .i64 x2] 3)) [x3] #[.int .i64 x3] rfl (by simp) (g := V.heap.size + 1 + 1) (by simp)
  exact mlit3 _ ((i1.keep (below1 _ _)).keep (below1 _ _)) (i2.keep (below1 _ _)) i3 (by simp)
theorem two1 (V : World) (x1 y1 : Int) : Mat ((V.alloc (.cells #[.int .i64 x1, .int .i64 y1] 3)).alloc (.cells #[.slice (some ⟨V.heap.size, 0, none⟩) 2 2] 22)) (some ⟨V.heap.size + 1, 0, none⟩) 1 [[x1, y1]] :=
  mlit1 _ (lits V [x1, y1] #[.int .i64 x1, .int .i64 y1] rfl (by simp) rfl) (by simp)
theorem below4 (w : World) (o1 o2 o3 o4 : Obj) : Below w.heap.size w ((((w.alloc o1).alloc o2).alloc o3).alloc o4) := Below.next (below3 w o1 o2 o3) (below1 _ _)
set_option maxRecDepth 100000 in
set_option maxHeartbeats 16000000 in
theorem awake26_any (w : World) : Calls Tryz.prog 14 #[] w fun e w' => e = .returned (.bool true) ∧ Below w.heap.size w w' := by
  go_enter Tryz.func14, Tryz.ntmps14
  go_upto_region 1 with fail
  go_cut [1] (fun v wx => ∃ g gm, v = .pointer (some ⟨g, 0, none⟩) ∧ Box wx g [.int .i64 2, .int .i64 1, .slice none 0 0, .int .i64 4, .slice (some ⟨gm, 0, none⟩) 2 2] ∧ Mat wx (some ⟨gm, 0, none⟩) 2 awG26 ∧ Below w.heap.size w wx)
  case first =>
    go_wp2_with fail
    go_meet
    have i1 := lits w [1, 0, 1, 0] #[.int .i64 1, .int .i64 0, .int .i64 1, .int .i64 0] rfl (by decide) rfl
    have i2 := lits (w.alloc (.cells #[.int .i64 1, .int .i64 0, .int .i64 1, .int .i64 0] 3)) [0, 1, 1, 1] #[.int .i64 0, .int .i64 1, .int .i64 1, .int .i64 1] rfl (by decide) (g := w.heap.size + 1) (by simp)
    have hm := mlit2 (c1 := 4) (c2 := 4) _ (i1.keep (below1 _ (.cells #[.int .i64 0, .int .i64 1, .int .i64 1, .int .i64 1] 3))) i2 (g := w.heap.size + 1 + 1) (by simp)
    have hm2 := hm.keep (below1 _ (.cells #[.int .i64 2, .int .i64 1, .slice none 0 0, .int .i64 4, .slice (some ⟨w.heap.size + 1 + 1, 0, none⟩) 2 2] 27))
    exact ⟨_, w.heap.size + 1 + 1, rfl, Box.new _ [.int .i64 2, .int .i64 1, .slice none 0 0, .int .i64 4, .slice (some ⟨w.heap.size + 1 + 1, 0, none⟩) 2 2] _ (by simp), hm2, below4 _ _ _ _ _⟩
  obtain ⟨g, gm, rfl, hx, hM, hbW⟩ := hcut
  generalize wc = W at *
  have HS : Hid (∀ V, Below W.heap.size W V → V.cell? ⟨g, 0, none⟩ = some (.int .i64 2) ∧ V.cell? ⟨g, 1, none⟩ = some (.int .i64 1) ∧ V.cell? ⟨g, 2, none⟩ = some (.slice none 0 0) ∧ V.cell? ⟨g, 3, none⟩ = some (.int .i64 4) ∧ V.cell? ⟨g, 4, none⟩ = some (.slice (some ⟨gm, 0, none⟩) 2 2)) := fun V hV => by
    have h := hx.keep hV
    exact ⟨h.cell 0 rfl, h.cell 1 rfl, h.cell 2 rfl, h.cell 3 rfl, h.cell 4 rfl⟩
  have HB2 : Hid (∀ V, Below W.heap.size W V → Calls Tryz.prog 23 #[.agg #[.int .i64 2, .int .i64 1, .slice none 0 0, .int .i64 4, .slice (some ⟨gm, 0, none⟩) 2 2], .int .i64 2] V (ExBldPost ((0, [[0, 1], [1, 2], [0, 2]])) V)) := fun V hV => by
    have h := exBuildDistance_any 2 1 none 0 0 [] 4 (some ⟨gm, 0, none⟩) 2 2 awG26 2 V (Ints.nil _ _) (hM.keep hV)
    rw [aw26_w2] at h
    rw [← aw26_b2]
    exact h
  have HB3 : Hid (∀ V, Below W.heap.size W V → Calls Tryz.prog 23 #[.agg #[.int .i64 2, .int .i64 1, .slice none 0 0, .int .i64 4, .slice (some ⟨gm, 0, none⟩) 2 2], .int .i64 3] V (ExBldPost ((11, [])) V)) := fun V hV => by
    have h := exBuildDistance_any 2 1 none 0 0 [] 4 (some ⟨gm, 0, none⟩) 2 2 awG26 3 V (Ints.nil _ _) (hM.keep hV)
    rw [aw26_w3] at h
    rw [← aw26_b3]
    exact h
  have HBR : Hid (∀ V, Below W.heap.size W V → Calls Tryz.prog 20 #[.agg #[.int .i64 2, .int .i64 1, .slice none 0 0, .int .i64 4, .slice (some ⟨gm, 0, none⟩) 2 2], .int .i64 1, .int .i64 2] V (ExBldPost ((0, [[0], [1], [2]])) V)) := fun V hV => by
    rw [← aw26_b12]
    exact exBuildRank_any 2 1 none 0 0 [] 4 (some ⟨gm, 0, none⟩) 2 2 awG26 1 2 V (Ints.nil _ _) (hM.keep hV)
  have HBC0 : Hid (∀ V gy, Below W.heap.size W V → Ints V (some ⟨gy, 0, none⟩) 4 [1, 0, 0, 0] → Calls Tryz.prog 29 #[.agg #[.int .i64 2, .int .i64 1, .slice none 0 0, .int .i64 4, .slice (some ⟨gm, 0, none⟩) 2 2], .slice (some ⟨gy, 0, none⟩) 4 4, .int .i64 0] V (ExBldPost ((0, [[0, 1]])) V)) := fun V gy hV hy => by
    rw [← aw26_u]
    exact exBuildCoset_any 2 1 none 0 0 [] 4 (some ⟨gm, 0, none⟩) 2 2 awG26 (some ⟨gy, 0, none⟩) 4 4 [1, 0, 0, 0] 0 V (Ints.nil _ _) (hM.keep hV) hy
  have HBC1 : Hid (∀ V gy, Below W.heap.size W V → Ints V (some ⟨gy, 0, none⟩) 4 [1, 0, 0, 0] → Calls Tryz.prog 29 #[.agg #[.int .i64 2, .int .i64 1, .slice none 0 0, .int .i64 4, .slice (some ⟨gm, 0, none⟩) 2 2], .slice (some ⟨gy, 0, none⟩) 4 4, .int .i64 1] V (ExBldPost ((11, [])) V)) := fun V gy hV hy => by
    rw [← aw26_v]
    exact exBuildCoset_any 2 1 none 0 0 [] 4 (some ⟨gm, 0, none⟩) 2 2 awG26 (some ⟨gy, 0, none⟩) 4 4 [1, 0, 0, 0] 1 V (Ints.nil _ _) (hM.keep hV) hy
  have HCD : Hid (∀ V ax cx d ts r, wtD 4 d = r → Below W.heap.size W V → Mat V ax 3 ts → Calls Tryz.prog 25 #[.agg #[.int .i64 2, .int .i64 1, .slice none 0 0, .int .i64 4, .slice (some ⟨gm, 0, none⟩) 2 2], .int .i64 d, .agg #[.slice ax 3 cx]] V fun e w' => e = .returned (.int .i64 (chkRE 2 1 [] 4 awG26 2 r ts)) ∧ Below V.heap.size V w') := fun V ax cx d ts r hr hV ht => by
    rw [← hr]
    exact exCheckDistance_any 2 1 none 0 0 [] 4 (some ⟨gm, 0, none⟩) 2 2 awG26 d ax 3 cx ts V (Ints.nil _ _) (hM.keep hV) ht
  have HCC : Hid (∀ V gy ax cx k ts, Below W.heap.size W V → Ints V (some ⟨gy, 0, none⟩) 4 [1, 0, 0, 0] → Mat V ax 1 ts → Calls Tryz.prog 27 #[.agg #[.int .i64 2, .int .i64 1, .slice none 0 0, .int .i64 4, .slice (some ⟨gm, 0, none⟩) 2 2], .slice (some ⟨gy, 0, none⟩) 4 4, .int .i64 k, .agg #[.slice ax 1 cx]] V fun e w' => e = .returned (.int .i64 (chkCE 2 1 [] 4 awG26 [1, 0, 0, 0] k ts)) ∧ Below V.heap.size V w') := fun V gy ax cx k ts hV hy ht =>
    exCheckCoset_any 2 1 none 0 0 [] 4 (some ⟨gm, 0, none⟩) 2 2 awG26 (some ⟨gy, 0, none⟩) 4 4 [1, 0, 0, 0] k ax 1 cx ts V (Ints.nil _ _) (hM.keep hV) hy ht
  have HCR : Hid (∀ V ax cx ts, Below W.heap.size W V → Mat V ax 3 ts → Calls Tryz.prog 17 #[.agg #[.int .i64 2, .int .i64 1, .slice none 0 0, .int .i64 4, .slice (some ⟨gm, 0, none⟩) 2 2], .int .i64 1, .int .i64 2, .agg #[.slice ax 3 cx]] V fun e w' => e = .returned (.int .i64 (chkRE 2 1 [] 4 awG26 1 2 ts)) ∧ Below V.heap.size V w') := fun V ax cx ts hV ht =>
    exCheckRank_any 2 1 none 0 0 [] 4 (some ⟨gm, 0, none⟩) 2 2 awG26 1 2 ax 3 cx ts V (Ints.nil _ _) (hM.keep hV) ht
  have HW := Lib.hid hbW
  clear hx hM hbW
  have ky := below1 W (.cells #[.int .i64 1, .int .i64 0, .int .i64 0, .int .i64 0] 3)
  have HY := Lib.hid (fun V hV => (lits W [1, 0, 0, 0] #[.int .i64 1, .int .i64 0, .int .i64 0, .int .i64 0] rfl (by decide) rfl).keep hV : ∀ V, Below (W.alloc (.cells #[.int .i64 1, .int .i64 0, .int .i64 0, .int .i64 0] 3)).heap.size (W.alloc (.cells #[.int .i64 1, .int .i64 0, .int .i64 0, .int .i64 0] 3)) V → Ints V (some ⟨W.heap.size, 0, none⟩) 4 [1, 0, 0, 0])
  obtain ⟨c0, c1, c2, c3, c4⟩ := HS.out _ ky
  have Hc := Lib.hid (HB2.out _ ky)
  go_wp2_with fail
  refine Hc.out.mono ?_
  rintro e V1 ⟨b1, ⟨h0, _⟩ | ⟨_, a1, k1, R1, rfl, hO1⟩⟩
  · exact absurd rfl h0
  have n1 := below1 V1 (.cells #[.slice a1 3 k1] 30)
  have e1 := Below.next b1 n1
  have HT1 := Lib.hid (fun V hV => ⟨((Box.new V1 [.slice a1 3 k1] 30 rfl).keep hV).cell 0 rfl, (hO1.mat.keep n1).keep hV⟩ : ∀ V, Below (V1.alloc (.cells #[.slice a1 3 k1] 30)).heap.size (V1.alloc (.cells #[.slice a1 3 k1] 30)) V → V.cell? ⟨V1.heap.size, 0, none⟩ = some (.slice a1 3 k1) ∧ Mat V a1 3 [[0, 1], [1, 2], [0, 2]])
  clear c0 c1 c2 c3 c4 Hc hO1
  obtain ⟨c0, c1, c2, c3, c4⟩ := HS.out _ (Below.next ky e1)
  have Hc := Lib.hid (HB3.out _ (Below.next ky e1))
  go_wp2_with fail
  refine Hc.out.mono ?_
  rintro e V2 ⟨b2, ⟨_, rfl⟩ | ⟨h0, _⟩⟩
  rotate_left
  · exact absurd h0 (by decide)
  have n2 := below1 V2 (.cells #[.slice none 0 0] 30)
  have f2 := Below.next b2 n2
  have e2 := Below.next e1 f2
  clear c0 c1 c2 c3 c4 Hc
  obtain ⟨c0, c1, c2, c3, c4⟩ := HS.out _ (Below.next ky e2)
  have Hc := Lib.hid (HBC0.out _ W.heap.size (Below.next ky e2) (HY.out _ e2))
  go_wp2_with fail
  refine Hc.out.mono ?_
  rintro e V3 ⟨b3, ⟨h0, _⟩ | ⟨_, a3, k3, R3, rfl, hO3⟩⟩
  · exact absurd rfl h0
  have n3 := below1 V3 (.cells #[.slice a3 1 k3] 30)
  have f3 := Below.next b3 n3
  have e3 := Below.next e2 f3
  have HT3 := Lib.hid (fun V hV => ⟨((Box.new V3 [.slice a3 1 k3] 30 rfl).keep hV).cell 0 rfl, (hO3.mat.keep n3).keep hV⟩ : ∀ V, Below (V3.alloc (.cells #[.slice a3 1 k3] 30)).heap.size (V3.alloc (.cells #[.slice a3 1 k3] 30)) V → V.cell? ⟨V3.heap.size, 0, none⟩ = some (.slice a3 1 k3) ∧ Mat V a3 1 [[0, 1]])
  clear c0 c1 c2 c3 c4 Hc hO3
  obtain ⟨c0, c1, c2, c3, c4⟩ := HS.out _ (Below.next ky e3)
  have Hc := Lib.hid (HBC1.out _ W.heap.size (Below.next ky e3) (HY.out _ e3))
  go_wp2_with fail
  refine Hc.out.mono ?_
  rintro e V4 ⟨b4, ⟨_, rfl⟩ | ⟨h0, _⟩⟩
  rotate_left
  · exact absurd h0 (by decide)
  have n4 := below1 V4 (.cells #[.slice none 0 0] 30)
  have f4 := Below.next b4 n4
  have e4 := Below.next e3 f4
  clear c0 c1 c2 c3 c4 Hc
  obtain ⟨c0, c1, c2, c3, c4⟩ := HS.out _ (Below.next ky e4)
  have Hc := Lib.hid (HBR.out _ (Below.next ky e4))
  go_wp2_with fail
  refine Hc.out.mono ?_
  rintro e V5 ⟨b5, ⟨h0, _⟩ | ⟨_, a5, k5, R5, rfl, hO5⟩⟩
  · exact absurd rfl h0
  have n5 := below1 V5 (.cells #[.slice a5 3 k5] 30)
  have f5 := Below.next b5 n5
  have e5 := Below.next e4 f5
  have g35 := Below.next f4 f5
  have g15 := Below.next (Below.next f2 f3) g35
  have HT5 := Lib.hid (fun V hV => ⟨((Box.new V5 [.slice a5 3 k5] 30 rfl).keep hV).cell 0 rfl, (hO5.mat.keep n5).keep hV⟩ : ∀ V, Below (V5.alloc (.cells #[.slice a5 3 k5] 30)).heap.size (V5.alloc (.cells #[.slice a5 3 k5] 30)) V → V.cell? ⟨V5.heap.size, 0, none⟩ = some (.slice a5 3 k5) ∧ Mat V a5 3 [[0], [1], [2]])
  have HE5 := Lib.hid (Below.next ky e5)
  have HE5y := Lib.hid e5
  have HG15 := Lib.hid g15
  have HG35 := Lib.hid g35
  clear c0 c1 c2 c3 c4 Hc hO5 b1 b2 b3 b4 b5 n1 n2 n3 n4 n5 e1 e2 e3 e4 e5 f2 f3 f4 f5 g15 g35
  have dd1 := (HT1.out _ HG15.out).1
  go_upto_region 8 with fail
  obtain ⟨X, hX⟩ : ∃ X, X = V5.alloc (.cells #[.slice a5 3 k5] 30) := ⟨_, rfl⟩
  rw [← hX] at HE5 HE5y HT5 HG15 HG35 dd1 ⊢
  clear hX
  have q1 := below4 X (.cells #[.int .i64 0, .int .i64 1] 3) (.cells #[.int .i64 1, .int .i64 2] 3) (.cells #[.int .i64 0, .int .i64 2] 3) (.cells #[.slice (some ⟨X.heap.size, 0, none⟩) 2 2, .slice (some ⟨X.heap.size + 1, 0, none⟩) 2 2, .slice (some ⟨X.heap.size + 1 + 1, 0, none⟩) 2 2] 22)
  have Hc := Lib.hid (rSameRows_any a1 3 k1 [[0, 1], [1, 2], [0, 2]] _ 3 3 [[0, 1], [1, 2], [0, 2]] (HT1.out _ (Below.next HG15.out q1)).2 (two3 X 0 1 1 2 0 2))
  rw [decide_eq_true rfl] at Hc
  go_wp2_with fail
  refine Hc.out.mono ?_
  rintro e Y1 ⟨rfl, r1⟩
  have s1 := Below.next q1 r1.below
  have dd3 := (HT3.out _ (Below.next HG35.out s1)).1
  have q2 := below2 Y1 (.cells #[.int .i64 0, .int .i64 1] 3) (.cells #[.slice (some ⟨Y1.heap.size, 0, none⟩) 2 2] 22)
  have Hc2 := Lib.hid (rSameRows_any a3 1 k3 [[0, 1]] _ 1 1 [[0, 1]] (HT3.out _ (Below.next HG35.out (Below.next s1 q2))).2 (two1 Y1 0 1))
  rw [decide_eq_true rfl] at Hc2
  clear Hc q1 r1 dd1
  go_wp2_with fail
  refine Hc2.out.mono ?_
  rintro e Y2 ⟨rfl, r2⟩
  have s2 := Below.next s1 (Below.next q2 r2.below)
  have dd5 := (HT5.out _ s2).1
  have q3 := below4 Y2 (.cells #[.int .i64 0] 3) (.cells #[.int .i64 1] 3) (.cells #[.int .i64 2] 3) (.cells #[.slice (some ⟨Y2.heap.size, 0, none⟩) 1 1, .slice (some ⟨Y2.heap.size + 1, 0, none⟩) 1 1, .slice (some ⟨Y2.heap.size + 1 + 1, 0, none⟩) 1 1] 22)
  have Hc3 := Lib.hid (rSameRows_any a5 3 k5 [[0], [1], [2]] _ 3 3 [[0], [1], [2]] (HT5.out _ (Below.next s2 q3)).2 (one3 Y2 0 1 2))
  rw [decide_eq_true rfl] at Hc3
  clear Hc2 q2 r2 dd3 s1
  go_wp2_with fail
  refine Hc3.out.mono ?_
  rintro e Y3 ⟨rfl, r3⟩
  have s3 := Below.next s2 (Below.next q3 r3.below)
  clear Hc3 q3 r3 dd5 s2
  go_upto_region 13 with fail
  have w4 := below4 Y3 (.cells #[.int .i64 0, .int .i64 1] 3) (.cells #[.int .i64 1, .int .i64 3] 3) (.cells #[.int .i64 0, .int .i64 2] 3) (.cells #[.slice (some ⟨Y3.heap.size, 0, none⟩) 2 2, .slice (some ⟨Y3.heap.size + 1, 0, none⟩) 2 2, .slice (some ⟨Y3.heap.size + 1 + 1, 0, none⟩) 2 2] 22)
  have hbad := two3 Y3 0 1 1 3 0 2
  obtain ⟨Y4, hY4⟩ : ∃ Y4, Y4 = ((((Y3.alloc (.cells #[.int .i64 0, .int .i64 1] 3)).alloc (.cells #[.int .i64 1, .int .i64 3] 3)).alloc (.cells #[.int .i64 0, .int .i64 2] 3)).alloc (.cells #[.slice (some ⟨Y3.heap.size, 0, none⟩) 2 2, .slice (some ⟨Y3.heap.size + 1, 0, none⟩) 2 2, .slice (some ⟨Y3.heap.size + 1 + 1, 0, none⟩) 2 2] 22)) := ⟨_, rfl⟩
  have hsz4 : Y4.heap.size = Y3.heap.size + 1 + 1 + 1 + 1 := by rw [hY4]; simp
  rw [← hY4] at w4 hbad ⊢
  have nb := below1 Y4 (.cells #[.slice (some ⟨Y3.heap.size + 1 + 1 + 1, 0, none⟩) 3 3] 30)
  have HBad := Lib.hid (fun V hV => ⟨((Box.new Y4 [.slice (some ⟨Y3.heap.size + 1 + 1 + 1, 0, none⟩) 3 3] 30 hsz4.symm).keep hV).cell 0 rfl, (hbad.keep nb).keep hV⟩ : ∀ V, Below (Y4.alloc (.cells #[.slice (some ⟨Y3.heap.size + 1 + 1 + 1, 0, none⟩) 3 3] 30)).heap.size (Y4.alloc (.cells #[.slice (some ⟨Y3.heap.size + 1 + 1 + 1, 0, none⟩) 3 3] 30)) V →
    V.cell? ⟨Y3.heap.size + 1 + 1 + 1 + 1, 0, none⟩ = some (.slice (some ⟨Y3.heap.size + 1 + 1 + 1, 0, none⟩) 3 3) ∧ Mat V (some ⟨Y3.heap.size + 1 + 1 + 1, 0, none⟩) 3 [[0, 1], [1, 3], [0, 2]])
  obtain ⟨Z, hZ⟩ : ∃ Z, Z = Y4.alloc (.cells #[.slice (some ⟨Y3.heap.size + 1 + 1 + 1, 0, none⟩) 3 3] 30) := ⟨_, rfl⟩
  rw [← hZ] at nb HBad ⊢
  have z0 := Below.next s3 (Below.next w4 nb)
  clear hY4 hZ hbad w4 nb hsz4 s3
  obtain ⟨c0, c1, c2, c3, c4⟩ := HS.out _ (Below.next HE5.out z0)
  have dt := (HT1.out _ (Below.next HG15.out z0))
  have dt1 := dt.1
  have Hk := Lib.hid (HCD.out _ a1 k1 2 [[0, 1], [1, 2], [0, 2]] 1 aw26_w2 (Below.next HE5.out z0) dt.2)
  rw [aw26_k1] at Hk
  go_wp2_with fail
  refine Hk.out.mono ?_
  rintro e Z1 ⟨rfl, m1⟩
  have z1 := Below.next z0 m1
  clear c0 c1 c2 c3 c4 Hk
  clear dt dt1
  obtain ⟨c0, c1, c2, c3, c4⟩ := HS.out _ (Below.next HE5.out z1)
  have dt := (HBad.out _ m1)
  have dt1 := dt.1
  have Hk := Lib.hid (HCD.out _ _ 3 2 [[0, 1], [1, 3], [0, 2]] 1 aw26_w2 (Below.next HE5.out z1) dt.2)
  rw [aw26_k2] at Hk
  go_wp2_with fail
  refine Hk.out.mono ?_
  rintro e Z2 ⟨rfl, m2⟩
  have z2 := Below.next z1 m2
  clear c0 c1 c2 c3 c4 Hk
  clear dt dt1
  obtain ⟨c0, c1, c2, c3, c4⟩ := HS.out _ (Below.next HE5.out z2)
  have dt := (HT1.out _ (Below.next HG15.out z2))
  have dt1 := dt.1
  have Hk := Lib.hid (HCD.out _ a1 k1 1 [[0, 1], [1, 2], [0, 2]] 0 aw26_w1 (Below.next HE5.out z2) dt.2)
  rw [aw26_k3] at Hk
  go_wp2_with fail
  refine Hk.out.mono ?_
  rintro e Z3 ⟨rfl, m3⟩
  have z3 := Below.next z2 m3
  clear c0 c1 c2 c3 c4 Hk
  clear dt dt1
  obtain ⟨c0, c1, c2, c3, c4⟩ := HS.out _ (Below.next HE5.out z3)
  have dt := (HT3.out _ (Below.next HG35.out z3))
  have dt1 := dt.1
  have Hk := Lib.hid (HCC.out _ W.heap.size a3 k3 0 [[0, 1]] (Below.next HE5.out z3) (HY.out _ (Below.next HE5y.out z3)) dt.2)
  rw [aw26_k4] at Hk
  go_wp2_with fail
  refine Hk.out.mono ?_
  rintro e Z4 ⟨rfl, m4⟩
  have z4 := Below.next z3 m4
  clear c0 c1 c2 c3 c4 Hk
  clear dt dt1
  obtain ⟨c0, c1, c2, c3, c4⟩ := HS.out _ (Below.next HE5.out z4)
  have dt := (HT3.out _ (Below.next HG35.out z4))
  have dt1 := dt.1
  have Hk := Lib.hid (HCC.out _ W.heap.size a3 k3 1 [[0, 1]] (Below.next HE5.out z4) (HY.out _ (Below.next HE5y.out z4)) dt.2)
  rw [aw26_k5] at Hk
  go_wp2_with fail
  refine Hk.out.mono ?_
  rintro e Z5 ⟨rfl, m5⟩
  have z5 := Below.next z4 m5
  clear c0 c1 c2 c3 c4 Hk
  clear dt dt1
  obtain ⟨c0, c1, c2, c3, c4⟩ := HS.out _ (Below.next HE5.out z5)
  have dt := (HT5.out _ z5)
  have dt1 := dt.1
  have Hk := Lib.hid (HCR.out _ a5 k5 [[0], [1], [2]] (Below.next HE5.out z5) dt.2)
  rw [aw26_k6] at Hk
  go_wp2_with fail
  refine Hk.out.mono ?_
  rintro e Z6 ⟨rfl, m6⟩
  have z6 := Below.next z5 m6
  clear c0 c1 c2 c3 c4 Hk
  clear dt dt1
  have hF := Below.next HW.out (Below.next HE5.out z6)
  go_wp2_with fail
  go_ret
  exact ⟨rfl, hF⟩
end

/- The walks of codewrightref09.Few, codewrightref12.Few, codewrightlaw25.few: they end with some answer. -/
section
open Go.RowKit

def SomeBool (w : World) (e : Ending) (w' : World) : Prop := ∃ z, e = .returned (.bool z) ∧ Below w.heap.size w w'

set_option maxRecDepth 100000 in
set_option maxHeartbeats 3200000 in
theorem rFew9_any (a : Option Addr) (n c K : Nat) (L : List (List Int)) (w : World) (hi : Mat w a n L) (hK : K ≤ 100000) :
    Calls Tryz.prog 50 #[.agg #[.int .i64 0, .slice a n c], .int .i64 K] w (SomeBool w) := by
  have Hlen := Lib.hid hi.len
  have hpl := hi.pl
  have hmax := hi.max
  unfold maxLen at hmax
  go_enter Tryz.func50, Tryz.ntmps50
  go_upto_region 1 with fail
  obtain ⟨W, hW⟩ : ∃ W : World, W = w.alloc (.cells #[.int .i64 0, .slice a n c] 52) := ⟨_, rfl⟩
  rw [← hW]
  have hbW : Below w.heap.size w W := by rw [hW]; exact below1 _ _
  have x0 : Box W w.heap.size [.int .i64 0, .slice a n c] := by rw [hW]; exact Box.new _ _ _ rfl
  have c0 := x0.cell 0 rfl
  have c1 := x0.cell 1 rfl
  have hiW := hi.keep hbW
  have HbW := Lib.hid hbW
  clear hW x0 hi hbW
  by_cases h1 : K < n
  · have d1 : decide (K < n) = true := by simpa using h1
    have d1' : decide ((K : Int) < n) = true := by simp; omega
    go_wp2_with fail
    go_ret
    exact ⟨_, rfl, HbW.out⟩
  · have d1 : decide (K < n) = false := by simpa using h1
    have d1' : decide ((K : Int) < n) = false := by simp; omega
    go_wp2_with fail
    go_loopw [5, 6] (fun lv iv wr => ∃ k m : Nat, k ≤ n ∧ m ≤ K ∧ lv = .int .i64 m ∧ iv = .int .i64 k ∧ wr = W) (fun _ iv _ => n - (intOf iv).toNat)
    case atStart => exact ⟨0, K - n, Nat.zero_le _, by omega, by go_num, rfl, rfl⟩
    case round =>
      obtain ⟨k, m, hk, hm, rfl, rfl, rfl⟩ := hrel
      by_cases hlt : k < n
      · obtain ⟨ra, rn, rc, hcell, hrow⟩ := hiW.cell k hlt
        by_cases h2 : m < rn
        · have d2 : decide (m < rn) = true := by simpa using h2
          have d2' : decide ((m : Int) < rn) = true := by simp; omega
          go_wp2_with fail
          go_ret
          exact ⟨_, rfl, HbW.out⟩
        · have d2 : decide (m < rn) = false := by simpa using h2
          have d2' : decide ((m : Int) < rn) = false := by simp; omega
          have d3 : (rn : Int) ≤ m := by omega
          go_wp2_with fail
          go_roundw
          case rel => exact ⟨k + 1, m - rn, by omega, by omega, by go_num, by go_num, by first | rfl | trivial⟩
          case measure => simp [intOf] <;> omega
      · obtain rfl : k = n := by omega
        go_wp2_with fail
        go_ret
        exact ⟨_, rfl, HbW.out⟩

set_option maxRecDepth 100000 in
theorem rFew12_any (P M : Int) (am : Option Addr) (mn cm : Nat) (N : Int) (a : Option Addr) (n c K : Nat) (L : List (List Int)) (w : World) (hi : Mat w a n L) (hK : K ≤ 100000) :
    Calls Tryz.prog 49 #[.agg #[.int .i64 P, .int .i64 M, .slice am mn cm, .int .i64 N, .slice a n c], .int .i64 K] w (SomeBool w) := by
  have H := Lib.hid (fun V hV => rFew9_any a n c K L V (hi.keep hV) hK : ∀ V, Below w.heap.size w V → _)
  clear hi
  go_enter Tryz.func49, Tryz.ntmps49
  go_wp2_with fail
  have hbW := below1 w (.cells #[.int .i64 P, .int .i64 M, .slice am mn cm, .int .i64 N, .slice a n c] 27)
  refine (H.out _ hbW).mono ?_
  rintro e w1 ⟨z, rfl, hb1⟩
  have hF := Below.next hbW hb1
  go_wp2_with fail
  go_ret
  exact ⟨z, rfl, hF⟩
end

end Go.Proofs.YtapjcccpokhhhaaGreat
