/- The walks of CheckRank and CheckDistance of the reference's exclusion. -/
import Derived.Test.YtapjcccpokhhhaaGreatG32
import Derived.Test.YtapjcccpokhhhaaGreatG31
import Derived.Test.YtapjcccpokhhhaaGreatG28
namespace Go.Proofs.YtapjcccpokhhhaaGreat
set_option linter.unusedVariables false
set_option linter.unusedSimpArgs false
set_option linter.unusedSectionVars false

/- The walks of CheckRank and CheckDistance of the reference's exclusion. -/
section
open Go.RowKit

def provF : Option (List (List Int)) → Int
  | some [] => 0
  | _ => 13
theorem provS_F (O : FOps) (L : List (List Int)) (m : Nat) (C : Clm) (T : List (List Int)) : provS O L m C T = provF (folS O L m C C.W [] [] T) := by
  unfold provS provF
  cases folS O L m C C.W [] [] T with
  | none => rfl
  | some r => cases r <;> rfl
set_option maxRecDepth 100000 in
set_option maxHeartbeats 1600000 in
theorem rProves26_any (P M : Int) (am : Option Addr) (mn cm : Nat) (mod : List Int) (m : Nat) (a : Option Addr) (n c : Nat) (L : List (List Int)) (ay : Option Addr) (ny cy : Nat) (C : Clm) (ax : Option Addr) (nx cx : Nat) (ts : List (List Int)) (w : World)
    (hmod : Ints w am mn mod) (hi : Mat w a n L) (hE : codeE P M mod m L = 0) (hc : C.cos = false) (hw6 : C.W ≤ 64) (hm6 : m ≤ 64) (hts : Mat w ax nx ts) (hnc : nx ≤ cx) :
    Calls Tryz.prog 54 #[rclV P M am mn cm m a n c ay ny cy C, .agg #[.slice ax nx cx]] w fun e w' => e = .returned (.int .i64 (provS (tblOf P M.toNat mod).ops L m C ts)) ∧ Below w.heap.size w w' := by
  obtain ⟨PR, hPR⟩ : ∃ PR, provS (tblOf P M.toNat mod).ops L m C ts = PR := ⟨_, rfl⟩
  rw [hPR]
  have HFo0 : ∀ V, Below w.heap.size w V → Calls Tryz.prog 97 #[rclV P M am mn cm m a n c ay ny cy C, .slice none 0 0, .slice none 0 0, .slice ax nx cx] V (FolPost (folS (tblOf P M.toNat mod).ops L m C C.W [] [] ts) V) := fun V hV =>
    rFollow26_any P M am mn cm mod m a n c L ay ny cy C w hmod hi hE hc hw6 hm6 C.W V none 0 0 [] none 0 0 [] ax nx cx ts (by omega) (by omega) hnc hV (Ints.nil _ _) (Ints.nil _ _) (hts.keep hV) (by simp) (fun x hx => by simp at hx)
  obtain ⟨RF, hRF⟩ : ∃ RF, folS (tblOf P M.toNat mod).ops L m C C.W [] [] ts = RF := ⟨_, rfl⟩
  rw [hRF] at HFo0
  have hP2 : PR = provF RF := by rw [← hPR, ← hRF]; exact provS_F _ _ _ _ _
  unfold rclV at HFo0 ⊢
  rw [hc]
  simp only [hc] at HFo0
  have HFo := Lib.hid HFo0
  have HP2 := Lib.hid hP2
  clear hPR hRF HFo0 hP2 hmod hi hE hc hw6 hm6 hts
  go_enter Tryz.func54, Tryz.ntmps54
  go_wp2_with fail
  refine (HFo.out _ (below2 w _ _)).mono ?_
  rintro e w2 ⟨hb2, rv, ov, rfl, hFV⟩
  have hbF := Below.next (below2 w _ _) hb2
  rcases hFV with ⟨h1, rfl, rfl⟩ | ⟨rest, a12, c12, h1, rfl, rfl, hM12, h12⟩
  · have HP : Hid (PR = 13) := by show _ = _; rw [HP2.out, h1]; rfl
    clear h1
    go_wp2_with fail
    go_ret
    exact ⟨by rw [HP.out]; rfl, hbF⟩
  · cases rest with
    | nil =>
      have HP : Hid (PR = 0) := by show _ = _; rw [HP2.out, h1]; rfl
      clear h1 hM12 h12
      rw [List.length_nil]
      go_wp2_with fail
      go_ret
      exact ⟨by rw [HP.out]; rfl, hbF⟩
    | cons x rest =>
      have HP : Hid (PR = 13) := by show _ = _; rw [HP2.out, h1]; rfl
      obtain ⟨k, hk⟩ : ∃ k, (x :: rest).length = k := ⟨_, rfl⟩
      have hk0 : 0 < k := by rw [← hk]; simp
      rw [hk]
      clear h1 hM12 h12 hk
      have hd : decide ((0 : Int) < (k : Int)) = true := by simp; omega
      go_wp2_with fail
      go_ret
      exact ⟨by rw [HP.out]; rfl, hbF⟩

set_option maxRecDepth 100000 in
set_option maxHeartbeats 1600000 in
theorem rRank26_any (P M : Int) (am : Option Addr) (mn cm : Nat) (mod : List Int) (N : Int) (a : Option Addr) (n c : Nat) (L : List (List Int)) (mm W : Int) (w : World) (hmod : Ints w am mn mod) (hi : Mat w a n L) :
    Calls Tryz.prog 53 #[.agg #[.int .i64 P, .int .i64 M, .slice am mn cm, .int .i64 N, .slice a n c], .int .i64 mm, .int .i64 W] w fun e w' => e = .returned (.int .i64 (rkcE P M mod N L mm W)) ∧ Below w.heap.size w w' := by
  have Hil := Lib.hid hi.len
  go_enter Tryz.func53, Tryz.ntmps53
  go_wp2_with fail
  obtain ⟨U, hU⟩ : ∃ U : World, U = w.alloc (.cells #[.int .i64 P, .int .i64 M, .slice am mn cm, .int .i64 N, .slice a n c] 27) := ⟨_, rfl⟩
  rw [← hU]
  have hbU : Below w.heap.size w U := by rw [hU]; exact below1 _ _
  have x0 : Box U w.heap.size [.int .i64 P, .int .i64 M, .slice am mn cm, .int .i64 N, .slice a n c] := by rw [hU]; exact Box.new _ _ _ rfl
  have HX := Lib.hid x0
  clear hU x0
  refine (rCheck_any P M am mn cm mod N a n c L U (hmod.keep hbU) (hi.keep hbU)).mono ?_
  rintro e w1 ⟨rfl, hb1⟩
  have hbF := Below.next hbU hb1
  have x1 := HX.out.keep hb1
  have c3 := x1.cell 3 rfl
  have c4 := x1.cell 4 rfl
  clear x1
  by_cases hE : codeE P M mod N L = 0
  · have HE : Hid (rkcE P M mod N L mm W = if mm < 0 ∨ (n : Int) < mm ∨ W < 0 ∨ N < W then 6 else 0) := by show _ = _; rw [rkcE, if_pos hE, Hil.out]
    rw [hE]
    clear hE
    by_cases h1 : mm < 0
    · have HE2 : Hid (rkcE P M mod N L mm W = 6) := by show _ = _; rw [HE.out, if_pos (.inl h1)]
      have d1 : decide (mm < 0) = true := by simpa using h1
      clear h1
      go_wp2_with fail
      go_ret
      exact ⟨by rw [HE2.out]; rfl, hbF⟩
    have d1 : decide (mm < 0) = false := by simpa using h1
    by_cases h2 : (n : Int) < mm
    · have HE2 : Hid (rkcE P M mod N L mm W = 6) := by show _ = _; rw [HE.out, if_pos (.inr (.inl h2))]
      have d2 : decide ((n : Int) < mm) = true := by simpa using h2
      clear h1 h2
      go_wp2_with fail
      go_ret
      exact ⟨by rw [HE2.out]; rfl, hbF⟩
    have d2 : decide ((n : Int) < mm) = false := by simpa using h2
    by_cases h3 : W < 0
    · have HE2 : Hid (rkcE P M mod N L mm W = 6) := by show _ = _; rw [HE.out, if_pos (.inr (.inr (.inl h3)))]
      have d3 : decide (W < 0) = true := by simpa using h3
      clear h1 h2 h3
      go_wp2_with fail
      go_ret
      exact ⟨by rw [HE2.out]; rfl, hbF⟩
    have d3 : decide (W < 0) = false := by simpa using h3
    by_cases h4 : N < W
    · have HE2 : Hid (rkcE P M mod N L mm W = 6) := by show _ = _; rw [HE.out, if_pos (.inr (.inr (.inr h4)))]
      have d4 : decide (N < W) = true := by simpa using h4
      clear h1 h2 h3 h4
      go_wp2_with fail
      go_ret
      exact ⟨by rw [HE2.out]; rfl, hbF⟩
    have d4 : decide (N < W) = false := by simpa using h4
    have HE2 : Hid (rkcE P M mod N L mm W = 0) := by
      show _ = _
      rw [HE.out, if_neg]
      rintro (h | h | h | h)
      · exact h1 h
      · exact h2 h
      · exact h3 h
      · exact h4 h
    clear h1 h2 h3 h4
    go_wp2_with fail
    go_ret
    exact ⟨by rw [HE2.out]; rfl, hbF⟩
  · have HE : Hid (rkcE P M mod N L mm W = codeE P M mod N L) := if_neg hE
    have hE1 : (codeE P M mod N L == 0) = false := by simpa using hE
    clear hE
    generalize codeE P M mod N L = er at *
    go_wp2_with fail
    go_ret
    exact ⟨by rw [HE.out]; rfl, hbF⟩

theorem rkc_env {P M : Int} {mod : List Int} {N : Int} {L : List (List Int)} {mm W : Int} (h : rkcE P M mod N L mm W = 0) : codeE P M mod N L = 0 ∧ 1 ≤ N ∧ N ≤ 64 ∧ 0 ≤ mm ∧ mm ≤ L.length ∧ 0 ≤ W ∧ W ≤ N := by
  have hE := rkc_code h
  obtain ⟨_, h1, h2, _⟩ := codeE_zero hE
  unfold rkcE at h
  rw [if_pos hE] at h
  by_cases hx : mm < 0 ∨ (L.length : Int) < mm ∨ W < 0 ∨ N < W
  · rw [if_pos hx] at h; cases h
  · refine ⟨hE, h1, h2, ?_, ?_, ?_, ?_⟩ <;> (refine Classical.byContradiction fun hh => hx ?_) 
    · exact .inl (by omega)
    · exact .inr (.inl (by omega))
    · exact .inr (.inr (.inl (by omega)))
    · exact .inr (.inr (.inr (by omega)))

set_option maxRecDepth 100000 in
set_option maxHeartbeats 1600000 in
theorem rCheckRank26_any (P M : Int) (am : Option Addr) (mn cm : Nat) (mod : List Int) (N : Int) (a : Option Addr) (n c : Nat) (L : List (List Int)) (mm W : Int) (ax : Option Addr) (nx cx : Nat) (ts : List (List Int)) (w : World)
    (hmod : Ints w am mn mod) (hi : Mat w a n L) (hts : Mat w ax nx ts) (hnc : nx ≤ cx) :
    Calls Tryz.prog 18 #[.agg #[.int .i64 P, .int .i64 M, .slice am mn cm, .int .i64 N, .slice a n c], .int .i64 mm, .int .i64 W, .agg #[.slice ax nx cx]] w fun e w' => e = .returned (.int .i64 (chkRE P M mod N L mm W ts)) ∧ Below w.heap.size w w' := by
  have HPr : Hid (rkcE P M mod N L mm W = 0 → ∀ V, Below w.heap.size w V → Calls Tryz.prog 54 #[.agg #[.int .i64 P, .int .i64 M, .slice am mn cm, .int .i64 N, .slice a n c, .int .i64 mm, .int .i64 W, .slice none 0 0, .bool false], .agg #[.slice ax nx cx]] V
      fun e w' => e = .returned (.int .i64 (chkRE P M mod N L mm W ts)) ∧ Below V.heap.size V w') := fun h V hV => by
    obtain ⟨hE, h1, h2, h3, h4, h5, h6⟩ := rkc_env h
    have h7 := rProves26_any P M am mn cm mod N.toNat a n c L none 0 0 ⟨mm.toNat, W.toNat, false, []⟩ ax nx cx ts V (hmod.keep hV) (hi.keep hV) (by rw [Int.toNat_of_nonneg (by omega)]; exact hE) rfl (by show W.toNat ≤ 64; omega) (by omega) (hts.keep hV) hnc
    unfold rclV at h7
    dsimp only at h7
    rw [Int.toNat_of_nonneg (show 0 ≤ N by omega), Int.toNat_of_nonneg h3, Int.toNat_of_nonneg h5] at h7
    rw [chkRE, if_pos h]
    exact h7
  have HRk : Hid (∀ V, Below w.heap.size w V → Calls Tryz.prog 53 #[.agg #[.int .i64 P, .int .i64 M, .slice am mn cm, .int .i64 N, .slice a n c], .int .i64 mm, .int .i64 W] V fun e w' => e = .returned (.int .i64 (rkcE P M mod N L mm W)) ∧ Below V.heap.size V w') := fun V hV =>
    rRank26_any P M am mn cm mod N a n c L mm W V (hmod.keep hV) (hi.keep hV)
  obtain ⟨V0, hV0⟩ : ∃ V0, chkRE P M mod N L mm W ts = V0 := ⟨_, rfl⟩
  have hV1 : rkcE P M mod N L mm W ≠ 0 → V0 = rkcE P M mod N L mm W := fun h => by rw [← hV0, chkRE, if_neg h]
  rw [hV0] at HPr ⊢
  have HV1 := Lib.hid hV1
  clear hmod hi hts hV0 hV1
  go_enter Tryz.func18, Tryz.ntmps18
  go_wp2_with fail
  obtain ⟨U, hU⟩ : ∃ U : World, U = (w.alloc (.cells #[.int .i64 P, .int .i64 M, .slice am mn cm, .int .i64 N, .slice a n c] 27)).alloc (.cells #[.slice ax nx cx] 30) := ⟨_, rfl⟩
  rw [← hU]
  have hbU : Below w.heap.size w U := by rw [hU]; exact below2 _ _ _
  have x0 : Box U w.heap.size [.int .i64 P, .int .i64 M, .slice am mn cm, .int .i64 N, .slice a n c] := by rw [hU]; exact (Box.new _ _ _ rfl).alloc _
  have y0 : Box U (w.heap.size + 1) [.slice ax nx cx] := by rw [hU]; exact Box.new _ _ _ (by simp)
  clear hU
  refine (HRk.out U hbU).mono ?_
  rintro e w1 ⟨rfl, hb1⟩
  have hbw1 := Below.next hbU hb1
  have x1 := x0.keep hb1
  have y1 := y0.keep hb1
  have c0 := x1.cell 0 rfl
  have c1 := x1.cell 1 rfl
  have c2 := x1.cell 2 rfl
  have c3 := x1.cell 3 rfl
  have c4 := x1.cell 4 rfl
  have d0 := y1.cell 0 rfl
  by_cases hE : rkcE P M mod N L mm W = 0
  · have HP2 := Lib.hid (HPr.out hE)
    rw [hE]
    clear hE x0 y0 x1 y1
    go_wp2_with fail
    refine (HP2.out _ hbw1).mono ?_
    rintro e w3 ⟨rfl, hb3⟩
    have hbF := Below.next hbw1 hb3
    go_wp2_with fail
    go_ret
    exact ⟨rfl, hbF⟩
  · have HV2 := Lib.hid (HV1.out hE)
    have hE2 : (rkcE P M mod N L mm W != 0) = true := by simpa using hE
    clear hE x0 y0 x1 y1
    generalize rkcE P M mod N L mm W = er at *
    go_wp2_with fail
    go_ret
    exact ⟨by rw [HV2.out]; rfl, hbw1⟩
end

end Go.Proofs.YtapjcccpokhhhaaGreat
