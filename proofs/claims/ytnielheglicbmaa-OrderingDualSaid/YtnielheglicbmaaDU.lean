/- OrderingDual: the statement. -/
import Derived.Test.YtnielheglicbmaaE8
import Derived.Test.YtnielheglicbmaaE7
import Derived.Test.YtnielheglicbmaaE3
import Derived.Test.YtnielheglicbmaaC7
import Derived.Test.YtnielheglicbmaaRows
namespace Go.Proofs.Ytnielheglicbmaa
set_option linter.unusedVariables false
set_option linter.unusedSimpArgs false
set_option linter.unusedSectionVars false

/- The walk of code.Dual. -/
section
open Go.RowKit

def DualPost (P M : Int) (mod : List Int) (m : Nat) (L : List (List Int)) (w : World) (e : Ending) (w' : World) : Prop :=
  ∃ a1 c1 a2 c2, e = .returned (.tuple #[.agg #[.int .i64 P, .int .i64 M, .slice a1 mod.length c1, .int .i64 m, .slice a2 (dualL (tblOf P M.toNat mod) L m).length c2], .int .i64 0]) ∧ IntsN w.heap.size w' a1 mod.length mod ∧
    MatN w.heap.size w' a2 (dualL (tblOf P M.toNat mod) L m).length (dualL (tblOf P M.toNat mod) L m) ∧ Below w.heap.size w w'

theorem set_two {w : World} {g : Nat} {x y u v : Value} (h0 : w.cell? ⟨g, 0, none⟩ = some x) (h1 : w.cell? ⟨g, 1, none⟩ = some y) :
    ((w.setCell ⟨g, 0, none⟩ u).setCell ⟨g, 1, none⟩ v).cell? ⟨g, 0, none⟩ = some u ∧ ((w.setCell ⟨g, 0, none⟩ u).setCell ⟨g, 1, none⟩ v).cell? ⟨g, 1, none⟩ = some v := by
  have e1 : (w.setCell ⟨g, 0, none⟩ u).cell? ⟨g, 0, none⟩ = some u := World.cell?_setCell_same w _ _ h0
  have e2 : (w.setCell ⟨g, 0, none⟩ u).cell? ⟨g, 1, none⟩ = some y := by rw [World.cell?_setCell_other _ _ _ _ (by simp)]; exact h1
  exact ⟨by rw [World.cell?_setCell_other _ _ _ _ (by simp)]; exact e1, World.cell?_setCell_same _ _ _ e2⟩

set_option maxRecDepth 100000 in
set_option maxHeartbeats 4000000 in
theorem dual_any (P M : Int) (am : Option Addr) (mn cm : Nat) (mod : List Int) (m : Nat) (a : Option Addr) (n c : Nat) (L : List (List Int)) (w : World) (hmod : Ints w am mn mod) (hi : Mat w a n L) (hE : codeE P M mod m L = 0) (hmn : mn ≤ 1000000) :
    Calls Try.prog 25 #[.agg #[.int .i64 P, .int .i64 M, .slice am mn cm, .int .i64 m, .slice a n c]] w (DualPost P M mod m L w) := by
  go_enter Try.func25, Try.ntmps25
  go_wp2_with fail
  obtain ⟨W, hW⟩ : ∃ W : World, W = (w.alloc (.cells #[.int .i64 P, .int .i64 M, .slice am mn cm, .int .i64 m, .slice a n c] 27)).alloc (.cells #[.int .i64 0, .int .i64 0, .slice none 0 0, .int .i64 0, .slice none 0 0] 27) := ⟨_, rfl⟩
  rw [← hW]
  have hbW : Below w.heap.size w W := by rw [hW]; exact below2 _ _ _
  have hsW : W.heap.size = w.heap.size + 2 := by rw [hW]; simp
  have x0 : Box W w.heap.size [.int .i64 P, .int .i64 M, .slice am mn cm, .int .i64 m, .slice a n c] := by rw [hW]; exact (Box.new _ _ _ rfl).alloc _
  have z0 : Box W (w.heap.size + 1) [.int .i64 0, .int .i64 0, .slice none 0 0, .int .i64 0, .slice none 0 0] := by rw [hW]; exact Box.new _ _ _ (by simp)
  clear hW
  refine (codeCheck_any P M am mn cm mod m a n c L W (hmod.keep hbW) (hi.keep hbW)).mono ?_
  rintro e w1 ⟨rfl, hb1⟩
  have hbw1 := Below.next hbW hb1
  have HK : Hid (∀ V, Below w1.heap.size w1 V → Calls Try.prog 41 #[.agg #[.int .i64 P, .int .i64 M, .slice am mn cm], .agg #[.int .i64 m, .slice a n c]] V (KerPost (tblOf P M.toNat mod) L m V)) := fun V hV =>
    kernel_any P M am mn cm mod m a n c L V (hmod.keep (Below.next hbw1 hV)) (hi.keep (Below.next hbw1 hV)) hE
  have HO : Hid (∀ V a5 k5 c5, Below w1.heap.size w1 V → Calls Try.prog 43 #[.agg #[.int .i64 P, .int .i64 M, .slice am mn cm], .agg #[.int .i64 m, .slice a5 k5 c5], .int .i64 0] V (OfPost P M mod m a5 k5 c5 V)) := fun V a5 k5 c5 hV =>
    of_any P M am mn cm mod m a5 k5 c5 V (hmod.keep (Below.next hbw1 hV)) hmn
  have HPost : Hid (∀ a1 c1 a2 c2 w', IntsN w.heap.size w' a1 mod.length mod → MatN w.heap.size w' a2 (dualL (tblOf P M.toNat mod) L m).length (dualL (tblOf P M.toNat mod) L m) → Below w.heap.size w w' →
      DualPost P M mod m L w (.returned (.tuple #[.agg #[.int .i64 P, .int .i64 M, .slice a1 mod.length c1, .int .i64 m, .slice a2 (dualL (tblOf P M.toNat mod) L m).length c2], .int .i64 0])) w') := fun a1 c1 a2 c2 w' h1 h2 h3 => ⟨a1, c1, a2, c2, rfl, h1, h2, h3⟩
  rw [hE]
  unfold KerPost at HK
  obtain ⟨KM, hKM⟩ : ∃ KM, dualL (tblOf P M.toNat mod) L m = KM := ⟨_, rfl⟩
  rw [hKM] at HK HPost
  have hS : ∀ V, Below w1.heap.size w1 V → V.cell? ⟨w.heap.size, 0, none⟩ = some (.int .i64 P) ∧ V.cell? ⟨w.heap.size, 1, none⟩ = some (.int .i64 M) ∧ V.cell? ⟨w.heap.size, 2, none⟩ = some (.slice am mn cm) ∧ V.cell? ⟨w.heap.size, 3, none⟩ = some (.int .i64 m) ∧ V.cell? ⟨w.heap.size, 4, none⟩ = some (.slice a n c) ∧
      Box V (w.heap.size + 1) [.int .i64 0, .int .i64 0, .slice none 0 0, .int .i64 0, .slice none 0 0] := fun V hV => by
    have x1 := (x0.keep hb1).keep hV
    exact ⟨x1.cell 0 rfl, x1.cell 1 rfl, x1.cell 2 rfl, x1.cell 3 rfl, x1.cell 4 rfl, (z0.keep hb1).keep hV⟩
  have HS := Lib.hid hS
  have Hbw1 := Lib.hid hbw1
  have HsW : Hid (w.heap.size + 2 ≤ w1.heap.size) := by show _ ≤ _; rw [← hsW]; exact hb1.size
  obtain ⟨c0, c1, c2, c3, c4, _⟩ := HS.out w1 (Below.refl _ _)
  obtain ⟨q, hq⟩ : ∃ q, KM.length = q := ⟨_, rfl⟩
  rw [hq] at HK HPost
  clear hE hKM hS x0 z0 hbW hsW hmod hi hb1 hbw1 hq
  go_wp2_with fail
  go_cut [5, 6] (fun v5 v6 wx => ∃ g a5 c5, v5 = .pointer (some ⟨g, 0, none⟩) ∧ v6 = .int .i64 0 ∧ wx.cell? ⟨g, 0, none⟩ = some (.int .i64 m) ∧ wx.cell? ⟨g, 1, none⟩ = some (.slice a5 q c5) ∧ MatN w1.heap.size wx a5 q KM ∧ Below w1.heap.size w1 wx)
  case first =>
    obtain ⟨b0, b1, b2, b3, b4, _⟩ := HS.out (w1.alloc (.cells #[.int .i64 0, .slice none 0 0] 59)) (below1 _ _)
    go_region_law ((first
      | (go_simp; go_at_call 42; ((with_reducible refine (gen_any P M am mn cm m a n c _).mono ?_); rintro e w4 ⟨rfl, hb4⟩; have hb04 : Below w1.heap.size w1 w4 := (by first | exact Below.next (Below.refl _ _).drew hb4 | exact Below.next (below1 _ (.cells #[.int .i64 0, .slice none 0 0] 59)).drew hb4 | exact Below.next (Below.allocN (Below.refl _ _).drew _) hb4); obtain ⟨c0, c1, c2, c3, c4, _⟩ := HS.out w4 hb04; obtain ⟨d0, d1, d2, d3, d4, _⟩ := HS.out (w4.alloc (.cells #[.int .i64 0, .slice none 0 0] 59)) (Below.allocN hb04 _); (first | (have gz0 := cell_keep hb4 (cell_alloc_at (g := w1.heap.size) w1 #[.int .i64 0, .slice none 0 0] 59 rfl 0); have gz1 := cell_keep hb4 (cell_alloc_at (g := w1.heap.size) w1 #[.int .i64 0, .slice none 0 0] 59 rfl 1); have gf0 := frozen_keep hb4 (by simp) (frozen_at (g := w1.heap.size) w1 #[.int .i64 0, .slice none 0 0] 59 rfl 0); have gf1 := frozen_keep hb4 (by simp) (frozen_at (g := w1.heap.size) w1 #[.int .i64 0, .slice none 0 0] 59 rfl 1)) | skip)))
      | (go_simp; go_at_call 41; ((with_reducible refine (HK.out _ (by first | exact hb04 | exact Below.allocN hb04 _)).mono ?_); rintro e w5 ⟨a5, c5, rfl, hN5, hb5⟩; have hb05 : Below w1.heap.size w1 w5 := (by first | exact Below.next hb04 hb5 | exact Below.next (Below.allocN hb04 _) hb5); (first | (have gy0 := cell_keep hb5 gz0; have gy1 := cell_keep hb5 gz1; have gh0 := frozen_keep hb5 (World.block_lt_of_cell? _ _ gz0) gf0; have gh1 := frozen_keep hb5 (World.block_lt_of_cell? _ _ gz1) gf1) | (have gy0 := cell_keep hb5 (cell_alloc_at w4 #[.int .i64 0, .slice none 0 0] 59 rfl 0); have gy1 := cell_keep hb5 (cell_alloc_at w4 #[.int .i64 0, .slice none 0 0] 59 rfl 1); have gh0 := frozen_keep hb5 (by simp) (frozen_at w4 #[.int .i64 0, .slice none 0 0] 59 rfl 0); have gh1 := frozen_keep hb5 (by simp) (frozen_at w4 #[.int .i64 0, .slice none 0 0] 59 rfl 1)) | skip)))))
    all_goals (go_wp2_with fail; go_meet)
    all_goals (first
      | exact ⟨w5.heap.size, a5, c5, rfl, rfl, cell_alloc_at _ _ _ rfl 0, cell_alloc_at _ _ _ rfl 1, (hN5.keep (below1 _ _)).mono (by first | exact hb04.size | exact (Below.allocN hb04 _).size), Below.allocN hb05 _⟩
      | exact ⟨w1.heap.size, a5, c5, rfl, rfl, (set_two gy0 gy1).1, (set_two gy0 gy1).2, ((hN5.setCell (p := ⟨w1.heap.size, 0, none⟩) (World.block_lt_of_cell? _ _ gz0) _).setCell (p := ⟨w1.heap.size, 1, none⟩) (World.block_lt_of_cell? _ _ gz1) _).mono hb04.size, (hb05.setCell (p := ⟨w1.heap.size, 0, none⟩) (Nat.le_refl _) _).setCell (p := ⟨w1.heap.size, 1, none⟩) (Nat.le_refl _) _⟩
      | exact ⟨w4.heap.size, a5, c5, rfl, rfl, (set_two gy0 gy1).1, (set_two gy0 gy1).2, ((hN5.setCell (p := ⟨w4.heap.size, 0, none⟩) (by simp) _).setCell (p := ⟨w4.heap.size, 1, none⟩) (by simp) _).mono (Below.allocN hb04 _).size, (hb05.setCell (p := ⟨w4.heap.size, 0, none⟩) hb04.size _).setCell (p := ⟨w4.heap.size, 1, none⟩) hb04.size _⟩)
  obtain ⟨g, a5, c5, rfl, rfl, g0, g1, hN5, hb5⟩ := hcut
  generalize wc = V at *
  obtain ⟨c0, c1, c2, c3, c4, zz⟩ := HS.out V hb5
  have HOV := Lib.hid (HO.out V a5 q c5 hb5)
  clear HK HO
  go_wp2_with fail
  refine HOV.out.mono ?_
  rintro e w6 ⟨a6, c6, rfl, hN6, hb6⟩
  obtain ⟨_, _, _, _, _, zz6⟩ := HS.out w6 (Below.next hb5 hb6)
  have z0 := zz6.cell 0 rfl
  have z1 := zz6.cell 1 rfl
  have z2 := zz6.cell 2 rfl
  have z3 := zz6.cell 3 rfl
  have z4 := zz6.cell 4 rfl
  have f0 := zz6.frozen 0
  have f1 := zz6.frozen 1
  have f2 := zz6.frozen 2
  have f3 := zz6.frozen 3
  have f4 := zz6.frozen 4
  have hbF := Below.next Hbw1.out (Below.next hb5 hb6)
  have hs := HsW.out
  have hs2 := hb5.size
  have hM6 := hN5.keep hb6
  have hFin := HPost.out a6 c6 a5 c5 (((((w6.setCell ⟨w.heap.size + 1, 0, none⟩ (.int .i64 P)).setCell ⟨w.heap.size + 1, 1, none⟩ (.int .i64 M)).setCell ⟨w.heap.size + 1, 2, none⟩ (.slice a6 mod.length c6)).setCell ⟨w.heap.size + 1, 3, none⟩ (.int .i64 m)).setCell ⟨w.heap.size + 1, 4, none⟩ (.slice a5 q c5))
    ((((((hN6.setCell (p := ⟨w.heap.size + 1, 0, none⟩) (by simp; omega) _).setCell (p := ⟨w.heap.size + 1, 1, none⟩) (by simp; omega) _).setCell (p := ⟨w.heap.size + 1, 2, none⟩) (by simp; omega) _).setCell (p := ⟨w.heap.size + 1, 3, none⟩) (by simp; omega) _).setCell (p := ⟨w.heap.size + 1, 4, none⟩) (by simp; omega) _).mono (by omega))
    ((((((hM6.setCell (p := ⟨w.heap.size + 1, 0, none⟩) (by simp; omega) _).setCell (p := ⟨w.heap.size + 1, 1, none⟩) (by simp; omega) _).setCell (p := ⟨w.heap.size + 1, 2, none⟩) (by simp; omega) _).setCell (p := ⟨w.heap.size + 1, 3, none⟩) (by simp; omega) _).setCell (p := ⟨w.heap.size + 1, 4, none⟩) (by simp; omega) _).mono (by omega))
    (((((hbF.setCell (p := ⟨w.heap.size + 1, 0, none⟩) (by simp) _).setCell (p := ⟨w.heap.size + 1, 1, none⟩) (by simp) _).setCell (p := ⟨w.heap.size + 1, 2, none⟩) (by simp) _).setCell (p := ⟨w.heap.size + 1, 3, none⟩) (by simp) _).setCell (p := ⟨w.heap.size + 1, 4, none⟩) (by simp) _)
  have HFin := Lib.hid hFin
  clear hFin hM6 hN5 hN6 HOV zz zz6
  go_wp2_with fail
  exact bodyPost_ret (v := .tuple #[.agg #[.int .i64 P, .int .i64 M, .slice a6 mod.length c6, .int .i64 m, .slice a5 q c5], .int .i64 0]) (by simp [results, Try.results25, go_sem, z0, z1, z2, z3, z4]) rfl HFin.out
end

/- The walk of OrderingDual. -/
section
open Go.RowKit

set_option maxRecDepth 100000 in
set_option maxHeartbeats 4000000 in
theorem dualLaw_any (P M : Int) (am : Option Addr) (mn cm : Nat) (mod : List Int) (N : Int) (a : Option Addr) (n c : Nat) (L : List (List Int)) (ao : Option Addr) (no co : Nat) (Q : List Int) (w : World)
    (hmod : Ints w am mn mod) (hi : Mat w a n L) (hq : Ints w ao no Q) :
    Calls Try.prog 9 #[.agg #[.int .i64 P, .int .i64 M, .slice am mn cm, .int .i64 N, .slice a n c], .slice ao no co] w fun e w' => e = .returned (.bool true) ∧ Below w.heap.size w w' := by
  have H1 : Hid (∀ V, Below w.heap.size w V → Calls Try.prog 24 #[.agg #[.int .i64 P, .int .i64 M, .slice am mn cm, .int .i64 N, .slice a n c], .slice ao no co] V fun e w' => e = .returned (.tuple #[.int .i64 (widV P M mod N L Q).1, .int .i64 (widV P M mod N L Q).2]) ∧ Below V.heap.size V w') :=
    fun V hV => ordWidthE_any P M am mn cm mod N a n c L ao no co Q V (hmod.keep hV) (hi.keep hV) (hq.keep hV)
  have H2 : Hid (∀ V, Below w.heap.size w V → Calls Try.prog 23 #[.agg #[.int .i64 P, .int .i64 M, .slice am mn cm, .int .i64 N, .slice a n c], .slice ao no co] V fun e w' => e = .returned (.int .i64 (ordE P M mod N L Q)) ∧ Below V.heap.size V w') :=
    fun V hV => rOrder48_any P M am mn cm mod N a n c L ao no co Q V (hmod.keep hV) (hi.keep hV) (hq.keep hV)
  have HM := Lib.hid (And.intro hmod (And.intro hi hq))
  clear hmod hi hq
  go_enter Try.func9, Try.ntmps9
  go_wp2_with fail
  obtain ⟨W, hW⟩ : ∃ W : World, W = w.alloc (.cells #[.int .i64 P, .int .i64 M, .slice am mn cm, .int .i64 N, .slice a n c] 27) := ⟨_, rfl⟩
  rw [← hW]
  have hbW : Below w.heap.size w W := by rw [hW]; exact below1 _ _
  have x0 : Box W w.heap.size [.int .i64 P, .int .i64 M, .slice am mn cm, .int .i64 N, .slice a n c] := by rw [hW]; exact Box.new _ _ _ rfl
  have hS : ∀ V, Below W.heap.size W V → V.cell? ⟨w.heap.size, 0, none⟩ = some (.int .i64 P) ∧ V.cell? ⟨w.heap.size, 1, none⟩ = some (.int .i64 M) ∧ V.cell? ⟨w.heap.size, 2, none⟩ = some (.slice am mn cm) ∧ V.cell? ⟨w.heap.size, 3, none⟩ = some (.int .i64 N) ∧ V.cell? ⟨w.heap.size, 4, none⟩ = some (.slice a n c) := by
    intro V hV
    have x2 := x0.keep hV
    exact ⟨x2.cell 0 rfl, x2.cell 1 rfl, x2.cell 2 rfl, x2.cell 3 rfl, x2.cell 4 rfl⟩
  have HS := Lib.hid hS
  have HbW := Lib.hid hbW
  clear hW x0 hS
  refine (alive_any W).mono ?_
  rintro e w1 ⟨rfl, hb1⟩
  obtain ⟨c0, c1, c2, c3, c4⟩ := HS.out w1 hb1
  go_wp2_with fail
  refine (H1.out w1 (Below.next hbW hb1)).mono ?_
  rintro e w2 ⟨rfl, hb2⟩
  have hb02 := Below.next hb1 hb2
  clear c0 c1 c2 c3 c4 H1
  obtain ⟨c0, c1, c2, c3, c4⟩ := HS.out w2 hb02
  go_wp2_with fail
  refine (H2.out w2 (Below.next hbW hb02)).mono ?_
  rintro e w3 ⟨rfl, hb3⟩
  have hb03 := Below.next hb02 hb3
  clear c0 c1 c2 c3 c4 H2
  obtain ⟨c0, c1, c2, c3, c4⟩ := HS.out w3 hb03
  by_cases hO : ordE P M mod N L Q = 0
  rotate_left
  · have hv : widV P M mod N L Q = (0, ordE P M mod N L Q) := by rw [widV, if_neg hO]
    rw [hv]
    have hO' : (ordE P M mod N L Q != 0) = true := by simpa using hO
    have hF := Below.next HbW.out hb03
    clear hO hv
    go_wp2_with fail
    go_ret
    exact ⟨rfl, hF⟩
  obtain ⟨hE, hB⟩ := ordE_zero hO
  obtain ⟨m, rfl, hm1, hm64, _⟩ := codeE_fld hE
  obtain ⟨dE, dD⟩ := dual_code hE
  have hv : widV P M mod m L Q = (wdTo (dimS (tblOf P M.toNat mod).ops L m) Q m, 0) := by rw [widV, if_pos hO, Int.toNat_natCast]
  have hv2 : widV P M mod m (dualL (tblOf P M.toNat mod) L m) Q = (wdTo (dimS (tblOf P M.toNat mod).ops L m) Q m, 0) := by
    have hO2 : ordE P M mod m (dualL (tblOf P M.toNat mod) L m) Q = 0 := by rw [ordE, if_pos dE, if_pos hB]
    have hfe : dimS (tblOf P M.toNat mod).ops (dualL (tblOf P M.toNat mod) L m) m = dimS (tblOf P M.toNat mod).ops L m := funext dD
    rw [widV, if_pos hO2, Int.toNat_natCast, hfe]
  have hmn : mn ≤ 1000000 := by
    have h1 := HM.out.1.len
    have h2 := mod_len (codeE_zero hE).1
    omega
  have HD : Hid (∀ V, Below w.heap.size w V → Calls Try.prog 25 #[.agg #[.int .i64 P, .int .i64 M, .slice am mn cm, .int .i64 m, .slice a n c]] V (DualPost P M mod m L V)) :=
    fun V hV => dual_any P M am mn cm mod m a n c L V (HM.out.1.keep hV) (HM.out.2.1.keep hV) hE hmn
  have HW : Hid (∀ V a1 c1 a2 c2, Below w.heap.size w V → Ints V a1 mod.length mod → Mat V a2 (dualL (tblOf P M.toNat mod) L m).length (dualL (tblOf P M.toNat mod) L m) →
      Calls Try.prog 24 #[.agg #[.int .i64 P, .int .i64 M, .slice a1 mod.length c1, .int .i64 m, .slice a2 (dualL (tblOf P M.toNat mod) L m).length c2], .slice ao no co] V fun e w' => e = .returned (.tuple #[.int .i64 (wdTo (dimS (tblOf P M.toNat mod).ops L m) Q m), .int .i64 0]) ∧ Below V.heap.size V w') :=
    fun V a1 c1 a2 c2 hV h1 h2 => by
      have h := ordWidthE_any P M a1 mod.length c1 mod m a2 _ c2 _ ao no co Q V h1 h2 (HM.out.2.2.keep hV)
      rw [hv2] at h
      exact h
  rw [hv, hO]
  unfold DualPost at HD
  generalize dualL (tblOf P M.toNat mod) L m = D at *
  generalize wdTo (dimS (tblOf P M.toNat mod).ops L m) Q m = t9 at *
  clear hO hE hB dE dD hv hv2
  go_wp2_with fail
  refine (HD.out w3 (Below.next hbW hb03)).mono ?_
  rintro e w4 ⟨a1, c1', a2, c2', rfl, hN1, hN2, hb4⟩
  have hb04 := Below.next hb03 hb4
  have h1 := hN1.ints
  have h2 := hN2.mat
  have hbn := below1 w4 (.cells #[.int .i64 P, .int .i64 M, .slice a1 mod.length c1', .int .i64 m, .slice a2 D.length c2'] 27)
  have HW2 : Hid (∀ V, Below w4.heap.size w4 V → Calls Try.prog 24 #[.agg #[.int .i64 P, .int .i64 M, .slice a1 mod.length c1', .int .i64 m, .slice a2 D.length c2'], .slice ao no co] V fun e w' => e = .returned (.tuple #[.int .i64 t9, .int .i64 0]) ∧ Below V.heap.size V w') :=
    fun V hV => HW.out V a1 c1' a2 c2' (Below.next (Below.next hbW hb04) hV) (h1.keep hV) (h2.keep hV)
  clear HD HW hN1 hN2 c0 c1 c2 c3 c4 h1 h2
  go_wp2_with fail
  refine (HW2.out _ hbn).mono ?_
  rintro e w5 ⟨rfl, hb5⟩
  have hF := Below.next HbW.out (Below.next (Below.next hb04 hbn) hb5)
  clear HW2
  go_wp2_with fail
  go_ret
  exact ⟨rfl, hF⟩
end

/- OrderingDual: the statement. -/
section
open Go.ChangeShapes Go.WideShapes Go.ChangeAt Go.RowKit

set_option maxRecDepth 100000 in
theorem dualLaw_lifted (os : Os) (started : os.Started) (H : Type) (enc : TypeId × Value → H) :
    ReturnsInHanded {} Try.checked os 9 .any (Rows.orderingDualSpec.pre6 enc Try.prog Try.f9 Rows.orderingDualRow.domain false) (Rows.orderingDualSpec.post enc Try.prog Try.f9 false true false false) := by
  refine returnsInHanded_of_change (C := Try.checked) Try.own started (by kernel_rfl) Try.func9
    (ChangeSpec.witness6 (enc := enc) (C := Try.checked) false ⟨#[], #[.agg #[.int .i64 0, .int .i64 0, .slice none 0 0, .int .i64 0, .slice none 0 0], .slice none 0 0], []⟩ 8 (by kernel_rfl) (by kernel_rfl) (by kernel_rfl) (by kernel_rfl)) ?_
  intro W base args ds gs before hval0 hW hcnd _
  have hval : ∀ (j : Nat) t v, Try.f9.params[j]? = some t → args[j]? = some v → Value.okWide Try.prog W .any base t v := hval0
  have hW' := hW
  obtain ⟨p, q, hA0, hV, rfl, hfz, hnd⟩ := hW
  have hA : DataW.TrodAll enc Try.prog W 0 (fun _ => true) true Try.f9.params.toList args.toList ds p := hA0
  rw [Try.params9] at hA hval
  obtain ⟨v0, vs0, d0, ds0, p0, q0, hargs, rfl, rfl, h0, r0⟩ := trodAll_cons hA
  obtain ⟨v1, vs1, d1, ds1, p1, q1, rfl, rfl, rfl, h1, r1⟩ := trodAll_cons r0
  obtain ⟨rfl, rfl, rfl⟩ := trodAll_nil r1
  obtain rfl : args = #[v0, v1] := by cases args; simp_all
  obtain ⟨rfl, rfl⟩ := trodVars_none hV
  have k0 := h0
  have k1 := h1
  have lt0 : ∀ x ∈ p0, x.block < W.heap.size := by obtain ⟨m, hm⟩ := k0; exact DataW.trod_lt m _ _ _ hm
  have lt1 : ∀ x ∈ p1, x.block < W.heap.size := by obtain ⟨m, hm⟩ := k1; exact DataW.trod_lt m _ _ _ hm
  obtain ⟨P, M, am, mn, cm, mod, N, a, n, c, L, rfl, hI0, hM0⟩ := arg_code (hval 0 _ v0 rfl rfl) h0
  obtain ⟨a1x, n1x, c1x, Q1, rfl, hQ1⟩ := arg_ints (hval 1 _ v1 rfl rfl) h1
  clear hA0 hval0
  refine (dualLaw_any P M am mn cm mod N a n c L a1x n1x c1x Q1 W hI0 hM0 hQ1).mono fun e W' ⟨he, bel⟩ => ?_
  subst he
  exact ⟨_, rfl, _, _, _, [], _, [], hW', trodAll_mk1 (shut_bool Try.underlying4 _), (trodAll_cons_mk (Below.trod Try.laid (by kernel_rfl) (of_decide_eq_true (by kernel_rfl)) k0 bel lt0) (trodAll_cons_mk (Below.trod Try.laid (by kernel_rfl) (of_decide_eq_true (by kernel_rfl)) k1 bel lt1) trodAll_mk0)), rfl, bel.frame _, fun h => by cases h⟩

theorem dualLaw_over : Rows.orderingDualRow.holds Try.pinned (OpenSpec.ofChange Rows.orderingDualSpec) :=
  OpenClaim.holds_of_wide 9 Try.f9 rfl rfl rfl rfl rfl rfl rfl ⟨rfl, rfl, rfl, rfl, rfl⟩ rfl rfl rfl rfl rfl (by kernel_rfl) Try.func9 (by kernel_rfl)
    (of_decide_eq_true (by kernel_rfl)) (by unfold Func.isWrapper; first | (rw [if_pos (by decide +kernel)]; kernel_rfl) | (rw [if_neg (by decide +kernel)]; exact ⟨rfl, rfl⟩))
    (fun os started H enc _ => dualLaw_lifted os started H enc)

theorem dualLaw_holds : Rows.OrderingDualSaid := dualLaw_over
#print axioms dualLaw_holds
end

end Go.Proofs.Ytnielheglicbmaa
