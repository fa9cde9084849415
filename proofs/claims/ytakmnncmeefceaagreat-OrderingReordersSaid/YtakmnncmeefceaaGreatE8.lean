/- The walks of code.own, code.of, code.Dual. -/
import Derived.Test.YtakmnncmeefceaaGreatE7
namespace Go.Proofs.YtakmnncmeefceaaGreat
set_option linter.unusedVariables false
set_option linter.unusedSimpArgs false
set_option linter.unusedSectionVars false

/- The walks of code.own, code.of, code.Dual. -/
section
open Go.RowKit

def OwnPost (P M : Int) (mod : List Int) (w : World) (e : Ending) (w' : World) : Prop :=
  ∃ a c, e = .returned (.agg #[.int .i64 P, .int .i64 M, .slice a mod.length c]) ∧ IntsN w.heap.size w' a mod.length mod ∧ Below w.heap.size w w'

set_option maxRecDepth 100000 in
set_option maxHeartbeats 1600000 in
theorem own_any (P M : Int) (am : Option Addr) (mn cm : Nat) (mod : List Int) (w : World) (hmod : Ints w am mn mod) (hmn : mn ≤ 1000000) :
    Calls Tryz.prog 137 #[.agg #[.int .i64 P, .int .i64 M, .slice am mn cm]] w (OwnPost P M mod w) := by
  go_enter Tryz.func137, Tryz.ntmps137
  go_wp2_with fail
  obtain ⟨W, hW⟩ : ∃ W : World, W = (w.alloc (.cells #[.int .i64 P, .int .i64 M, .slice am mn cm] 24)).alloc (.cells #[.int .i64 0, .int .i64 0, .slice none 0 0] 24) := ⟨_, rfl⟩
  rw [← hW]
  have hbW : Below w.heap.size w W := by rw [hW]; exact below2 _ _ _
  have hsW : W.heap.size = w.heap.size + 2 := by rw [hW]; simp
  have x0 : Box W w.heap.size [.int .i64 P, .int .i64 M, .slice am mn cm] := by rw [hW]; exact (Box.new _ _ _ rfl).alloc _
  have y0 : Box W (w.heap.size + 1) [.int .i64 0, .int .i64 0, .slice none 0 0] := by rw [hW]; exact Box.new _ _ _ (by simp)
  clear hW
  refine (clone1_any am mn cm mod (hmod.keep hbW) hmn).mono ?_
  rintro e w1 ⟨a1, c1, rfl, hown1, hb1⟩
  have x1 := x0.keep hb1
  have y1 := y0.keep hb1
  have d0 := x1.cell 0 rfl
  have d1 := x1.cell 1 rfl
  have d2 := x1.cell 2 rfl
  have e0 := y1.cell 0 rfl
  have e1 := y1.cell 1 rfl
  have e2 := y1.cell 2 rfl
  have fx := x1.frozen 2
  have f0 := y1.frozen 0
  have f1 := y1.frozen 1
  have f2 := y1.frozen 2
  have hbw1 := Below.next hbW hb1
  have hl := Lib.hid (IntsN.own hown1)
  have hN : IntsN w.heap.size ((((w1.setCell ⟨w.heap.size, 2, none⟩ (.slice a1 mod.length c1)).setCell ⟨w.heap.size + 1, 0, none⟩ (.int .i64 P)).setCell ⟨w.heap.size + 1, 1, none⟩ (.int .i64 M)).setCell ⟨w.heap.size + 1, 2, none⟩ (.slice a1 mod.length c1)) a1 mod.length mod :=
    ((((hl.out.setCell (p := ⟨w.heap.size, 2, none⟩) (by simp; omega) _).setCell (p := ⟨w.heap.size + 1, 0, none⟩) (by simp; omega) _).setCell (p := ⟨w.heap.size + 1, 1, none⟩) (by simp; omega) _).setCell (p := ⟨w.heap.size + 1, 2, none⟩) (by simp; omega) _).mono (by omega)
  have hB : Below w.heap.size w ((((w1.setCell ⟨w.heap.size, 2, none⟩ (.slice a1 mod.length c1)).setCell ⟨w.heap.size + 1, 0, none⟩ (.int .i64 P)).setCell ⟨w.heap.size + 1, 1, none⟩ (.int .i64 M)).setCell ⟨w.heap.size + 1, 2, none⟩ (.slice a1 mod.length c1)) :=
    (((hbw1.setCell (p := ⟨w.heap.size, 2, none⟩) (by simp) _).setCell (p := ⟨w.heap.size + 1, 0, none⟩) (by simp) _).setCell (p := ⟨w.heap.size + 1, 1, none⟩) (by simp) _).setCell (p := ⟨w.heap.size + 1, 2, none⟩) (by simp) _
  have HF := Lib.hid (And.intro hN hB)
  clear hN hB hown1 hl x0 y0 hbw1
  go_wp2_with fail
  exact bodyPost_ret (v := .agg #[.int .i64 P, .int .i64 M, .slice a1 mod.length c1]) (by simp [results, Tryz.results137, go_sem, e0, e1, e2]) rfl ⟨a1, c1, rfl, HF.out.1, HF.out.2⟩

def OfPost (P M : Int) (mod : List Int) (m : Int) (a : Option Addr) (k c : Nat) (w : World) (e : Ending) (w' : World) : Prop :=
  ∃ a1 c1, e = .returned (.tuple #[.agg #[.int .i64 P, .int .i64 M, .slice a1 mod.length c1, .int .i64 m, .slice a k c], .int .i64 0]) ∧ IntsN w.heap.size w' a1 mod.length mod ∧ Below w.heap.size w w'

set_option maxRecDepth 100000 in
set_option maxHeartbeats 4000000 in
theorem of_any (P M : Int) (am : Option Addr) (mn cm : Nat) (mod : List Int) (m : Int) (a : Option Addr) (k c : Nat) (w : World) (hmod : Ints w am mn mod) (hmn : mn ≤ 1000000) :
    Calls Tryz.prog 96 #[.agg #[.int .i64 P, .int .i64 M, .slice am mn cm], .agg #[.int .i64 m, .slice a k c], .int .i64 0] w (OfPost P M mod m a k c w) := by
  go_enter Tryz.func96, Tryz.ntmps96
  go_wp2_with fail
  obtain ⟨W, hW⟩ : ∃ W : World, W = ((w.alloc (.cells #[.int .i64 P, .int .i64 M, .slice am mn cm] 24)).alloc (.cells #[.int .i64 m, .slice a k c] 62)).alloc (.cells #[.int .i64 0, .int .i64 0, .slice none 0 0, .int .i64 0, .slice none 0 0] 27) := ⟨_, rfl⟩
  rw [← hW]
  have hbW : Below w.heap.size w W := by rw [hW]; exact below3 _ _ _ _
  have hsW : W.heap.size = w.heap.size + 3 := by rw [hW]; simp
  have x0 : Box W w.heap.size [.int .i64 P, .int .i64 M, .slice am mn cm] := by rw [hW]; exact ((Box.new _ _ _ rfl).alloc _).alloc _
  have y0 : Box W (w.heap.size + 1) [.int .i64 m, .slice a k c] := by rw [hW]; exact (Box.new _ _ _ (by simp)).alloc _
  have z0 : Box W (w.heap.size + 1 + 1) [.int .i64 0, .int .i64 0, .slice none 0 0, .int .i64 0, .slice none 0 0] := by rw [hW]; exact Box.new _ _ _ (by simp)
  have Hown : Hid (∀ V, Below W.heap.size W V → Calls Tryz.prog 137 #[.agg #[.int .i64 P, .int .i64 M, .slice am mn cm]] V (OwnPost P M mod V)) := fun V hV => own_any P M am mn cm mod V (hmod.keep (Below.next hbW hV)) hmn
  have hS : ∀ V, Below W.heap.size W V → V.cell? ⟨w.heap.size, 0, none⟩ = some (.int .i64 P) ∧ V.cell? ⟨w.heap.size, 1, none⟩ = some (.int .i64 M) ∧ V.cell? ⟨w.heap.size, 2, none⟩ = some (.slice am mn cm) ∧ V.cell? ⟨w.heap.size + 1, 0, none⟩ = some (.int .i64 m) ∧ V.cell? ⟨w.heap.size + 1, 1, none⟩ = some (.slice a k c) ∧
      Box V (w.heap.size + 1 + 1) [.int .i64 0, .int .i64 0, .slice none 0 0, .int .i64 0, .slice none 0 0] := fun V hV => by
    have x1 := x0.keep hV
    have y1 := y0.keep hV
    exact ⟨x1.cell 0 rfl, x1.cell 1 rfl, x1.cell 2 rfl, y1.cell 0 rfl, y1.cell 1 rfl, z0.keep hV⟩
  have HS := Lib.hid hS
  have HbW := Lib.hid hbW
  have HsW := Lib.hid hsW
  obtain ⟨c0, c1, c2, c3, c4, _⟩ := HS.out W (Below.refl _ _)
  have HP : Hid (∀ (w4 : World) (a4 : Option Addr) (c4' : Nat), IntsN W.drew.heap.size w4 a4 mod.length mod → Below W.drew.heap.size W.drew w4 →
      OfPost P M mod m a k c w (.returned (.tuple #[.agg #[.int .i64 P, .int .i64 M, .slice a4 mod.length c4', .int .i64 m, .slice a k c], .int .i64 0]))
        (((((w4.setCell ⟨w.heap.size + 1 + 1, 0, none⟩ (.int .i64 P)).setCell ⟨w.heap.size + 1 + 1, 1, none⟩ (.int .i64 M)).setCell ⟨w.heap.size + 1 + 1, 2, none⟩ (.slice a4 mod.length c4')).setCell ⟨w.heap.size + 1 + 1, 3, none⟩ (.int .i64 m)).setCell ⟨w.heap.size + 1 + 1, 4, none⟩ (.slice a k c))) := fun w4 a4 c4' h1 h2 => by
    have h1' : IntsN W.heap.size w4 a4 mod.length mod := h1
    have hb := Below.next hbW (Below.next (Below.refl _ _).drew h2)
    have hs := HsW.out
    refine ⟨a4, c4', rfl, ?_, ?_⟩
    · exact (((((h1'.setCell (p := ⟨w.heap.size + 1 + 1, 0, none⟩) (by simp; omega) _).setCell (p := ⟨w.heap.size + 1 + 1, 1, none⟩) (by simp; omega) _).setCell (p := ⟨w.heap.size + 1 + 1, 2, none⟩) (by simp; omega) _).setCell (p := ⟨w.heap.size + 1 + 1, 3, none⟩) (by simp; omega) _).setCell (p := ⟨w.heap.size + 1 + 1, 4, none⟩) (by simp; omega) _).mono (by omega)
    · exact ((((hb.setCell (p := ⟨w.heap.size + 1 + 1, 0, none⟩) (by simp; omega) _).setCell (p := ⟨w.heap.size + 1 + 1, 1, none⟩) (by simp; omega) _).setCell (p := ⟨w.heap.size + 1 + 1, 2, none⟩) (by simp; omega) _).setCell (p := ⟨w.heap.size + 1 + 1, 3, none⟩) (by simp; omega) _).setCell (p := ⟨w.heap.size + 1 + 1, 4, none⟩) (by simp; omega) _
  clear hW x0 y0 z0 hS hmod hbW hsW
  go_wp2_with fail
  go_region_law (
    (go_simp; go_at_call 137; ((with_reducible refine (Hown.out _ (Below.refl _ _).drew).mono ?_); rintro e w4 ⟨a4, c4', rfl, hN4, hb4⟩; obtain ⟨c0, c1, c2, c3, c4, zz⟩ := HS.out w4 (Below.next (Below.refl _ _).drew hb4); have z0 := zz.cell 0 rfl; have z1 := zz.cell 1 rfl; have z2 := zz.cell 2 rfl; have z3 := zz.cell 3 rfl; have z4 := zz.cell 4 rfl; have f0 := zz.frozen 0; have f1 := zz.frozen 1; have f2 := zz.frozen 2; have f3 := zz.frozen 3; have f4 := zz.frozen 4)))
  all_goals (
    have HP4 := Lib.hid (HP.out w4 a4 c4' hN4 hb4)
    clear hN4 hb4 Hown HS HP
    go_wp2_with fail
    exact bodyPost_ret (v := .tuple #[.agg #[.int .i64 P, .int .i64 M, .slice a4 mod.length c4', .int .i64 m, .slice a k c], .int .i64 0]) (by simp [results, Tryz.results96, go_sem, z0, z1, z2, z3, z4]) rfl HP4.out)
end

end Go.Proofs.YtakmnncmeefceaaGreat
