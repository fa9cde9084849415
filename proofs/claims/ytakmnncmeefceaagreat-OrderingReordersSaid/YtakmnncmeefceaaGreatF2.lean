/- The walk of ordering.Reorder. -/
import Derived.Test.YtakmnncmeefceaaGreatB3
import Derived.Test.YtakmnncmeefceaaGreatE8
import Derived.Test.YtakmnncmeefceaaGreatF1
import Derived.Test.YtakmnncmeefceaaGreatE2
namespace Go.Proofs.YtakmnncmeefceaaGreat
set_option linter.unusedVariables false
set_option linter.unusedSimpArgs false
set_option linter.unusedSectionVars false

/- A matrix that is put together row by row, behind a box. -/
section
open Go.RowKit

theorem OMat.setOther {w : World} {B : Nat} {a : Option Addr} {n c : Nat} {R : List (Option Addr × Nat)} {L : List (List Int)} (h : OMat w B a n c R L) {p : Addr} (hp : p.block < B) (v : Value) : OMat (w.setCell p v) B a n c R L :=
  h.of_blocks fun b hb => Below.heap_setCell _ _ _ _ (by have := (h.lt b hb).1; omega)

/-- a box of two cells, the second a matrix whose blocks are behind the box -/
structure MOut (w : World) (g : Nat) (x : Value) (a : Option Addr) (k c : Nat) (R : List (Option Addr × Nat)) (L : List (List Int)) : Prop where
  lt : g < w.heap.size
  c0 : w.cell? ⟨g, 0, none⟩ = some x
  c1 : w.cell? ⟨g, 1, none⟩ = some (.slice a k c)
  fr : ∀ i, w.frozen? ⟨g, i, none⟩ = false
  om : OMat w (g + 1) a k c R L
namespace MOut
variable {w w' w4 w5 : World} {g : Nat} {x : Value} {a : Option Addr} {k c : Nat} {R : List (Option Addr × Nat)} {L : List (List Int)}
theorem keep (h : MOut w g x a k c R L) (hb : Below w.heap.size w w') : MOut w' g x a k c R L :=
  ⟨Nat.lt_of_lt_of_le h.lt hb.size, cell_keep hb h.c0, cell_keep hb h.c1, fun i => frozen_keep hb h.lt (h.fr i), h.om.keep hb⟩
theorem apt (h : MOut w g x a k c R L) : Apt a g := by
  by_cases ha : a = none
  · exact .inl ha
  · exact .inr fun e => by have := (own_ne h.om.own ha).1; omega
theorem pushed {o : Obj} (h : MOut w4 g x a k c R L) (hgr5 : (w4.alloc o).grownBy w5 (Value.slice a k c).ownBlock) : w5.cell? ⟨g, 0, none⟩ = some x ∧ w5.cell? ⟨g, 1, none⟩ = some (.slice a k c) ∧ w5.frozen? ⟨g, 1, none⟩ = false := by
  have hb1 := below1 w4 o
  have hlt := h.lt
  have hs1 := hb1.size
  exact ⟨cell_grownApt hgr5 (cell_box h.c0 o) h.apt, cell_grownApt hgr5 (cell_box h.c1 o) h.apt,
    (World.frozen?_of_block (w := w4.alloc o) (a := ⟨g, 1, none⟩) (hgr5.block g (by omega) fun e => h.apt.own k c e.symm)).trans (frozen_box h.lt (h.fr 1) _)⟩
theorem push {a4 a5 : Option Addr} {n4 c4 c5 : Nat} {N : List Int} {o : Obj} (h : MOut w4 g x a k c R L) (hn4 : N.length = n4)
    (hown4 : w4.ownsRow (g + 1) 3 1 (.slice a4 n4 c4) n4 (N.map (Value.int .i64))) (hra : a4 ≠ none → ¬ OIn a R (ablk a4))
    (hown5 : w5.ownsRow (g + 1) 22 1 (.slice a5 (k + 1) c5) (k + 1) (List.zipWith rowV R L ++ [.slice a4 n4 c4])) (hgr5 : (w4.alloc o).grownBy w5 (Value.slice a k c).ownBlock)
    (hap5 : ∀ x, x < (w4.alloc o).heap.size → Apt a x → Apt a5 x) :
    MOut (w5.setCell ⟨g, 1, none⟩ (.slice a5 (k + 1) c5)) g x a5 (k + 1) c5 (R ++ [(a4, c4)]) (L ++ [N]) ∧ Below g w4 (w5.setCell ⟨g, 1, none⟩ (.slice a5 (k + 1) c5)) := by
  subst hn4
  have hb1 := below1 w4 o
  have hO := h.om.keep hb1
  have hr := own_keep hown4 hb1
  have hP := OMat.push hO hr hra hown5 hgr5 hap5
  have hlt := h.lt
  have hs1 := hb1.size
  have hB5 : Below (g + 1) w4 w5 := Below.app (hb1.mono (by omega)) hO.own hgr5 (Nat.le_refl _) (by omega)
  have hs := hB5.size
  have k0 := cell_grownApt hgr5 (cell_box h.c0 o) h.apt
  have k1 := cell_grownApt hgr5 (cell_box h.c1 o) h.apt
  refine ⟨⟨by simp; omega, ?_, World.cell?_setCell_same _ _ _ k1, fun i => ?_, hP.setOther (by simp) _⟩, (hB5.mono (by omega)).setCell (by simp) _⟩
  · rw [World.cell?_setCell_other _ _ _ _ (by simp)]; exact k0
  · rw [World.frozen?_setCell]
    exact (World.frozen?_of_block (w := w4.alloc o) (a := ⟨g, i, none⟩) (hgr5.block g (by omega) fun e => h.apt.own k c e.symm)).trans (frozen_box h.lt (h.fr i) _)
theorem start {U : World} {g : Nat} {x : Value} (hU : Box U g [x, .slice none 0 0]) : MOut U g x none 0 0 [] [] :=
  ⟨hU.1, hU.cell 0 rfl, hU.cell 1 rfl, hU.frozen, OMat.empty _ _⟩
end MOut

theorem Box.two (w : World) (x0 y0 x y : Value) (e : TypeId) : Box (((w.alloc (.cells #[x0, y0] e)).setCell ⟨w.heap.size, 0, none⟩ x).setCell ⟨w.heap.size, 1, none⟩ y) w.heap.size [x, y] := by
  have h : Box (w.alloc (.cells #[x0, y0] e)) w.heap.size [x0, y0] := Box.new w [x0, y0] e rfl
  have k0 := h.cell 0 rfl
  have k1 := h.cell 1 rfl
  refine ⟨by simp, fun i v hv => ?_, fun i => by rw [World.frozen?_setCell, World.frozen?_setCell]; exact h.frozen i⟩
  match i, hv with
  | 0, hv =>
    obtain rfl : x = v := by simpa using hv
    rw [World.cell?_setCell_other _ _ _ _ (by simp)]
    exact World.cell?_setCell_same _ _ _ k0
  | 1, hv =>
    obtain rfl : y = v := by simpa using hv
    exact World.cell?_setCell_same _ _ _ (by rw [World.cell?_setCell_other _ _ _ _ (by simp)]; exact k1)
  | i + 2, hv => simp at hv
theorem below_two (w : World) (x0 y0 x y : Value) (e : TypeId) : Below w.heap.size w (((w.alloc (.cells #[x0, y0] e)).setCell ⟨w.heap.size, 0, none⟩ x).setCell ⟨w.heap.size, 1, none⟩ y) :=
  ((below1 w (.cells #[x0, y0] e)).setCell (Nat.le_refl _) _).setCell (Nat.le_refl _) _
end

/- The walks of modify.set, code.New. -/
section
open Go.RowKit

set_option maxRecDepth 100000 in
set_option maxHeartbeats 3200000 in
theorem modSet_any (N : Int) (ra : Option Addr) (rn rc : Nat) (l : List Int) (w : World) (hrow : Ints w ra rn l) :
    Calls Tryz.prog 107 #[.slice ra rn rc, .int .i64 N] w fun e w' => e = .returned (.bool (okSet N l)) ∧ w = w' := by
  have Hrl := Lib.hid hrow.len
  have hpr := hrow.pl
  have hmr := hrow.max
  unfold maxLen at hmr
  go_enter Tryz.func107, Tryz.ntmps107
  go_wp2_with fail
  go_loop [9] (fun iv => ∃ j : Nat, j ≤ rn ∧ iv = .int .i64 j ∧ Hid (okTo N l j = true)) (fun iv => rn - (intOf iv).toNat)
  case atStart => exact ⟨0, Nat.zero_le _, rfl, by show _ = _; simp [okTo]⟩
  case round =>
    obtain ⟨j, hj, rfl, hok⟩ := hrel
    by_cases hlt2 : j < rn
    · have cj := hrow.cell j hlt2
      have Hbad : Hid (okAt N l j = false → okSet N l = false) := fun hb => okTo_no (by rw [Hrl.out]; exact hlt2) hb
      by_cases h0 : 0 ≤ nth l j
      · by_cases h1 : nth l j < N
        · have d1 : decide (nth l j < 0) = false := by simp; omega
          have d2 : decide (N ≤ nth l j) = false := by simp; omega
          by_cases hj0 : j = 0
          · subst hj0
            have Hgood : Hid (okAt N l 0 = true) := by show _ = _; unfold okAt; simp [h0, h1]
            rw [Nat.add_zero] at cj
            go_wp2_with fail
            go_round
            case rel => exact ⟨1, by omega, by go_num, okTo_succ hok.out Hgood.out⟩
            case measure => simp [intOf] <;> omega
          · have cp := hrow.cell (j - 1) (by omega)
            have e1 : ((j : Int) - 1).toNat = j - 1 := by omega
            have d3 : decide (0 < (j : Int)) = true := by simp; omega
            have d4 : (0 : Int) ≤ (j : Int) - 1 := by omega
            have d5 : (1 : Int) ≤ (j : Int) := by omega
            have d6 : (j : Int) - 1 < rn := by omega
            by_cases h2 : nth l (j - 1) < nth l j
            · have Hgood : Hid (okAt N l j = true) := by show _ = _; unfold okAt; simp [h0, h1, h2]
              have h2' : decide (nth l j ≤ nth l (j - 1)) = false := by simp; omega
              clear hj0 e1
              go_wp2_with fail
              go_round
              case rel => exact ⟨j + 1, by omega, by go_num, okTo_succ hok.out Hgood.out⟩
              case measure => simp [intOf] <;> omega
            · have Hb : Hid (okSet N l = false) := Hbad.out (by unfold okAt; simp [h2, hj0])
              have h2' : decide (nth l j ≤ nth l (j - 1)) = true := by simp; omega
              clear hj0 e1
              go_wp2_with fail
              go_ret
              exact ⟨ret_bool Hb.out.symm, rfl⟩
        · have Hb : Hid (okSet N l = false) := Hbad.out (by unfold okAt; simp [h1])
          have d1 : decide (nth l j < 0) = false := by simp; omega
          have d2 : decide (N ≤ nth l j) = true := by simp; omega
          go_wp2_with fail
          go_ret
          exact ⟨ret_bool Hb.out.symm, rfl⟩
      · have Hb : Hid (okSet N l = false) := Hbad.out (by unfold okAt; simp [h0])
        have d1 : decide (nth l j < 0) = true := by simp; omega
        go_wp2_with fail
        go_ret
        exact ⟨ret_bool Hb.out.symm, rfl⟩
    · obtain rfl : j = rn := by omega
      have Hg : Hid (okSet N l = true) := by show _ = _; rw [okSet, Hrl.out]; exact hok.out
      go_wp2_with fail
      go_ret
      exact ⟨ret_bool Hg.out.symm, rfl⟩

def CNewPost (P M : Int) (mod : List Int) (m : Nat) (L : List (List Int)) (w : World) (e : Ending) (w' : World) : Prop :=
  ∃ a1 c1 a2 c2, e = .returned (.tuple #[.agg #[.int .i64 P, .int .i64 M, .slice a1 mod.length c1, .int .i64 m, .slice a2 (canS (tblOf P M.toNat mod) L m).length c2], .int .i64 0]) ∧ IntsN w.heap.size w' a1 mod.length mod ∧
    MatN w.heap.size w' a2 (canS (tblOf P M.toNat mod) L m).length (canS (tblOf P M.toNat mod) L m) ∧ Below w.heap.size w w'

set_option maxRecDepth 100000 in
set_option maxHeartbeats 4000000 in
theorem codeNew_any (P M : Int) (am : Option Addr) (mn cm : Nat) (mod : List Int) (m : Nat) (a : Option Addr) (n c : Nat) (L : List (List Int)) (w : World) (hmod : Ints w am mn mod) (hi : Mat w a n L)
    (hE : fmatE P M mod m L = 0) (hm1 : 1 ≤ m) (hm64 : m ≤ 64) (hmn : mn ≤ 1000000) :
    Calls Tryz.prog 45 #[.agg #[.int .i64 P, .int .i64 M, .slice am mn cm], .agg #[.int .i64 m, .slice a n c]] w (CNewPost P M mod m L w) := by
  go_enter Tryz.func45, Tryz.ntmps45
  go_upto_region 1 with fail
  obtain ⟨W, hW⟩ : ∃ W : World, W = ((w.alloc (.cells #[.int .i64 P, .int .i64 M, .slice am mn cm] 24)).alloc (.cells #[.int .i64 m, .slice a n c] 62)).alloc (.cells #[.int .i64 0, .int .i64 0, .slice none 0 0, .int .i64 0, .slice none 0 0] 27) := ⟨_, rfl⟩
  rw [← hW]
  have hbW : Below w.heap.size w W := by rw [hW]; exact below3 _ _ _ _
  have hsW : W.heap.size = w.heap.size + 3 := by rw [hW]; simp
  have x0 : Box W w.heap.size [.int .i64 P, .int .i64 M, .slice am mn cm] := by rw [hW]; exact ((Box.new _ _ _ rfl).alloc _).alloc _
  have y0 : Box W (w.heap.size + 1) [.int .i64 m, .slice a n c] := by rw [hW]; exact (Box.new _ _ _ (by simp)).alloc _
  have z0 : Box W (w.heap.size + 1 + 1) [.int .i64 0, .int .i64 0, .slice none 0 0, .int .i64 0, .slice none 0 0] := by rw [hW]; exact Box.new _ _ _ (by simp)
  clear hW
  have HC : Hid (Calls Tryz.prog 94 #[.agg #[.int .i64 P, .int .i64 M, .slice am mn cm], .agg #[.int .i64 m, .slice a n c]] W fun e w' => Below W.heap.size W w' ∧ ∃ a2 c2 ap cp, e = .returned (.tuple #[.agg #[.int .i64 m, .slice a2 (canS (tblOf P M.toNat mod) L m).length c2], .slice ap (canS (tblOf P M.toNat mod) L m).length cp, .int .i64 0]) ∧
      MatN W.heap.size w' a2 (canS (tblOf P M.toNat mod) L m).length (canS (tblOf P M.toNat mod) L m)) := by
    refine (canonical_any P M am mn cm mod m a n c L W (hmod.keep hbW) (hi.keep hbW)).mono ?_
    rintro e w1 ⟨hb1, ⟨h0, _⟩ | ⟨_, m', hm', a1, c1, ap, cp, rfl, hN1, _⟩⟩
    · exact absurd hE h0
    · obtain rfl : m = m' := by omega
      rw [← canS_length] at hN1 ⊢
      exact ⟨hb1, a1, c1, ap, cp, rfl, hN1⟩
  have HO : Hid (∀ V a5 k5 c5, Below W.heap.size W V → Calls Tryz.prog 96 #[.agg #[.int .i64 P, .int .i64 M, .slice am mn cm], .agg #[.int .i64 m, .slice a5 k5 c5], .int .i64 0] V (OfPost P M mod m a5 k5 c5 V)) := fun V a5 k5 c5 hV =>
    of_any P M am mn cm mod m a5 k5 c5 V (hmod.keep (Below.next hbW hV)) hmn
  have HPost : Hid (∀ a1 c1 a2 c2 w', IntsN w.heap.size w' a1 mod.length mod → MatN w.heap.size w' a2 (canS (tblOf P M.toNat mod) L m).length (canS (tblOf P M.toNat mod) L m) → Below w.heap.size w w' →
      CNewPost P M mod m L w (.returned (.tuple #[.agg #[.int .i64 P, .int .i64 M, .slice a1 mod.length c1, .int .i64 m, .slice a2 (canS (tblOf P M.toNat mod) L m).length c2], .int .i64 0])) w') := fun a1 c1 a2 c2 w' h1 h2 h3 => ⟨a1, c1, a2, c2, rfl, h1, h2, h3⟩
  have Hle : Hid (lenE (m : Int) = 0) := lenE_in (by omega) (by omega)
  obtain ⟨KM, hKM⟩ : ∃ KM, canS (tblOf P M.toNat mod) L m = KM := ⟨_, rfl⟩
  rw [hKM] at HC HPost
  have hS : ∀ V, Below W.heap.size W V → V.cell? ⟨w.heap.size, 0, none⟩ = some (.int .i64 P) ∧ V.cell? ⟨w.heap.size, 1, none⟩ = some (.int .i64 M) ∧ V.cell? ⟨w.heap.size, 2, none⟩ = some (.slice am mn cm) ∧ V.cell? ⟨w.heap.size + 1, 0, none⟩ = some (.int .i64 m) ∧ V.cell? ⟨w.heap.size + 1, 1, none⟩ = some (.slice a n c) ∧
      Box V (w.heap.size + 1 + 1) [.int .i64 0, .int .i64 0, .slice none 0 0, .int .i64 0, .slice none 0 0] := fun V hV => by
    have x1 := x0.keep hV
    have y1 := y0.keep hV
    exact ⟨x1.cell 0 rfl, x1.cell 1 rfl, x1.cell 2 rfl, y1.cell 0 rfl, y1.cell 1 rfl, z0.keep hV⟩
  have HS := Lib.hid hS
  have HbW := Lib.hid hbW
  have HsW := Lib.hid hsW
  obtain ⟨q, hq⟩ : ∃ q, KM.length = q := ⟨_, rfl⟩
  rw [hq] at HC HPost
  clear hE hKM hS x0 y0 z0 hbW hsW hmod hi hq
  go_cut [6, 7, 8] (fun v6 v7 v8 wx => ∃ g a5 c5, v6 = .pointer (some ⟨g, 0, none⟩) ∧ v8 = .int .i64 0 ∧ wx.cell? ⟨g, 0, none⟩ = some (.int .i64 m) ∧ wx.cell? ⟨g, 1, none⟩ = some (.slice a5 q c5) ∧ MatN W.heap.size wx a5 q KM ∧ Below W.heap.size W wx)
  case first =>
    obtain ⟨c0, c1, c2, c3, c4, _⟩ := HS.out W (Below.refl _ _)
    go_wp2_with fail
    refine HC.out.mono ?_
    rintro e w1 ⟨hb1, a5, c5, ap, cp, rfl, hN5⟩
    clear c0 c1 c2 c3 c4
    go_wp2_with fail
    go_meet
    exact ⟨w1.heap.size, a5, c5, rfl, rfl, cell_alloc_at _ _ _ rfl 0, cell_alloc_at _ _ _ rfl 1, hN5.keep (below1 _ _), Below.next hb1 (below1 _ _)⟩
  obtain ⟨g, a5, c5, rfl, rfl, g0, g1, hN5, hb5⟩ := hcut
  generalize wc = V at *
  obtain ⟨c0, c1, c2, c3, c4, zz⟩ := HS.out V hb5
  have HOV := Lib.hid (HO.out V a5 q c5 hb5)
  clear HC HO
  go_wp2_with fail
  refine (length_any m V).mono ?_
  rintro e w5 ⟨rfl, rfl⟩
  rw [Hle.out]
  go_wp2_with fail
  refine HOV.out.mono ?_
  rintro e w6 ⟨a6, c6, rfl, hN6, hb6⟩
  obtain ⟨_, _, _, _, _, zz6⟩ := HS.out w6 (Below.next hb5 hb6)
  have z0 := zz6.cell 0 rfl
  have z1 := zz6.cell 1 rfl
  have z2 := zz6.cell 2 rfl
  have z3 := zz6.cell 3 rfl
  have z4 := zz6.cell 4 rfl
  have f0 := zz6.frozen 0
  have f1 := zz6.frozen 1
  have f2 := zz6.frozen 2
  have f3 := zz6.frozen 3
  have f4 := zz6.frozen 4
  have hbF := Below.next HbW.out (Below.next hb5 hb6)
  have hs := HsW.out
  have hs2 := hb5.size
  have hM6 := hN5.keep hb6
  have hFin := HPost.out a6 c6 a5 c5 (((((w6.setCell ⟨w.heap.size + 1 + 1, 0, none⟩ (.int .i64 P)).setCell ⟨w.heap.size + 1 + 1, 1, none⟩ (.int .i64 M)).setCell ⟨w.heap.size + 1 + 1, 2, none⟩ (.slice a6 mod.length c6)).setCell ⟨w.heap.size + 1 + 1, 3, none⟩ (.int .i64 m)).setCell ⟨w.heap.size + 1 + 1, 4, none⟩ (.slice a5 q c5))
    ((((((hN6.setCell (p := ⟨w.heap.size + 1 + 1, 0, none⟩) (by simp; omega) _).setCell (p := ⟨w.heap.size + 1 + 1, 1, none⟩) (by simp; omega) _).setCell (p := ⟨w.heap.size + 1 + 1, 2, none⟩) (by simp; omega) _).setCell (p := ⟨w.heap.size + 1 + 1, 3, none⟩) (by simp; omega) _).setCell (p := ⟨w.heap.size + 1 + 1, 4, none⟩) (by simp; omega) _).mono (by omega))
    ((((((hM6.setCell (p := ⟨w.heap.size + 1 + 1, 0, none⟩) (by simp; omega) _).setCell (p := ⟨w.heap.size + 1 + 1, 1, none⟩) (by simp; omega) _).setCell (p := ⟨w.heap.size + 1 + 1, 2, none⟩) (by simp; omega) _).setCell (p := ⟨w.heap.size + 1 + 1, 3, none⟩) (by simp; omega) _).setCell (p := ⟨w.heap.size + 1 + 1, 4, none⟩) (by simp; omega) _).mono (by omega))
    (((((hbF.setCell (p := ⟨w.heap.size + 1 + 1, 0, none⟩) (by simp; omega) _).setCell (p := ⟨w.heap.size + 1 + 1, 1, none⟩) (by simp; omega) _).setCell (p := ⟨w.heap.size + 1 + 1, 2, none⟩) (by simp; omega) _).setCell (p := ⟨w.heap.size + 1 + 1, 3, none⟩) (by simp; omega) _).setCell (p := ⟨w.heap.size + 1 + 1, 4, none⟩) (by simp; omega) _)
  have HFin := Lib.hid hFin
  clear hFin hM6 hN5 hN6 HOV zz zz6
  go_wp2_with fail
  exact bodyPost_ret (v := .tuple #[.agg #[.int .i64 P, .int .i64 M, .slice a6 mod.length c6, .int .i64 m, .slice a5 q c5], .int .i64 0]) (by simp [results, Tryz.results45, go_sem, z0, z1, z2, z3, z4]) rfl HFin.out
end

/- The walk of modify.Permute. -/
section
open Go.RowKit

theorem scat_zero (m : Nat) (R r : List Int) : (scat m R r 0).map (Value.int .i64) = List.replicate m (Value.int .i64 0) := by rw [scat, List.map_replicate]
set_option maxRecDepth 100000 in
set_option maxHeartbeats 4000000 in
theorem permute_any (P M : Int) (am : Option Addr) (mn cm : Nat) (mod : List Int) (m : Nat) (a : Option Addr) (n c : Nat) (L : List (List Int)) (ap : Option Addr) (cp : Nat) (R : List Int) (w : World) (hmod : Ints w am mn mod) (hi : Mat w a n L)
    (hE : codeE P M mod m L = 0) (hmn : mn ≤ 1000000) (hp : Ints w ap m R) (hR : InN m R) (hset : okSet m (sortL R) = true) (hfE : fmatE P M mod m (L.map fun r => scat m R r m) = 0) :
    Calls Tryz.prog 62 #[.agg #[.int .i64 P, .int .i64 M, .slice am mn cm, .int .i64 m, .slice a n c], .slice ap m cp] w (CNewPost P M mod m (L.map fun r => scat m R r m) w) := by
  have Hpl := Lib.hid hp.len
  have Hil := Lib.hid hi.len
  have hplp := hp.pl
  have hpla := hi.pl
  obtain ⟨m', e, hm1, hm64, _, hRw⟩ := codeE_fld hE
  obtain rfl : m = m' := by omega
  have hn : n ≤ 256 := by rw [← hi.len]; exact (codeE_rws hE).choose_spec.2.2.2.1
  have HRl : Hid (∀ k, k < n → (nthR L k).length = m) := fun k hk => (hRw _ (nthR_mem (by rw [hi.len]; exact hk))).1
  have HRi := Lib.hid hR
  obtain ⟨L2, hL2⟩ : ∃ L2, (L.map fun r => scat m R r m) = L2 := ⟨_, rfl⟩
  have HLk : Hid (∀ k, k < n → L2.take (k + 1) = L2.take k ++ [scat m R (nthR L k) m]) := fun k hk => by
    have hk' : k < L2.length := by rw [← hL2, List.length_map, hi.len]; exact hk
    rw [List.take_succ_eq_append_getElem hk', ← nthR_getElem hk', ← hL2, nthR_map _ L (by rw [hi.len]; exact hk)]
  have HL2l : Hid (L2.length = n) := by show _ = _; rw [← hL2, List.length_map]; exact hi.len
  rw [hL2] at hfE ⊢
  have HN : Hid (∀ V a5 c5, Below w.heap.size w V → Mat V a5 n L2 → Calls Tryz.prog 45 #[.agg #[.int .i64 P, .int .i64 M, .slice am mn cm], .agg #[.int .i64 m, .slice a5 n c5]] V (CNewPost P M mod m L2 V)) := fun V a5 c5 hV hM =>
    codeNew_any P M am mn cm mod m a5 n c5 L2 V (hmod.keep hV) hM hfE hm1 hm64 hmn
  have HE := Lib.hid hE
  have hnn : ((m : Int) != m) = false := by simp
  clear hL2 hfE hE hRw hR e
  go_enter Tryz.func62, Tryz.ntmps62
  go_wp2_with fail
  obtain ⟨W, hW⟩ : ∃ W : World, W = (w.alloc (.cells #[.int .i64 P, .int .i64 M, .slice am mn cm, .int .i64 m, .slice a n c] 27)).alloc (.cells #[.int .i64 0, .int .i64 0, .slice none 0 0, .int .i64 0, .slice none 0 0] 27) := ⟨_, rfl⟩
  rw [← hW]
  have hbW : Below w.heap.size w W := by rw [hW]; exact below2 _ _ _
  have hsW : W.heap.size = w.heap.size + 2 := by rw [hW]; simp
  have x0 : Box W w.heap.size [.int .i64 P, .int .i64 M, .slice am mn cm, .int .i64 m, .slice a n c] := by rw [hW]; exact (Box.new _ _ _ rfl).alloc _
  have z0 : Box W (w.heap.size + 1) [.int .i64 0, .int .i64 0, .slice none 0 0, .int .i64 0, .slice none 0 0] := by rw [hW]; exact Box.new _ _ _ (by simp)
  clear hW
  have hS : ∀ V, Below W.heap.size W V → V.cell? ⟨w.heap.size, 0, none⟩ = some (.int .i64 P) ∧ V.cell? ⟨w.heap.size, 1, none⟩ = some (.int .i64 M) ∧ V.cell? ⟨w.heap.size, 2, none⟩ = some (.slice am mn cm) ∧ V.cell? ⟨w.heap.size, 3, none⟩ = some (.int .i64 m) ∧ V.cell? ⟨w.heap.size, 4, none⟩ = some (.slice a n c) ∧
      Box V (w.heap.size + 1) [.int .i64 0, .int .i64 0, .slice none 0 0, .int .i64 0, .slice none 0 0] := fun V hV => by
    have x1 := x0.keep hV
    exact ⟨x1.cell 0 rfl, x1.cell 1 rfl, x1.cell 2 rfl, x1.cell 3 rfl, x1.cell 4 rfl, z0.keep hV⟩
  have HS := Lib.hid hS
  have HbW := Lib.hid hbW
  have HsW := Lib.hid hsW
  refine (codeCheck_any P M am mn cm mod m a n c L W (hmod.keep hbW) (hi.keep hbW)).mono ?_
  rintro e w1 ⟨rfl, hb1⟩
  rw [HE.out]
  clear hS x0 z0 hbW hsW
  go_wp2_with fail
  refine (values_any ap m cp w1).mono ?_
  rintro e w2 ⟨rfl, rfl⟩
  have hb12 := below1 w1 (.cells #[.slice ap m cp] 22)
  go_wp2_with fail
  refine (sorted_any w1.heap.size ap m cp R (by omega) _ (by simp) (cell_alloc_at _ _ _ rfl 0) ((hp.keep (Below.next HbW.out hb1)).keep hb12)).mono ?_
  rintro e w3 ⟨a4, c4, rfl, hown4, hb3⟩
  have hI4 := (Ints.own hown4).1
  have hbW3 : Below W.heap.size W w3 := Below.next hb1 (Below.next hb12 hb3)
  obtain ⟨c0, c1, c2, c3, c4', _⟩ := HS.out w3 hbW3
  clear hown4 hb1 hb12 hb3
  go_wp2_with fail
  refine (modSet_any m a4 m c4 (sortL R) w3 hI4).mono ?_
  rintro e w4 ⟨rfl, rfl⟩
  rw [hset]
  go_upto_region 7 with fail
  obtain ⟨g, hg⟩ : ∃ g, w3.heap.size = g := ⟨_, rfl⟩
  have HG := Lib.hid hg
  clear hg
  go_cut [8] (fun v wx => v = .pointer (some ⟨w3.heap.size, 0, none⟩) ∧ MOut wx w3.heap.size (.int .i64 m) none 0 0 [] [] ∧ Below w3.heap.size w3 wx)
  case first =>
    go_wp2_with fail
    go_meet
    exact ⟨rfl, MOut.start (Box.new w3 [.int .i64 m, .slice none 0 0] _ rfl), below1 _ _⟩
  obtain ⟨rfl, hO0, hbc⟩ := hcut
  generalize wc = U at *
  have hs3 := HG.out
  rw [hs3] at hO0 ⊢
  have HbU := Lib.hid (Below.next hbW3 hbc)
  obtain ⟨c0', c1', c2', c3', c4'', _⟩ := HS.out U HbU.out
  have hgU := hO0.lt
  clear c0 c1 c2 c3 c4' hbc hs3
  have hgW : W.heap.size ≤ g := by have := hbW3.size; have := HG.out; omega
  go_wp2_with fail
  go_loopw [42] (fun iv wr => ∃ (k : Nat) (a1 : Option Addr) (c1 : Nat) (Rr : List (Option Addr × Nat)), k ≤ n ∧ iv = .int .i64 k ∧ MOut wr g (.int .i64 m) a1 k c1 Rr (L2.take k) ∧ Below g U wr) (fun iv _ => n - (intOf iv).toNat)
  case atStart => exact ⟨0, none, 0, [], Nat.zero_le _, rfl, by simpa using hO0, Below.refl _ _⟩
  case round =>
    clear hO0
    obtain ⟨k, a1, c1, Rr, hk, rfl, hO, hbr⟩ := hrel
    have hbWr := Below.trans HbU.out (hbr.mono hgW)
    have hbwr := Below.next HbW.out hbWr
    obtain ⟨d0, d1, d2, d3, d4, zz⟩ := HS.out wr hbWr
    have hgr := hO.lt
    by_cases hlt : k < n
    · obtain ⟨ra, rn, rc, hcell, hrow⟩ := (hi.keep hbwr).cell k hlt
      have hrn : rn = m := by rw [← hrow.len]; exact HRl.out k hlt
      subst hrn
      have Htk := Lib.hid (HLk.out k hlt)
      obtain ⟨l, hl⟩ : ∃ l, nthR L k = l := ⟨_, rfl⟩
      rw [hl] at Htk hrow
      have hplr := hrow.pl
      clear hl zz
      go_wp2_with (at_make; refine wpList_mk rfl _ _ 22 3 rfl (.int .i64 0) 8 Tryz.underlying22 infoInt rfl rn rfl rfl (by omega) (by unfold maxLen; omega) ?_; intro a5 w5 hown hbel hge hlt5)
      have hown0 : w5.ownsRow wr.heap.size 3 1 (.slice a5 rn rn) rn ((scat rn R l 0).map (Value.int .i64)) := by rw [scat_zero]; exact hown
      clear hown hge hlt5 d0 d1 d2 d3 d4 hcell
      generalize wr = X1 at *
      go_loopw [51] (fun jv ws => ∃ j : Nat, j ≤ rn ∧ jv = .int .i64 j ∧ ws.ownsRow X1.heap.size 3 1 (.slice a5 rn rn) rn ((scat rn R l j).map (Value.int .i64)) ∧ Below X1.heap.size X1 ws) (fun jv _ => rn - (intOf jv).toNat)
      case atStart => exact ⟨0, Nat.zero_le _, rfl, hown0, hbel⟩
      case round =>
        clear hown0 hbel
        obtain ⟨j, hj, rfl, hown, hbs⟩ := hrel
        by_cases hltj : j < rn
        · have cq := ((hp.keep hbwr).keep hbs).cell j hltj
          have cr := (hrow.keep hbs).cell j hltj
          have hqb := HRi.out j (by rw [Hpl.out]; exact hltj)
          obtain ⟨z, hz⟩ : ∃ z : Nat, nth R j = z := ⟨(nth R j).toNat, by omega⟩
          have hzm : z < rn := by omega
          have Hst : Hid (scat rn R l (j + 1) = (scat rn R l j).set z (nth l j)) := by show _ = _; rw [scat, hz, Int.toNat_natCast]
          rw [hz] at cq
          obtain ⟨hints, hmine⟩ := Ints.own hown
          have hpl5 := hints.pl
          have cz := hints.cell z hzm
          have fz := (hmine (by omega)).2 z hzm
          have hB := (hmine (by omega)).1
          clear hz hqb
          go_wp2_with fail
          go_roundw
          case rel =>
            have h := own_set hown z hzm (.int .i64 (nth l j))
            rw [← List.map_set, ← Hst.out] at h
            exact ⟨j + 1, by omega, by go_num, h, hbs.setCell hB _⟩
          case measure => simp [intOf] <;> omega
        · obtain rfl : j = rn := by omega
          have hs := hO.keep hbs
          have hOk := hs.om.keep (below1 wr (.cells #[.slice a5 j j] 22))
          have hcp := hs.c1
          have hgs := hs.lt
          go_wp2_with (at_builtin; refine wpList_push rfl _ _ 25 22 rfl (.slice none 0 0) 24 Tryz.underlying25 infoInts rfl (g + 1) a1 k c1 _ rfl hOk.own ⟨wr.heap.size, 0, none⟩ 1 (.slice a5 j j) rfl (cell_new wr _ _) rfl (by omega) (by unfold maxLen; omega) (by simp; omega) ?_; intro a6 c6 w6 hown6 hgr6 hap6; have hk6 := (hs.pushed hgr6).2.1; have hf6 := (hs.pushed hgr6).2.2)
          go_roundw
          case rel =>
            have hra : a5 ≠ none → ¬ OIn a1 Rr (ablk a5) := fun h0 hI => by
              have h1 := (own_ne hown h0).1
              have h2 := (hO.om.lt _ hI).2
              omega
            obtain ⟨hP, hbP⟩ := hs.push (scat_len j R l j) (own_mono hown (by omega)) hra hown6 hgr6 hap6
            exact ⟨k + 1, a6, c6, _, by omega, by go_num, by rw [Htk.out]; exact hP, Below.trans hbr ((hbs.mono (by omega)).trans hbP)⟩
          case measure => simp [intOf] <;> omega
    · obtain rfl : k = n := by omega
      rw [List.take_of_length_le (by rw [HL2l.out]; exact Nat.le_refl _)] at hO
      have Hc := Lib.hid (HN.out wr a1 c1 hbwr hO.om.mat)
      have g0 := hO.c0
      have g1 := hO.c1
      clear HN zz hO
      go_wp2_with fail
      refine Hc.out.mono ?_
      rintro e w6 ⟨a6, c6, a7, c7, rfl, hN1, hN2, hb6⟩
      obtain ⟨_, _, _, _, _, zz6⟩ := HS.out w6 (Below.next hbWr hb6)
      have z0 := zz6.cell 0 rfl
      have z1 := zz6.cell 1 rfl
      have z2 := zz6.cell 2 rfl
      have z3 := zz6.cell 3 rfl
      have z4 := zz6.cell 4 rfl
      have f0 := zz6.frozen 0
      have f1 := zz6.frozen 1
      have f2 := zz6.frozen 2
      have f3 := zz6.frozen 3
      have f4 := zz6.frozen 4
      have hs := HsW.out
      have hs2 := hbWr.size
      have hbF := Below.next hbwr hb6
      obtain ⟨q, hq⟩ : ∃ q, (canS (tblOf P M.toNat mod) L2 m).length = q := ⟨_, rfl⟩
      have hFin : CNewPost P M mod m L2 w (.returned (.tuple #[.agg #[.int .i64 P, .int .i64 M, .slice a6 mod.length c6, .int .i64 m, .slice a7 (canS (tblOf P M.toNat mod) L2 m).length c7], .int .i64 0]))
          (((((w6.setCell ⟨w.heap.size + 1, 0, none⟩ (.int .i64 P)).setCell ⟨w.heap.size + 1, 1, none⟩ (.int .i64 M)).setCell ⟨w.heap.size + 1, 2, none⟩ (.slice a6 mod.length c6)).setCell ⟨w.heap.size + 1, 3, none⟩ (.int .i64 m)).setCell ⟨w.heap.size + 1, 4, none⟩ (.slice a7 (canS (tblOf P M.toNat mod) L2 m).length c7)) := by
        refine ⟨a6, c6, a7, c7, rfl, ?_, ?_, (((((hbF.setCell (p := ⟨w.heap.size + 1, 0, none⟩) (by simp) _).setCell (p := ⟨w.heap.size + 1, 1, none⟩) (by simp) _).setCell (p := ⟨w.heap.size + 1, 2, none⟩) (by simp) _).setCell (p := ⟨w.heap.size + 1, 3, none⟩) (by simp) _).setCell (p := ⟨w.heap.size + 1, 4, none⟩) (by simp) _)⟩
        · exact (((((hN1.setCell (p := ⟨w.heap.size + 1, 0, none⟩) (by simp; omega) _).setCell (p := ⟨w.heap.size + 1, 1, none⟩) (by simp; omega) _).setCell (p := ⟨w.heap.size + 1, 2, none⟩) (by simp; omega) _).setCell (p := ⟨w.heap.size + 1, 3, none⟩) (by simp; omega) _).setCell (p := ⟨w.heap.size + 1, 4, none⟩) (by simp; omega) _).mono (by omega)
        · exact (((((hN2.setCell (p := ⟨w.heap.size + 1, 0, none⟩) (by simp; omega) _).setCell (p := ⟨w.heap.size + 1, 1, none⟩) (by simp; omega) _).setCell (p := ⟨w.heap.size + 1, 2, none⟩) (by simp; omega) _).setCell (p := ⟨w.heap.size + 1, 3, none⟩) (by simp; omega) _).setCell (p := ⟨w.heap.size + 1, 4, none⟩) (by simp; omega) _).mono (by omega)
      rw [hq] at hFin ⊢
      have HFin := Lib.hid hFin
      clear hFin hN1 hN2 Hc zz6 hq
      go_wp2_with fail
      exact bodyPost_ret (v := .tuple #[.agg #[.int .i64 P, .int .i64 M, .slice a6 mod.length c6, .int .i64 m, .slice a7 q c7], .int .i64 0]) (by simp [results, Tryz.results62, go_sem, z0, z1, z2, z3, z4]) rfl HFin.out
end

/- The walk of ordering.Reorder. -/
section
open Go.RowKit

theorem fmatE_mk {P M : Int} {mod : List Int} {m : Nat} {D : List (List Int)} (hfB : fieldB P M mod = true) (hm : m ≤ 256) (hD : D.length ≤ 256) (hR : Rws (tblOf P M.toNat mod).El m D) : fmatE P M mod m D = 0 := by
  unfold fmatE
  rw [if_pos hfB]
  unfold matE
  rw [if_neg (by omega)]
  have hsh : shapeQ (m : Int) D = true := by
    unfold shapeQ
    rw [List.all_eq_true]
    intro r hr
    have := (hR r hr).1
    simp; omega
  rw [if_neg (by rw [hsh]; decide), if_pos]
  rw [List.all_eq_true]
  intro r hr
  unfold elsQ isQ
  rw [List.all_eq_true]
  intro x hx
  have := (hR r hr).2 x hx
  unfold Tbl.El at this
  simp
  exact this
theorem reo_fmat {P M : Int} {mod : List Int} {m : Nat} {L : List (List Int)} {Q : List Int} (hE : codeE P M mod m L = 0) (hO : ordB m Q = true) : fmatE P M mod m (L.map (pickL Q)) = 0 := by
  obtain ⟨N', e, hm1, hm64, F, hR⟩ := codeE_fld hE
  obtain rfl : m = N' := by omega
  obtain ⟨hI, hl⟩ := ordB_in hO
  exact fmatE_mk (codeE_zero hE).1 (by omega) (by rw [List.length_map]; exact (codeE_rws hE).choose_spec.2.2.2.1) (reo_rws F hR hI hl)

def ReoPost (P M : Int) (mod : List Int) (N : Int) (L : List (List Int)) (Q : List Int) (w : World) (e : Ending) (w' : World) : Prop :=
  Below w.heap.size w w' ∧ (
    (ordE P M mod N L Q ≠ 0 ∧ e = .returned (.tuple #[.agg #[.int .i64 0, .int .i64 0, .slice none 0 0, .int .i64 0, .slice none 0 0], .int .i64 (ordE P M mod N L Q)])) ∨
    (ordE P M mod N L Q = 0 ∧ ∃ m : Nat, ∃ a1 c1 a2 c2, N = m ∧ e = .returned (.tuple #[.agg #[.int .i64 P, .int .i64 M, .slice a1 mod.length c1, .int .i64 m, .slice a2 (reoL (tblOf P M.toNat mod).ops m Q L).length c2], .int .i64 0]) ∧
      IntsN w.heap.size w' a1 mod.length mod ∧ MatN w.heap.size w' a2 (reoL (tblOf P M.toNat mod).ops m Q L).length (reoL (tblOf P M.toNat mod).ops m Q L)))

set_option maxRecDepth 100000 in
set_option maxHeartbeats 4000000 in
theorem reorder_any (P M : Int) (am : Option Addr) (mn cm : Nat) (mod : List Int) (N : Int) (a : Option Addr) (n c : Nat) (L : List (List Int)) (ao : Option Addr) (no co : Nat) (Q : List Int) (w : World)
    (hmod : Ints w am mn mod) (hi : Mat w a n L) (hq : Ints w ao no Q) :
    Calls Tryz.prog 17 #[.agg #[.int .i64 P, .int .i64 M, .slice am mn cm, .int .i64 N, .slice a n c], .slice ao no co] w (ReoPost P M mod N L Q w) := by
  have Hql := Lib.hid hq.len
  have hplq := hq.pl
  go_enter Tryz.func17, Tryz.ntmps17
  go_wp2_with fail
  obtain ⟨W, hW⟩ : ∃ W : World, W = (w.alloc (.cells #[.int .i64 P, .int .i64 M, .slice am mn cm, .int .i64 N, .slice a n c] 27)).alloc (.cells #[.int .i64 0, .int .i64 0, .slice none 0 0, .int .i64 0, .slice none 0 0] 27) := ⟨_, rfl⟩
  rw [← hW]
  have hbW : Below w.heap.size w W := by rw [hW]; exact below2 _ _ _
  have hsW : W.heap.size = w.heap.size + 2 := by rw [hW]; simp
  have x0 : Box W w.heap.size [.int .i64 P, .int .i64 M, .slice am mn cm, .int .i64 N, .slice a n c] := by rw [hW]; exact (Box.new _ _ _ rfl).alloc _
  have z0 : Box W (w.heap.size + 1) [.int .i64 0, .int .i64 0, .slice none 0 0, .int .i64 0, .slice none 0 0] := by rw [hW]; exact Box.new _ _ _ (by simp)
  clear hW
  have hS : ∀ V, Below W.heap.size W V → V.cell? ⟨w.heap.size, 0, none⟩ = some (.int .i64 P) ∧ V.cell? ⟨w.heap.size, 1, none⟩ = some (.int .i64 M) ∧ V.cell? ⟨w.heap.size, 2, none⟩ = some (.slice am mn cm) ∧ V.cell? ⟨w.heap.size, 3, none⟩ = some (.int .i64 N) ∧ V.cell? ⟨w.heap.size, 4, none⟩ = some (.slice a n c) ∧
      Box V (w.heap.size + 1) [.int .i64 0, .int .i64 0, .slice none 0 0, .int .i64 0, .slice none 0 0] := fun V hV => by
    have x1 := x0.keep hV
    exact ⟨x1.cell 0 rfl, x1.cell 1 rfl, x1.cell 2 rfl, x1.cell 3 rfl, x1.cell 4 rfl, z0.keep hV⟩
  have HS := Lib.hid hS
  have HbW := Lib.hid hbW
  have HsW := Lib.hid hsW
  refine (ordOrdered_any P M am mn cm mod N a n c L ao no co Q W (hmod.keep hbW) (hi.keep hbW) (hq.keep hbW)).mono ?_
  rintro e w1 ⟨rfl, hb1⟩
  have hbw1 := Below.next hbW hb1
  clear hS x0 z0 hbW hsW
  by_cases hO : ordE P M mod N L Q = 0
  · obtain ⟨hE, hB⟩ := ordE_zero hO
    have HO := Lib.hid hO
    have hmn : mn ≤ 1000000 := by
      have h1 := hmod.len
      have h2 := mod_len (codeE_zero hE).1
      omega
    obtain ⟨m, rfl, hm1, hm64, _, _⟩ := codeE_fld hE
    obtain ⟨hI, hl⟩ := ordB_in hB
    obtain rfl : no = m := by rw [← hq.len]; exact hl
    have hsc : (L.map fun r => scat no (permTo no Q no) r no) = L.map (pickL Q) := List.map_congr_left fun r _ => scat_pick hm64 hB r
    have HP : Hid (∀ V a7 c7, Below w.heap.size w V → Ints V a7 no (permTo no Q no) → Calls Tryz.prog 62 #[.agg #[.int .i64 P, .int .i64 M, .slice am mn cm, .int .i64 no, .slice a n c], .slice a7 no c7] V (CNewPost P M mod no (L.map (pickL Q)) V)) := fun V a7 c7 hV hp => by
      have h := permute_any P M am mn cm mod no a n c L a7 c7 (permTo no Q no) V (hmod.keep hV) (hi.keep hV) hE hmn hp (permTo_in hm64 hB) (permTo_set hm64 hB) (by rw [hsc]; exact reo_fmat hE hB)
      rw [hsc] at h
      exact h
    have HI := Lib.hid hI
    have Hlk : Hid (∀ k, k < no → 0 ≤ nth Q k ∧ nth Q k < no) := fun k hk => hI k (by rw [Hql.out]; exact hk)
    have hq1 := hq.keep hbw1
    obtain ⟨c0, c1, c2, c3, c4, _⟩ := HS.out w1 hb1
    rw [hO]
    clear hO hE hB hI hl hsc
    go_wp2_with (at_make; refine wpList_mk rfl _ _ 22 3 rfl (.int .i64 0) 8 Tryz.underlying22 infoInt rfl no rfl rfl (by omega) (by unfold maxLen; omega) ?_; intro a5 w5 hown hbel hge hlt)
    have hown0 : w5.ownsRow w1.heap.size 3 1 (.slice a5 no no) no ((permTo no Q 0).map (Value.int .i64)) := by rw [permTo, List.map_replicate]; exact hown
    clear hown hge hlt c0 c1 c2 c3 c4
    go_loopw [22] (fun iv wr => ∃ k : Nat, k ≤ no ∧ iv = .int .i64 k ∧ wr.ownsRow w1.heap.size 3 1 (.slice a5 no no) no ((permTo no Q k).map (Value.int .i64)) ∧ Below w1.heap.size w1 wr) (fun iv _ => no - (intOf iv).toNat)
    case atStart => exact ⟨0, Nat.zero_le _, rfl, hown0, hbel⟩
    case round =>
      clear hown0 hbel
      obtain ⟨k, hk, rfl, hown, hbr⟩ := hrel
      by_cases hlt : k < no
      · have cq := (hq1.keep hbr).cell k hlt
        have hqb := Hlk.out k hlt
        obtain ⟨z, hz⟩ : ∃ z : Nat, nth Q k = z := ⟨(nth Q k).toNat, by omega⟩
        have hzm : z < no := by omega
        have hst : permTo no Q (k + 1) = (permTo no Q k).set z (k : Int) := by rw [permTo, hz, Int.toNat_natCast]
        have Hst := Lib.hid hst
        rw [hz] at cq
        obtain ⟨hints, hmine⟩ := Ints.own hown
        have hpl5 := hints.pl
        have cz := hints.cell z hzm
        have fz := (hmine (by omega)).2 z hzm
        have hB := (hmine (by omega)).1
        clear hz hqb hst
        go_wp2_with fail
        go_roundw
        case rel =>
          have h := own_set hown z hzm (.int .i64 k)
          rw [← List.map_set, ← Hst.out] at h
          exact ⟨k + 1, by omega, by go_num, h, hbr.setCell hB _⟩
        case measure => simp [intOf] <;> omega
      · obtain rfl : k = no := by omega
        have hI7 := (Ints.own hown).1
        have hbwr := Below.next hbw1 hbr
        have HC := Lib.hid (HP.out wr a5 k hbwr hI7)
        obtain ⟨c0, c1, c2, c3, c4, _⟩ := HS.out wr (Below.next hb1 hbr)
        clear hown hI7
        go_wp2_with fail
        refine HC.out.mono ?_
        rintro e w6 ⟨a1, c1', a2, c2', rfl, hN1, hN2, hb6⟩
        obtain ⟨_, _, _, _, _, zz6⟩ := HS.out w6 (Below.next (Below.next hb1 hbr) hb6)
        have z0 := zz6.cell 0 rfl
        have z1 := zz6.cell 1 rfl
        have z2 := zz6.cell 2 rfl
        have z3 := zz6.cell 3 rfl
        have z4 := zz6.cell 4 rfl
        have f0 := zz6.frozen 0
        have f1 := zz6.frozen 1
        have f2 := zz6.frozen 2
        have f3 := zz6.frozen 3
        have f4 := zz6.frozen 4
        have hs := HsW.out
        have hs2 := (Below.next hb1 hbr).size
        have hbF := Below.next hbwr hb6
        have hFin : ReoPost P M mod k L Q w (.returned (.tuple #[.agg #[.int .i64 P, .int .i64 M, .slice a1 mod.length c1', .int .i64 k, .slice a2 (reoL (tblOf P M.toNat mod).ops k Q L).length c2'], .int .i64 0]))
            (((((w6.setCell ⟨w.heap.size + 1, 0, none⟩ (.int .i64 P)).setCell ⟨w.heap.size + 1, 1, none⟩ (.int .i64 M)).setCell ⟨w.heap.size + 1, 2, none⟩ (.slice a1 mod.length c1')).setCell ⟨w.heap.size + 1, 3, none⟩ (.int .i64 k)).setCell ⟨w.heap.size + 1, 4, none⟩ (.slice a2 (reoL (tblOf P M.toNat mod).ops k Q L).length c2')) := by
          refine ⟨(((((hbF.setCell (p := ⟨w.heap.size + 1, 0, none⟩) (by simp) _).setCell (p := ⟨w.heap.size + 1, 1, none⟩) (by simp) _).setCell (p := ⟨w.heap.size + 1, 2, none⟩) (by simp) _).setCell (p := ⟨w.heap.size + 1, 3, none⟩) (by simp) _).setCell (p := ⟨w.heap.size + 1, 4, none⟩) (by simp) _), .inr ⟨HO.out, k, a1, c1', a2, c2', rfl, rfl, ?_, ?_⟩⟩
          · exact (((((hN1.setCell (p := ⟨w.heap.size + 1, 0, none⟩) (by simp; omega) _).setCell (p := ⟨w.heap.size + 1, 1, none⟩) (by simp; omega) _).setCell (p := ⟨w.heap.size + 1, 2, none⟩) (by simp; omega) _).setCell (p := ⟨w.heap.size + 1, 3, none⟩) (by simp; omega) _).setCell (p := ⟨w.heap.size + 1, 4, none⟩) (by simp; omega) _).mono (by omega)
          · exact (((((hN2.setCell (p := ⟨w.heap.size + 1, 0, none⟩) (by simp; omega) _).setCell (p := ⟨w.heap.size + 1, 1, none⟩) (by simp; omega) _).setCell (p := ⟨w.heap.size + 1, 2, none⟩) (by simp; omega) _).setCell (p := ⟨w.heap.size + 1, 3, none⟩) (by simp; omega) _).setCell (p := ⟨w.heap.size + 1, 4, none⟩) (by simp; omega) _).mono (by omega)
        have HFin := Lib.hid hFin
        have hre : (canS (tblOf P M.toNat mod) (L.map (pickL Q)) k).length = (reoL (tblOf P M.toNat mod).ops k Q L).length := rfl
        rw [hre]
        clear hFin hN1 hN2 HC zz6 hre
        generalize (reoL (tblOf P M.toNat mod).ops k Q L).length = q at *
        go_wp2_with fail
        exact bodyPost_ret (v := .tuple #[.agg #[.int .i64 P, .int .i64 M, .slice a1 mod.length c1', .int .i64 k, .slice a2 q c2'], .int .i64 0]) (by simp [results, Tryz.results17, go_sem, z0, z1, z2, z3, z4]) rfl HFin.out
  · have HO := Lib.hid hO
    have hO2 : (ordE P M mod N L Q != 0) = true := by simpa using hO
    obtain ⟨_, _, _, _, _, zz6⟩ := HS.out w1 hb1
    have z0 := zz6.cell 0 rfl
    have z1 := zz6.cell 1 rfl
    have z2 := zz6.cell 2 rfl
    have z3 := zz6.cell 3 rfl
    have z4 := zz6.cell 4 rfl
    have f0 := zz6.frozen 0
    have f1 := zz6.frozen 1
    have f2 := zz6.frozen 2
    have f3 := zz6.frozen 3
    have f4 := zz6.frozen 4
    have hb6 : Below w.heap.size w (((((w1.setCell ⟨w.heap.size + 1, 0, none⟩ (.int .i64 0)).setCell ⟨w.heap.size + 1, 1, none⟩ (.int .i64 0)).setCell ⟨w.heap.size + 1, 2, none⟩ (.slice none 0 0)).setCell ⟨w.heap.size + 1, 3, none⟩ (.int .i64 0)).setCell ⟨w.heap.size + 1, 4, none⟩ (.slice none 0 0)) :=
      (((((hbw1.setCell (p := ⟨w.heap.size + 1, 0, none⟩) (by simp) _).setCell (p := ⟨w.heap.size + 1, 1, none⟩) (by simp) _).setCell (p := ⟨w.heap.size + 1, 2, none⟩) (by simp) _).setCell (p := ⟨w.heap.size + 1, 3, none⟩) (by simp) _).setCell (p := ⟨w.heap.size + 1, 4, none⟩) (by simp) _)
    have hFin : ReoPost P M mod N L Q w (.returned (.tuple #[.agg #[.int .i64 0, .int .i64 0, .slice none 0 0, .int .i64 0, .slice none 0 0], .int .i64 (ordE P M mod N L Q)])) _ := ⟨hb6, .inl ⟨hO, rfl⟩⟩
    have HFin := Lib.hid hFin
    clear hFin hb6 zz6 hO
    generalize ordE P M mod N L Q = oe at *
    go_wp2_with fail
    exact bodyPost_ret (v := .tuple #[.agg #[.int .i64 0, .int .i64 0, .slice none 0 0, .int .i64 0, .slice none 0 0], .int .i64 oe]) (by simp [results, Tryz.results17, go_sem, z0, z1, z2, z3, z4]) rfl HFin.out
end

end Go.Proofs.YtakmnncmeefceaaGreat
