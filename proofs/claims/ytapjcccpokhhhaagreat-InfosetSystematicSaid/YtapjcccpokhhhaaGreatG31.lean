/- The arguments, opened: numbers, lists, lists of lists, codes. -/
import Derived.Test.YtapjcccpokhhhaaGreatG17
import Derived.WalkKit
import Derived.ProofKit
import Derived.OpenShut
import Derived.ShutString
import Derived.ChangeOld
import Derived.Below
import Derived.Deep.Matrix
namespace Go.Proofs.YtapjcccpokhhhaaGreat
set_option linter.unusedVariables false
set_option linter.unusedSimpArgs false
set_option linter.unusedSectionVars false

/- The walk of codewrightlaw48.alive. -/
section
open Go.RowKit
end

/- The arguments, opened: numbers, lists, lists of lists, codes. -/
section
open Go.ChangeShapes Go.WideShapes Go.ChangeAt Go.RowKit

theorem Tryz.own : ownKnob Tryz.prog.godebug = none := by kernel_rfl
theorem Tryz.laid : laidOutB Tryz.prog = true := by kernel_rfl

section
variable {H : Type} {enc : TypeId × Value → H} {W : World} {held : Bool} {fuel : Nat} {cs : List Value} {x : DataW H × List MemPlace}

theorem add_cell {a : Addr} {v : Value} {i : Nat} (h : W.cell? (a.add i) = some v) : W.cell? ⟨a.block, a.off + i, none⟩ = some v := by
  have hs := World.cell?_spot h
  obtain ⟨b, o, s⟩ := a
  by_cases h0 : i = 0
  · subst h0
    simp only [Addr.add, if_true] at hs h
    subst hs
    exact h
  · simpa [Addr.add, h0] using h
theorem plain_of {a : Addr} {v : Value} (h : W.cell? (a.add 0) = some v) : a = ⟨a.block, a.off, none⟩ := by
  have hs := World.cell?_spot h
  obtain ⟨b, o, s⟩ := a
  simp only [Addr.add, if_true] at hs
  subst hs
  rfl
theorem nth_take_getD (l : List Int) (n i : Nat) (h : i < n) : nth (l.take n) i = l.getD i 0 := by
  unfold nth
  simp only [List.getD_eq_getElem?_getD, List.getElem?_take]
  rw [if_pos h]

theorem opened_ints (h : DataW.trod enc Tryz.prog W 0 (fun _ => true) held fuel 22 cs = some x) : ∃ a n c l, cs = [.slice a n c] ∧ Ints W a n l := by
  rcases open_ints Tryz.underlying22 Tryz.underlying3 (by kernel_rfl) h with ⟨hcs, _⟩ | ⟨a, len, cap, zs, hcs, _, hl, hm, hz, _, hcell, _⟩
  · exact ⟨none, 0, 0, [], hcs, Ints.nil _ _⟩
  · simp only [if_true] at hz
    refine ⟨some a, len, cap, zs.take len, hcs, ⟨by simp; omega, fun h0 => ?_, by omega, fun i hi => ?_⟩⟩
    · exact congrArg some (plain_of (hcell 0 (by omega)))
    · rw [nth_take_getD _ _ _ hi]
      exact add_cell (hcell i (by omega))
theorem opened_mat (h : DataW.trod enc Tryz.prog W 0 (fun _ => true) held fuel 25 cs = some x) : ∃ a n c L, cs = [.slice a n c] ∧ Mat W a n L := by
  rcases Go.Deep.open_int_rows Tryz.underlying25 Tryz.underlying22 Tryz.underlying3 (by kernel_rfl) (by kernel_rfl) h with ⟨hcs, _⟩ | ⟨a, len, cap, A, Ln, C, Z, hcs, _, hl, hm, _, hrows⟩
  · exact ⟨none, 0, 0, [], hcs, ⟨rfl, fun h0 => by omega, by unfold maxLen; omega, fun i hi => by omega⟩⟩
  · refine ⟨some a, len, cap, (List.range len).map (fun r => (Z r).take (Ln r)), hcs, ⟨by simp, fun h0 => congrArg some (plain_of (hrows 0 (by omega)).1), by omega, fun r hr => ?_⟩⟩
    obtain ⟨h1, h2, h3, h4, _, h5, h6⟩ := hrows r (by omega)
    refine ⟨A r, Ln r, C r, add_cell h1, ?_⟩
    have e : nthR ((List.range len).map (fun r => (Z r).take (Ln r))) r = (Z r).take (Ln r) := by
      unfold nthR
      simp [List.getD_eq_getElem?_getD, List.getElem?_map, List.getElem?_range hr]
    rw [e]
    match hA : A r, h5, h6 with
    | none, h5, _ =>
      have h0 : Ln r = 0 := by have := h5 rfl; omega
      rw [h0]
      exact Ints.nil _ _
    | some b, _, h6 =>
      obtain ⟨_, h7⟩ := h6 b rfl
      exact ⟨by simp; omega, fun h0 => congrArg some (plain_of (h7 0 (by omega))), by omega, fun i hi => by
        rw [nth_take_getD _ _ _ hi]
        exact add_cell (h7 i (by omega))⟩
end

section
variable {H : Type} {enc : TypeId × Value → H} {W : World} {held : Bool} {b0 : Nat} {v : Value} {d : DataW H} {p : List MemPlace}

set_option maxRecDepth 100000 in
theorem arg_ints (hv : Value.okWide Tryz.prog W .any b0 22 v) (h : DataW.Trod enc Tryz.prog W 0 (fun _ => true) held 22 v d p) : ∃ a n c l, v = .slice a n c ∧ Ints W a n l := by
  obtain ⟨a, n, c, rfl⟩ := okWide_slice Tryz.underlying22 hv
  obtain ⟨fuel, hf⟩ := h
  obtain ⟨a', n', c', l, e, hi⟩ := opened_ints hf
  simp [Value.cells] at e
  obtain ⟨rfl, rfl, rfl⟩ := e
  exact ⟨_, _, _, l, rfl, hi⟩
set_option maxRecDepth 100000 in
theorem arg_code (hv : Value.okWide Tryz.prog W .any b0 27 v) (h : DataW.Trod enc Tryz.prog W 0 (fun _ => true) held 27 v d p) :
    ∃ (P M : Int) (am : Option Addr) (mn cm : Nat) (mod : List Int) (N : Int) (a : Option Addr) (n c : Nat) (L : List (List Int)), v = .agg #[.int .i64 P, .int .i64 M, .slice am mn cm, .int .i64 N, .slice a n c] ∧ Ints W am mn mod ∧ Mat W a n L := by
  obtain ⟨cs, rfl, hsz⟩ := okWide_struct Tryz.underlying27 hv
  rw [show Tryz.prog.cellsOf 27 = 5 by kernel_rfl] at hsz
  obtain ⟨l⟩ := cs
  match l, hsz with
  | [v0, v1, v2, v3, v4], _ =>
  obtain ⟨fuel, hf⟩ := h
  obtain ⟨xs, n0, _, _, _, hlen, hfs⟩ := DataW.trod_struct Tryz.underlying27 hf
  obtain ⟨y0, y1, y2, rfl⟩ : ∃ y0 y1 y2, xs = [y0, y1, y2] := by
    match xs, hlen with
    | [y0, y1, y2], _ => exact ⟨y0, y1, y2, rfl⟩
  have k24 : Tryz.prog.cellsOf 24 = 3 := by kernel_rfl
  have k3 : Tryz.prog.cellsOf 3 = 1 := by kernel_rfl
  have k22 : Tryz.prog.cellsOf 22 = 1 := by kernel_rfl
  have k25 : Tryz.prog.cellsOf 25 = 1 := by kernel_rfl
  have g0 : DataW.trod enc Tryz.prog W 0 (fun _ => true) held n0 24 [v0, v1, v2] = some y0 := by simpa [Value.cells, k24] using hfs 0 _ rfl
  have g1 : DataW.trod enc Tryz.prog W 0 (fun _ => true) held n0 3 [v3] = some y1 := by simpa [Value.cells, k3] using hfs 1 _ rfl
  have g2 : DataW.trod enc Tryz.prog W 0 (fun _ => true) held n0 25 [v4] = some y2 := by simpa [Value.cells, k25] using hfs 2 _ rfl
  obtain ⟨xs', n1, _, _, _, hlen', hfs'⟩ := DataW.trod_struct Tryz.underlying24 g0
  obtain ⟨z0, z1, z2, rfl⟩ : ∃ z0 z1 z2, xs' = [z0, z1, z2] := by
    match xs', hlen' with
    | [z0, z1, z2], _ => exact ⟨z0, z1, z2, rfl⟩
  have q0 : DataW.trod enc Tryz.prog W 0 (fun _ => true) held n1 3 [v0] = some z0 := by simpa [k3] using hfs' 0 _ rfl
  have q1 : DataW.trod enc Tryz.prog W 0 (fun _ => true) held n1 3 [v1] = some z1 := by simpa [k3] using hfs' 1 _ rfl
  have q2 : DataW.trod enc Tryz.prog W 0 (fun _ => true) held n1 22 [v2] = some z2 := by simpa [k22] using hfs' 2 _ rfl
  obtain ⟨P, eP, _, _⟩ := DataW.trod_int Tryz.underlying3 q0
  obtain ⟨M, eM, _, _⟩ := DataW.trod_int Tryz.underlying3 q1
  obtain ⟨N, eN, _, _⟩ := DataW.trod_int Tryz.underlying3 g1
  obtain ⟨am, mn, cm, mod, eI, hI⟩ := opened_ints q2
  obtain ⟨a, n, c, L, eL, hL⟩ := opened_mat g2
  simp at eP eM eN eI eL
  subst eP eM eN eI eL
  exact ⟨P, M, am, mn, cm, mod, N, a, n, c, L, rfl, hI, hL⟩
end
end

end Go.Proofs.YtapjcccpokhhhaaGreat
