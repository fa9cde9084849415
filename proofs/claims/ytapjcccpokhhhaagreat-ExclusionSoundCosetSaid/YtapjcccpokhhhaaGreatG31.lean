/- The arguments, opened: a number with a tree; pairs of numbers below 2 to the 32nd. -/
import Derived.Test.YtapjcccpokhhhaaGreatG28
import Derived.Test.YtapjcccpokhhhaaGreatG30
import Derived.Test.YtapjcccpokhhhaaGreatG29
import Derived.Test.YtapjcccpokhhhaaGreatG16
import Derived.WalkKit
import Derived.ProofKit
import Derived.OpenShut
import Derived.ShutString
import Derived.ChangeOld
import Derived.Below
import Derived.Deep.Matrix
namespace Go.Proofs.YtapjcccpokhhhaaGreat
set_option linter.unusedVariables false
set_option linter.unusedSimpArgs false
set_option linter.unusedSectionVars false

/- AddTo of the reference, over the field of a code; the sum of a word and a combination is a word of the coset. -/
section
open Go.RowKit

theorem rAddC_any {P M : Int} {am : Option Addr} {mn cm : Nat} {mod : List Int} {m : Nat} {L : List (List Int)} (hE : codeE P M mod m L = 0) (av : Option Addr) (cv : Nat) (v : List Int) (s : Int) (au : Option Addr) (cu : Nat) (u : List Int) (w : World)
    (hmod : Ints w am mn mod) (hi : Ints w av m v) (hu : Ints w au m u) (hv : Vc (tblOf P M.toNat mod).El m v) (hs : (tblOf P M.toNat mod).El s) (hue : Vc (tblOf P M.toNat mod).El m u) :
    Calls Tryz.prog 45 #[.agg #[.int .i64 P, .int .i64 M, .slice am mn cm], .slice av m cv, .int .i64 s, .slice au m cu] w fun e w' => ∃ a1 c1, e = .returned (.slice a1 m c1) ∧ Ints w' a1 m (addRow (tblOf P M.toNat mod).ops v s u) ∧ Below w.heap.size w w' := by
  obtain ⟨k, hk, hel, hq, hF, hA, _⟩ := eq_ops (codeE_zero hE).1
  subst hk
  obtain ⟨k', e2, hrf, hmods⟩ := fieldRB_rf (P := P) (M := (k : Int)) (mod := mod) (by rw [fieldRB_eq]; exact (codeE_zero hE).1)
  obtain rfl : k = k' := by omega
  obtain ⟨_, _, hm64, _⟩ := codeE_zero hE
  rw [Int.toNat_natCast] at hv hs hue ⊢
  rw [← hel] at hv hs hue
  have h := rAddTo_any P k am mn cm mod av m cv v s au cu u w ⟨hrf, hmods w am mn hmod⟩ hs hi hu hv.2 hue.2 (by omega)
  rw [← addRow_agr hA hF.cl v u s hv.2 hue.2 hs] at h
  refine h.mono ?_
  rintro e w' ⟨a1, c1, rfl, hown, hb⟩
  have hl : (addRow (tblOf P k mod).ops v s u).length = m := by rw [addRow_length _ _ _ _ (by rw [hue.1, hv.1])]; exact hv.1
  rw [hl] at hown ⊢
  exact ⟨a1, c1, rfl, (Ints.own hown).1, hb⟩

section
variable {P M : Int} {mod : List Int} {m : Nat} {L : List (List Int)}
theorem cosE_zero {y : List Int} {W : Int} (h : cosE P M mod m L y W = 0) : codeE P M mod m L = 0 ∧ Vc (tblOf P M.toNat mod).El m y ∧ elsQ (tblOf P M.toNat mod).q y = true ∧ 0 ≤ W ∧ W ≤ m := by
  unfold cosE at h
  by_cases hE : codeE P M mod m L = 0
  · rw [if_pos hE] at h
    by_cases h1 : (y.length : Int) ≠ m
    · rw [if_pos h1] at h; cases h
    · rw [if_neg h1] at h
      by_cases h2 : elsQ (tblOf P M.toNat mod).q y = false
      · rw [if_pos h2] at h; cases h
      · rw [if_neg h2] at h
        have h2' : elsQ (tblOf P M.toNat mod).q y = true := by simpa using h2
        by_cases h3 : W < 0 ∨ (m : Int) < W
        · rw [if_pos h3] at h; cases h
        · exact ⟨hE, ⟨by omega, elsQ_els h2'⟩, h2', by omega, by omega⟩
  · rw [if_neg hE] at h; exact absurd h hE
/-- y and a combination -/
theorem cos_cmb (hE : codeE P M mod m L = 0) {y v : List Int} (hy : Vc (tblOf P M.toNat mod).El m y) (hv : ∀ k, k < L.length → (tblOf P M.toNat mod).El (nth v k)) :
    Cos (tblOf P M.toNat mod).ops (tblOf P M.toNat mod).El m L y (addRow (tblOf P M.toNat mod).ops y 1 (cmbTo (tblOf P M.toNat mod).ops m v L L.length)) := by
  obtain ⟨N', e, hm1, hm64, F, hR⟩ := codeE_fld hE
  obtain rfl : m = N' := by omega
  obtain ⟨c1, c2⟩ := cmb_rs F hR hv L.length (Nat.le_refl _)
  have hl : (cmbTo (tblOf P M.toNat mod).ops m v L L.length).length = y.length := by rw [c1.1, hy.1]
  refine ⟨⟨by rw [addRow_length _ _ _ _ hl]; exact hy.1, addRow_el F.cl hy.2 c1.2 F.one⟩, _, c2, fun x hx => c1.at hx, fun x hx => ?_⟩
  rw [nth_addRow _ _ _ _ _ hl (by rw [hy.1]; exact hx)]
  split
  · rename_i h0
    rw [h0, F.add_zero _ (hy.at hx)]
  · rw [F.one_mul _ (c1.at hx)]
theorem cos_law {y : List Int} {W : Int} {ts : List (List Int)} (h : chkCE P M mod m L y W ts = 0) {v : List Int} (hv : ∀ k, k < L.length → (tblOf P M.toNat mod).El (nth v k)) :
    W < (wtL (addRow (tblOf P M.toNat mod).ops y 1 (cmbTo (tblOf P M.toNat mod).ops m v L L.length)) : Int) := by
  unfold chkCE at h
  by_cases h0 : cosE P M mod m L y W = 0
  · rw [if_pos h0, Int.toNat_natCast] at h
    obtain ⟨hE, hy, _, hW0, hWm⟩ := cosE_zero h0
    obtain ⟨N', e, hm1, hm64, F, hR⟩ := codeE_fld hE
    obtain rfl : m = N' := by omega
    have h1 := prov_coset F hR (C := ⟨0, W.toNat, true, y⟩) rfl hy h (cos_cmb hE hy hv)
    have h2 : W.toNat < wtL (addRow (tblOf P M.toNat mod).ops y 1 (cmbTo (tblOf P M.toNat mod).ops m v L L.length)) := h1
    omega
  · rw [if_neg h0] at h; exact absurd h h0
end
end

/- The walk of codewrightlaw48.alive. -/
section
open Go.RowKit
end

/- The arguments, opened: numbers, lists, lists of lists, codes. -/
section
open Go.ChangeShapes Go.WideShapes Go.ChangeAt Go.RowKit

theorem Tryz.own : ownKnob Tryz.prog.godebug = none := by kernel_rfl
theorem Tryz.laid : laidOutB Tryz.prog = true := by kernel_rfl

section
variable {H : Type} {enc : TypeId × Value → H} {W : World} {held : Bool} {fuel : Nat} {cs : List Value} {x : DataW H × List MemPlace}

theorem add_cell {a : Addr} {v : Value} {i : Nat} (h : W.cell? (a.add i) = some v) : W.cell? ⟨a.block, a.off + i, none⟩ = some v := by
  have hs := World.cell?_spot h
  obtain ⟨b, o, s⟩ := a
  by_cases h0 : i = 0
  · subst h0
    simp only [Addr.add, if_true] at hs h
    subst hs
    exact h
  · simpa [Addr.add, h0] using h
theorem plain_of {a : Addr} {v : Value} (h : W.cell? (a.add 0) = some v) : a = ⟨a.block, a.off, none⟩ := by
  have hs := World.cell?_spot h
  obtain ⟨b, o, s⟩ := a
  simp only [Addr.add, if_true] at hs
  subst hs
  rfl
theorem nth_take_getD (l : List Int) (n i : Nat) (h : i < n) : nth (l.take n) i = l.getD i 0 := by
  unfold nth
  simp only [List.getD_eq_getElem?_getD, List.getElem?_take]
  rw [if_pos h]

theorem opened_ints (h : DataW.trod enc Tryz.prog W 0 (fun _ => true) held fuel 22 cs = some x) : ∃ a n c l, cs = [.slice a n c] ∧ Ints W a n l := by
  rcases open_ints Tryz.underlying22 Tryz.underlying3 (by kernel_rfl) h with ⟨hcs, _⟩ | ⟨a, len, cap, zs, hcs, _, hl, hm, hz, _, hcell, _⟩
  · exact ⟨none, 0, 0, [], hcs, Ints.nil _ _⟩
  · simp only [if_true] at hz
    refine ⟨some a, len, cap, zs.take len, hcs, ⟨by simp; omega, fun h0 => ?_, by omega, fun i hi => ?_⟩⟩
    · exact congrArg some (plain_of (hcell 0 (by omega)))
    · rw [nth_take_getD _ _ _ hi]
      exact add_cell (hcell i (by omega))
theorem opened_mat (h : DataW.trod enc Tryz.prog W 0 (fun _ => true) held fuel 25 cs = some x) : ∃ a n c L, cs = [.slice a n c] ∧ Mat W a n L := by
  rcases Go.Deep.open_int_rows Tryz.underlying25 Tryz.underlying22 Tryz.underlying3 (by kernel_rfl) (by kernel_rfl) h with ⟨hcs, _⟩ | ⟨a, len, cap, A, Ln, C, Z, hcs, _, hl, hm, _, hrows⟩
  · exact ⟨none, 0, 0, [], hcs, ⟨rfl, fun h0 => by omega, by unfold maxLen; omega, fun i hi => by omega⟩⟩
  · refine ⟨some a, len, cap, (List.range len).map (fun r => (Z r).take (Ln r)), hcs, ⟨by simp, fun h0 => congrArg some (plain_of (hrows 0 (by omega)).1), by omega, fun r hr => ?_⟩⟩
    obtain ⟨h1, h2, h3, h4, _, h5, h6⟩ := hrows r (by omega)
    refine ⟨A r, Ln r, C r, add_cell h1, ?_⟩
    have e : nthR ((List.range len).map (fun r => (Z r).take (Ln r))) r = (Z r).take (Ln r) := by
      unfold nthR
      simp [List.getD_eq_getElem?_getD, List.getElem?_map, List.getElem?_range hr]
    rw [e]
    match hA : A r, h5, h6 with
    | none, h5, _ =>
      have h0 : Ln r = 0 := by have := h5 rfl; omega
      rw [h0]
      exact Ints.nil _ _
    | some b, _, h6 =>
      obtain ⟨_, h7⟩ := h6 b rfl
      exact ⟨by simp; omega, fun h0 => congrArg some (plain_of (h7 0 (by omega))), by omega, fun i hi => by
        rw [nth_take_getD _ _ _ hi]
        exact add_cell (h7 i (by omega))⟩
end

section
variable {H : Type} {enc : TypeId × Value → H} {W : World} {held : Bool} {b0 : Nat} {v : Value} {d : DataW H} {p : List MemPlace}

set_option maxRecDepth 100000 in
theorem arg_code (hv : Value.okWide Tryz.prog W .any b0 27 v) (h : DataW.Trod enc Tryz.prog W 0 (fun _ => true) held 27 v d p) :
    ∃ (P M : Int) (am : Option Addr) (mn cm : Nat) (mod : List Int) (N : Int) (a : Option Addr) (n c : Nat) (L : List (List Int)), v = .agg #[.int .i64 P, .int .i64 M, .slice am mn cm, .int .i64 N, .slice a n c] ∧ Ints W am mn mod ∧ Mat W a n L := by
  obtain ⟨cs, rfl, hsz⟩ := okWide_struct Tryz.underlying27 hv
  rw [show Tryz.prog.cellsOf 27 = 5 by kernel_rfl] at hsz
  obtain ⟨l⟩ := cs
  match l, hsz with
  | [v0, v1, v2, v3, v4], _ =>
  obtain ⟨fuel, hf⟩ := h
  obtain ⟨xs, n0, _, _, _, hlen, hfs⟩ := DataW.trod_struct Tryz.underlying27 hf
  obtain ⟨y0, y1, y2, rfl⟩ : ∃ y0 y1 y2, xs = [y0, y1, y2] := by
    match xs, hlen with
    | [y0, y1, y2], _ => exact ⟨y0, y1, y2, rfl⟩
  have k24 : Tryz.prog.cellsOf 24 = 3 := by kernel_rfl
  have k3 : Tryz.prog.cellsOf 3 = 1 := by kernel_rfl
  have k22 : Tryz.prog.cellsOf 22 = 1 := by kernel_rfl
  have k25 : Tryz.prog.cellsOf 25 = 1 := by kernel_rfl
  have g0 : DataW.trod enc Tryz.prog W 0 (fun _ => true) held n0 24 [v0, v1, v2] = some y0 := by simpa [Value.cells, k24] using hfs 0 _ rfl
  have g1 : DataW.trod enc Tryz.prog W 0 (fun _ => true) held n0 3 [v3] = some y1 := by simpa [Value.cells, k3] using hfs 1 _ rfl
  have g2 : DataW.trod enc Tryz.prog W 0 (fun _ => true) held n0 25 [v4] = some y2 := by simpa [Value.cells, k25] using hfs 2 _ rfl
  obtain ⟨xs', n1, _, _, _, hlen', hfs'⟩ := DataW.trod_struct Tryz.underlying24 g0
  obtain ⟨z0, z1, z2, rfl⟩ : ∃ z0 z1 z2, xs' = [z0, z1, z2] := by
    match xs', hlen' with
    | [z0, z1, z2], _ => exact ⟨z0, z1, z2, rfl⟩
  have q0 : DataW.trod enc Tryz.prog W 0 (fun _ => true) held n1 3 [v0] = some z0 := by simpa [k3] using hfs' 0 _ rfl
  have q1 : DataW.trod enc Tryz.prog W 0 (fun _ => true) held n1 3 [v1] = some z1 := by simpa [k3] using hfs' 1 _ rfl
  have q2 : DataW.trod enc Tryz.prog W 0 (fun _ => true) held n1 22 [v2] = some z2 := by simpa [k22] using hfs' 2 _ rfl
  obtain ⟨P, eP, _, _⟩ := DataW.trod_int Tryz.underlying3 q0
  obtain ⟨M, eM, _, _⟩ := DataW.trod_int Tryz.underlying3 q1
  obtain ⟨N, eN, _, _⟩ := DataW.trod_int Tryz.underlying3 g1
  obtain ⟨am, mn, cm, mod, eI, hI⟩ := opened_ints q2
  obtain ⟨a, n, c, L, eL, hL⟩ := opened_mat g2
  simp at eP eM eN eI eL
  subst eP eM eN eI eL
  exact ⟨P, M, am, mn, cm, mod, N, a, n, c, L, rfl, hI, hL⟩
end
end

/- The arguments, opened: lists of numbers with their capacity. -/
section
open Go.ChangeShapes Go.WideShapes Go.ChangeAt Go.RowKit

section
variable {H : Type} {enc : TypeId × Value → H} {W : World} {held : Bool} {fuel : Nat} {cs : List Value} {x : DataW H × List MemPlace}
end

section
variable {H : Type} {enc : TypeId × Value → H} {W : World} {held : Bool} {b0 : Nat} {v : Value} {d : DataW H} {p : List MemPlace}
end
end

/- The arguments, opened: pairs of lists of numbers. -/
section
open Go.ChangeShapes Go.WideShapes Go.ChangeAt Go.RowKit

section
variable {H : Type} {enc : TypeId × Value → H} {W : World} {held : Bool} {b0 : Nat} {v : Value} {d : DataW H} {p : List MemPlace}
theorem okWide_arr {P : Program} {w : World} {r : Reach} {base : Nat} {t : TypeId} {v : Value} {n : Nat} {e : TypeId} (ht : P.underlying t = some (.array n e)) (h : Value.okWide P w r base t v) : ∃ cs, v = .agg cs ∧ cs.size = P.cellsOf t := by
  simp only [Value.okWide, ht] at h
  obtain ⟨cs, h1, h2, _⟩ := h
  exact ⟨cs, h1, h2⟩
set_option maxRecDepth 100000 in
theorem arg_two (hv : Value.okWide Tryz.prog W .any b0 69 v) (h : DataW.Trod enc Tryz.prog W 0 (fun _ => true) held 69 v d p) :
    ∃ (a : Option Addr) (n c : Nat) (l : List Int) (a' : Option Addr) (n' c' : Nat) (l' : List Int), v = .agg #[.slice a n c, .slice a' n' c'] ∧ Ints W a n l ∧ Ints W a' n' l' := by
  obtain ⟨cs, rfl, hsz⟩ := okWide_arr Tryz.underlying69 hv
  rw [show Tryz.prog.cellsOf 69 = 2 by kernel_rfl] at hsz
  obtain ⟨l⟩ := cs
  match l, hsz with
  | [v0, v1], _ =>
  obtain ⟨fuel, hf⟩ := h
  obtain ⟨xs, n0, _, _, _, hlen, hfs⟩ := DataW.trod_array Tryz.underlying69 hf
  obtain ⟨y0, y1, rfl⟩ : ∃ y0 y1, xs = [y0, y1] := by
    match xs, hlen with
    | [y0, y1], _ => exact ⟨y0, y1, rfl⟩
  have k22 : Tryz.prog.cellsOf 22 = 1 := by kernel_rfl
  have g0 : DataW.trod enc Tryz.prog W 0 (fun _ => true) held n0 22 [v0] = some y0 := by simpa [Value.cells, k22] using hfs 0 (by omega)
  have g1 : DataW.trod enc Tryz.prog W 0 (fun _ => true) held n0 22 [v1] = some y1 := by simpa [Value.cells, k22] using hfs 1 (by omega)
  obtain ⟨a, n, c, l, e0, h0⟩ := opened_ints g0
  obtain ⟨a', n', c', l', e1, h1⟩ := opened_ints g1
  simp at e0 e1
  subst e0 e1
  exact ⟨a, n, c, l, a', n', c', l', rfl, h0, h1⟩
end
end

/- The arguments, opened: pairs of numbers, exclusions. -/
section
open Go.ChangeShapes Go.WideShapes Go.ChangeAt Go.RowKit

section
variable {H : Type} {enc : TypeId × Value → H} {W : World} {held : Bool} {fuel : Nat} {cs : List Value} {x : DataW H × List MemPlace}
theorem opened_matC (h : DataW.trod enc Tryz.prog W 0 (fun _ => true) held fuel 25 cs = some x) : ∃ a n c L, cs = [.slice a n c] ∧ Mat W a n L ∧ n ≤ c := by
  obtain ⟨a, n, c, L, e, hL⟩ := opened_mat h
  refine ⟨a, n, c, L, e, hL, ?_⟩
  rcases Go.Deep.open_int_rows Tryz.underlying25 Tryz.underlying22 Tryz.underlying3 (by kernel_rfl) (by kernel_rfl) h with ⟨hcs, _⟩ | ⟨a', len, cap, _, _, _, _, hcs, _, hl, _⟩
  · rw [hcs] at e
    simp at e
    omega
  · rw [hcs] at e
    simp at e
    omega
end

section
variable {H : Type} {enc : TypeId × Value → H} {W : World} {held : Bool} {b0 : Nat} {v : Value} {d : DataW H} {p : List MemPlace}
end
end

/- The arguments, opened: a number with a tree; pairs of numbers below 2 to the 32nd. -/
section
open Go.ChangeShapes Go.WideShapes Go.ChangeAt Go.RowKit

section
variable {H : Type} {enc : TypeId × Value → H} {W : World} {held : Bool} {b0 : Nat} {v : Value} {d : DataW H} {p : List MemPlace}
set_option maxRecDepth 100000 in
theorem arg_proof (hv : Value.okWide Tryz.prog W .any b0 46 v) (h : DataW.Trod enc Tryz.prog W 0 (fun _ => true) held 46 v d p) :
    ∃ (z : Int) (ax : Option Addr) (nx cx : Nat) (ts : List (List Int)), v = .agg #[.int .i64 z, .slice ax nx cx] ∧ Mat W ax nx ts ∧ nx ≤ cx := by
  obtain ⟨cs, rfl, hsz⟩ := okWide_struct Tryz.underlying46 hv
  rw [show Tryz.prog.cellsOf 46 = 2 by kernel_rfl] at hsz
  obtain ⟨l⟩ := cs
  match l, hsz with
  | [v0, v1], _ =>
  obtain ⟨fuel, hf⟩ := h
  obtain ⟨xs, n0, _, _, _, hlen, hfs⟩ := DataW.trod_struct Tryz.underlying46 hf
  obtain ⟨y0, y1, rfl⟩ : ∃ y0 y1, xs = [y0, y1] := by
    match xs, hlen with
    | [y0, y1], _ => exact ⟨y0, y1, rfl⟩
  have k3 : Tryz.prog.cellsOf 3 = 1 := by kernel_rfl
  have k30 : Tryz.prog.cellsOf 30 = 1 := by kernel_rfl
  have k25 : Tryz.prog.cellsOf 25 = 1 := by kernel_rfl
  have g0 : DataW.trod enc Tryz.prog W 0 (fun _ => true) held n0 3 [v0] = some y0 := by simpa [Value.cells, k3] using hfs 0 _ rfl
  have g1 : DataW.trod enc Tryz.prog W 0 (fun _ => true) held n0 30 [v1] = some y1 := by simpa [Value.cells, k30] using hfs 1 _ rfl
  obtain ⟨xs', n1, _, _, _, hlen', hfs'⟩ := DataW.trod_struct Tryz.underlying30 g1
  obtain ⟨y2, rfl⟩ : ∃ y2, xs' = [y2] := by
    match xs', hlen' with
    | [y2], _ => exact ⟨y2, rfl⟩
  have g2 : DataW.trod enc Tryz.prog W 0 (fun _ => true) held n1 25 [v1] = some y2 := by simpa [Value.cells, k25] using hfs' 0 _ rfl
  obtain ⟨z, e, _, _⟩ := DataW.trod_int Tryz.underlying3 g0
  obtain ⟨ax, nx, cx, ts, e1, hM, hc⟩ := opened_matC g2
  simp at e e1
  subst e e1
  exact ⟨z, ax, nx, cx, ts, rfl, hM, hc⟩
end
end

end Go.Proofs.YtapjcccpokhhhaaGreat
