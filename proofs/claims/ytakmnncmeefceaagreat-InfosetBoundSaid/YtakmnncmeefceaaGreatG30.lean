/- The arguments, opened: pairs of lists of numbers. -/
import Derived.Test.YtakmnncmeefceaaGreatG27
import Derived.Test.YtakmnncmeefceaaGreatG17
import Derived.WalkKit
import Derived.ProofKit
import Derived.OpenShut
import Derived.ShutString
import Derived.ChangeOld
import Derived.Below
import Derived.Deep.Matrix
namespace Go.Proofs.YtakmnncmeefceaaGreat
set_option linter.unusedVariables false
set_option linter.unusedSimpArgs false
set_option linter.unusedSectionVars false

/- The walk of codewrightref10.Rising. -/
section
open Go.RowKit

set_option maxRecDepth 100000 in
set_option maxHeartbeats 3200000 in
theorem rising_any (N : Int) (a : Option Addr) (n c : Nat) (l : List Int) (w : World) (hi : Ints w a n l) :
    Calls Tryz.prog 50 #[.slice a n c, .int .i64 N] w (QuietBool w (okSet N l)) := by
  have Hlen := Lib.hid hi.len
  have hpl := hi.pl
  have hmax := hi.max
  unfold maxLen at hmax
  go_enter Tryz.func50, Tryz.ntmps50
  go_wp2_with fail
  go_loopw [5] (fun iv wr => ∃ k : Nat, k ≤ n ∧ iv = .int .i64 k ∧ Hid (okTo N l k = true) ∧ Drawn w wr) (fun iv _ => n - (intOf iv).toNat)
  case atStart => exact ⟨0, Nat.zero_le _, rfl, by show _ = _; simp [okTo], Drawn.refl _⟩
  case round =>
    obtain ⟨j, hj, rfl, hok, hd⟩ := hrel
    have hir := hi.drawn hd
    by_cases hlt2 : j < n
    · have cj := hir.cell j hlt2
      have hjj : (j : Int) < n := by omega
      have hbad : okAt N l j = false → okSet N l = false := fun hb => okTo_no (by rw [Hlen.out]; exact hlt2) hb
      have Hbad := Lib.hid hbad
      clear hbad
      by_cases h0 : 0 ≤ nth l j
      · have d1 : decide (nth l j < 0) = false := by simp; omega
        by_cases h1 : nth l j < N
        · have d2 : decide (N ≤ nth l j) = false := by simp; omega
          by_cases hj0 : j = 0
          · have Hgood : Hid (okAt N l j = true) := by show _ = _; unfold okAt; rw [decide_eq_true h0, decide_eq_true h1]; simp [hj0]
            have d3 : decide (0 < j) = false := by simp; omega
            clear hj0
            go_wp2_with fail
            go_quiet (fail)
            go_wp2
            go_roundw
            case rel => exact ⟨j + 1, by omega, by go_num, okTo_succ hok.out Hgood.out, hd.drewN _⟩
            case measure => simp [intOf] <;> omega
          · have cp := hir.cell (j - 1) (by omega)
            have e1 : ((j : Int) - 1).toNat = j - 1 := by omega
            have d3 : decide (0 < j) = true := by simp; omega
            have d4 : (0 : Int) ≤ (j : Int) - 1 := by omega
            have d5 : (1 : Int) ≤ (j : Int) := by omega
            have d6 : (j : Int) - 1 < n := by omega
            have kw : IntKind.i64.wrap ((j : Int) - 1) = (j : Int) - 1 := IntWalk.i64_in _ (by omega)
            by_cases h2 : nth l (j - 1) < nth l j
            · have Hgood : Hid (okAt N l j = true) := by show _ = _; unfold okAt; simp [h0, h1, h2]
              have h2' : decide (nth l j ≤ nth l (j - 1)) = false := by simp; omega
              clear hj0
              go_wp2_with fail
              go_quiet (fail)
              go_wp2
              go_roundw
              case rel => exact ⟨j + 1, by omega, by go_num, okTo_succ hok.out Hgood.out, hd.drewN _⟩
              case measure => simp [intOf] <;> omega
            · have Hb : Hid (okSet N l = false) := Hbad.out (by unfold okAt; simp [h2, hj0])
              have h2' : decide (nth l j ≤ nth l (j - 1)) = true := by simp; omega
              clear hj0
              go_wp2_with fail
              go_quiet (fail)
              go_wp2
              go_ret
              exact ⟨by rw [Hb.out]; rfl, hd.drewN _⟩
        · have Hb : Hid (okSet N l = false) := Hbad.out (by unfold okAt; simp [h1])
          have d2 : decide (N ≤ nth l j) = true := by simp; omega
          go_wp2_with fail
          go_quiet (fail)
          go_wp2
          go_ret
          exact ⟨by rw [Hb.out]; rfl, hd.drewN _⟩
      · have Hb : Hid (okSet N l = false) := Hbad.out (by unfold okAt; simp [h0])
        have d1 : decide (nth l j < 0) = true := by simp; omega
        go_wp2_with fail
        go_quiet (fail)
        go_wp2
        go_ret
        exact ⟨by rw [Hb.out]; rfl, hd.drewN _⟩
    · obtain rfl : j = n := by omega
      have Hg : Hid (okSet N l = true) := by show _ = _; rw [okSet, Hlen.out]; exact hok.out
      go_wp2_with fail
      go_ret
      exact ⟨by rw [Hg.out]; rfl, hd⟩
end

/- The walks of codewrightref09.Few, codewrightref12.Few, codewrightlaw25.few: they end with some answer. -/
section
open Go.RowKit

def SomeBool (w : World) (e : Ending) (w' : World) : Prop := ∃ z, e = .returned (.bool z) ∧ Below w.heap.size w w'

set_option maxRecDepth 100000 in
set_option maxHeartbeats 3200000 in
theorem rFew9_any (a : Option Addr) (n c K : Nat) (L : List (List Int)) (w : World) (hi : Mat w a n L) (hK : K ≤ 100000) :
    Calls Tryz.prog 117 #[.agg #[.int .i64 0, .slice a n c], .int .i64 K] w (SomeBool w) := by
  have Hlen := Lib.hid hi.len
  have hpl := hi.pl
  have hmax := hi.max
  unfold maxLen at hmax
  go_enter Tryz.func117, Tryz.ntmps117
  go_upto_region 1 with fail
  obtain ⟨W, hW⟩ : ∃ W : World, W = w.alloc (.cells #[.int .i64 0, .slice a n c] 62) := ⟨_, rfl⟩
  rw [← hW]
  have hbW : Below w.heap.size w W := by rw [hW]; exact below1 _ _
  have x0 : Box W w.heap.size [.int .i64 0, .slice a n c] := by rw [hW]; exact Box.new _ _ _ rfl
  have c0 := x0.cell 0 rfl
  have c1 := x0.cell 1 rfl
  have hiW := hi.keep hbW
  have HbW := Lib.hid hbW
  clear hW x0 hi hbW
  by_cases h1 : K < n
  · have d1 : decide (K < n) = true := by simpa using h1
    have d1' : decide ((K : Int) < n) = true := by simp; omega
    go_wp2_with fail
    go_ret
    exact ⟨_, rfl, HbW.out⟩
  · have d1 : decide (K < n) = false := by simpa using h1
    have d1' : decide ((K : Int) < n) = false := by simp; omega
    go_wp2_with fail
    go_loopw [5, 6] (fun lv iv wr => ∃ k m : Nat, k ≤ n ∧ m ≤ K ∧ lv = .int .i64 m ∧ iv = .int .i64 k ∧ wr = W) (fun _ iv _ => n - (intOf iv).toNat)
    case atStart => exact ⟨0, K - n, Nat.zero_le _, by omega, by go_num, rfl, rfl⟩
    case round =>
      obtain ⟨k, m, hk, hm, rfl, rfl, rfl⟩ := hrel
      by_cases hlt : k < n
      · obtain ⟨ra, rn, rc, hcell, hrow⟩ := hiW.cell k hlt
        by_cases h2 : m < rn
        · have d2 : decide (m < rn) = true := by simpa using h2
          have d2' : decide ((m : Int) < rn) = true := by simp; omega
          go_wp2_with fail
          go_ret
          exact ⟨_, rfl, HbW.out⟩
        · have d2 : decide (m < rn) = false := by simpa using h2
          have d2' : decide ((m : Int) < rn) = false := by simp; omega
          have d3 : (rn : Int) ≤ m := by omega
          go_wp2_with fail
          go_roundw
          case rel => exact ⟨k + 1, m - rn, by omega, by omega, by go_num, by go_num, by first | rfl | trivial⟩
          case measure => simp [intOf] <;> omega
      · obtain rfl : k = n := by omega
        go_wp2_with fail
        go_ret
        exact ⟨_, rfl, HbW.out⟩

set_option maxRecDepth 100000 in
theorem rFew12_any (P M : Int) (am : Option Addr) (mn cm : Nat) (N : Int) (a : Option Addr) (n c K : Nat) (L : List (List Int)) (w : World) (hi : Mat w a n L) (hK : K ≤ 100000) :
    Calls Tryz.prog 71 #[.agg #[.int .i64 P, .int .i64 M, .slice am mn cm, .int .i64 N, .slice a n c], .int .i64 K] w (SomeBool w) := by
  have H := Lib.hid (fun V hV => rFew9_any a n c K L V (hi.keep hV) hK : ∀ V, Below w.heap.size w V → _)
  clear hi
  go_enter Tryz.func71, Tryz.ntmps71
  go_wp2_with fail
  have hbW := below1 w (.cells #[.int .i64 P, .int .i64 M, .slice am mn cm, .int .i64 N, .slice a n c] 27)
  refine (H.out _ hbW).mono ?_
  rintro e w1 ⟨z, rfl, hb1⟩
  have hF := Below.next hbW hb1
  go_wp2_with fail
  go_ret
  exact ⟨z, rfl, hF⟩

set_option maxRecDepth 100000 in
set_option maxHeartbeats 3200000 in
theorem few25_any (P M : Int) (am : Option Addr) (mn cm : Nat) (N : Int) (a : Option Addr) (n c : Nat) (L : List (List Int)) (w : World) (hi : Mat w a n L) :
    Calls Tryz.prog 25 #[.agg #[.int .i64 P, .int .i64 M, .slice am mn cm, .int .i64 N, .slice a n c]] w (SomeBool w) := by
  have H : Hid (∀ V, Below w.heap.size w V → Calls Tryz.prog 71 #[.agg #[.int .i64 P, .int .i64 M, .slice am mn cm, .int .i64 N, .slice a n c], .int .i64 120] V (SomeBool V)) := fun V hV => rFew12_any P M am mn cm N a n c 120 L V (hi.keep hV) (by omega)
  clear hi
  go_enter Tryz.func25, Tryz.ntmps25
  go_upto_region 1 with fail
  obtain ⟨W, hW⟩ : ∃ W : World, W = w.alloc (.cells #[.int .i64 P, .int .i64 M, .slice am mn cm, .int .i64 N, .slice a n c] 27) := ⟨_, rfl⟩
  rw [← hW]
  have hbW : Below w.heap.size w W := by rw [hW]; exact below1 _ _
  have x0 : Box W w.heap.size [.int .i64 P, .int .i64 M, .slice am mn cm, .int .i64 N, .slice a n c] := by rw [hW]; exact Box.new _ _ _ rfl
  have HX := Lib.hid x0
  have c0 := x0.cell 0 rfl
  have c1 := x0.cell 1 rfl
  have c2 := x0.cell 2 rfl
  have c3 := x0.cell 3 rfl
  have c4 := x0.cell 4 rfl
  clear hW x0
  have Hf := Lib.hid (H.out W hbW)
  clear H
  by_cases h1 : N ≤ 16
  · have d1 : decide (N ≤ 16) = true := by simpa using h1
    clear h1
    go_wp2_with (go_at_call 71; refine Hf.out.mono ?_; rintro e w1 ⟨z, rfl, hb1⟩; have q1 := (HX.out.keep hb1).cell 3 rfl; have hF := Below.next hbW hb1; cases z)
    all_goals (go_wp2_with fail; go_ret; exact ⟨_, rfl, hF⟩)
  · have d1 : decide (N ≤ 16) = false := by simpa using h1
    clear h1
    by_cases h2 : 64 < N
    · have d2 : decide (64 < N) = true := by simpa using h2
      clear h2
      go_wp2_with (go_at_call 71; refine Hf.out.mono ?_; rintro e w1 ⟨z, rfl, hb1⟩; have q1 := (HX.out.keep hb1).cell 3 rfl; have hF := Below.next hbW hb1; cases z)
      all_goals (go_wp2_with fail; go_ret; exact ⟨_, rfl, hF⟩)
    · have d2 : decide (64 < N) = false := by simpa using h2
      clear h2
      go_wp2_with (go_at_call 71; refine Hf.out.mono ?_; rintro e w1 ⟨z, rfl, hb1⟩; have q1 := (HX.out.keep hb1).cell 3 rfl; have hF := Below.next hbW hb1; cases z)
      all_goals (go_wp2_with fail; go_ret; exact ⟨_, rfl, hF⟩)
end

/- The walk of codewrightlaw48.alive. -/
section
open Go.RowKit

theorem alive_code : codeE 2 1 [] 2 [[1, 1]] = 0 := by decide +kernel
theorem alive_dim : dimS (tblOf 2 1 []).ops [[1, 1]] 2 (maskS [0]) = 1 := by decide +kernel
theorem alive_set : okSet 2 [0] = true := by decide +kernel

set_option maxRecDepth 100000 in
set_option maxHeartbeats 1600000 in
theorem alive_any (w : World) : Calls Tryz.prog 16 #[] w fun e w' => e = .returned (.bool true) ∧ Below w.heap.size w w' := by
  go_enter Tryz.func16, Tryz.ntmps16
  go_wp2_with fail
  obtain ⟨W1, h1⟩ : ∃ W : World, W = w.alloc (Obj.cells #[Value.int IntKind.i64 1, Value.int IntKind.i64 1] 3) := ⟨_, rfl⟩
  obtain ⟨W2, h2⟩ : ∃ W : World, W = W1.alloc (Obj.cells #[Value.slice (some { block := w.heap.size, off := 0 }) 2 2] 22) := ⟨_, rfl⟩
  obtain ⟨W3, h3⟩ : ∃ W : World, W = W2.alloc (Obj.cells #[Value.int IntKind.i64 0] 3) := ⟨_, rfl⟩
  rw [← h1, ← h2, ← h3]
  have s1 : W1.heap.size = w.heap.size + 1 := by rw [h1]; simp
  have s2 : W2.heap.size = w.heap.size + 1 + 1 := by rw [h2]; simp [s1]
  have b1 : Below w.heap.size w W1 := by rw [h1]; exact below1 _ _
  have b2 : Below W1.heap.size W1 W2 := by rw [h2]; exact below1 _ _
  have b3 : Below W2.heap.size W2 W3 := by rw [h3]; exact below1 _ _
  have x1 : Box W1 w.heap.size [.int .i64 1, .int .i64 1] := by rw [h1]; exact Box.new _ _ _ rfl
  have x2 : Box W2 (w.heap.size + 1) [.slice (some { block := w.heap.size, off := 0 }) 2 2] := by rw [h2]; exact Box.new _ _ _ s1.symm
  have x3 : Box W3 (w.heap.size + 1 + 1) [.int .i64 0] := by rw [h3]; exact Box.new _ _ _ s2.symm
  have y1 := (x1.keep b2).keep b3
  have y2 := x2.keep b3
  clear h1 h2 h3 s1 s2 x1 x2
  have b13 := Below.next (Below.next b1 b2) b3
  have hI : Ints W3 (some { block := w.heap.size, off := 0 }) 2 [1, 1] := ⟨rfl, fun _ => rfl, by unfold maxLen; omega, fun i hi => by
    match i, hi with
    | 0, _ => exact y1.cell 0 rfl
    | 1, _ => exact y1.cell 1 rfl⟩
  have hM : Mat W3 (some { block := w.heap.size + 1, off := 0 }) 1 [[1, 1]] := ⟨rfl, fun _ => rfl, by unfold maxLen; omega, fun i hi => by
    match i, hi with
    | 0, _ => exact ⟨_, _, _, y2.cell 0 rfl, hI⟩⟩
  have hQ : Ints W3 (some { block := w.heap.size + 1 + 1, off := 0 }) 1 [0] := ⟨rfl, fun _ => rfl, by unfold maxLen; omega, fun i hi => by
    match i, hi with
    | 0, _ => exact x3.cell 0 rfl⟩
  refine (ordDimension_any 2 1 none 0 0 [] 2 _ 1 1 [[1, 1]] _ 1 1 [0] W3 (Ints.nil _ _) hM hQ).mono ?_
  rintro e w4 ⟨hb4, ⟨hE, _⟩ | ⟨_, hE, _⟩ | ⟨_, _, rfl⟩⟩
  · exact absurd alive_code hE
  · rw [alive_set] at hE; exact absurd hE (by decide)
  · have hF := Below.next b13 hb4
    have hd := alive_dim
    rw [show (1 : Int).toNat = 1 from rfl, show (2 : Int).toNat = 2 from rfl, hd]
    clear hI hM hQ x3 y1 y2 b1 b2 b3 b13 hd
    go_wp2_with fail
    go_ret
    exact ⟨rfl, hF⟩
end

/- The arguments, opened: numbers, lists, lists of lists, codes. -/
section
open Go.ChangeShapes Go.WideShapes Go.ChangeAt Go.RowKit

theorem Tryz.own : ownKnob Tryz.prog.godebug = none := by kernel_rfl
theorem Tryz.laid : laidOutB Tryz.prog = true := by kernel_rfl

section
variable {H : Type} {enc : TypeId × Value → H} {W : World} {held : Bool} {fuel : Nat} {cs : List Value} {x : DataW H × List MemPlace}

theorem add_cell {a : Addr} {v : Value} {i : Nat} (h : W.cell? (a.add i) = some v) : W.cell? ⟨a.block, a.off + i, none⟩ = some v := by
  have hs := World.cell?_spot h
  obtain ⟨b, o, s⟩ := a
  by_cases h0 : i = 0
  · subst h0
    simp only [Addr.add, if_true] at hs h
    subst hs
    exact h
  · simpa [Addr.add, h0] using h
theorem plain_of {a : Addr} {v : Value} (h : W.cell? (a.add 0) = some v) : a = ⟨a.block, a.off, none⟩ := by
  have hs := World.cell?_spot h
  obtain ⟨b, o, s⟩ := a
  simp only [Addr.add, if_true] at hs
  subst hs
  rfl
theorem nth_take_getD (l : List Int) (n i : Nat) (h : i < n) : nth (l.take n) i = l.getD i 0 := by
  unfold nth
  simp only [List.getD_eq_getElem?_getD, List.getElem?_take]
  rw [if_pos h]

theorem opened_ints (h : DataW.trod enc Tryz.prog W 0 (fun _ => true) held fuel 22 cs = some x) : ∃ a n c l, cs = [.slice a n c] ∧ Ints W a n l := by
  rcases open_ints Tryz.underlying22 Tryz.underlying3 (by kernel_rfl) h with ⟨hcs, _⟩ | ⟨a, len, cap, zs, hcs, _, hl, hm, hz, _, hcell, _⟩
  · exact ⟨none, 0, 0, [], hcs, Ints.nil _ _⟩
  · simp only [if_true] at hz
    refine ⟨some a, len, cap, zs.take len, hcs, ⟨by simp; omega, fun h0 => ?_, by omega, fun i hi => ?_⟩⟩
    · exact congrArg some (plain_of (hcell 0 (by omega)))
    · rw [nth_take_getD _ _ _ hi]
      exact add_cell (hcell i (by omega))
theorem opened_mat (h : DataW.trod enc Tryz.prog W 0 (fun _ => true) held fuel 25 cs = some x) : ∃ a n c L, cs = [.slice a n c] ∧ Mat W a n L := by
  rcases Go.Deep.open_int_rows Tryz.underlying25 Tryz.underlying22 Tryz.underlying3 (by kernel_rfl) (by kernel_rfl) h with ⟨hcs, _⟩ | ⟨a, len, cap, A, Ln, C, Z, hcs, _, hl, hm, _, hrows⟩
  · exact ⟨none, 0, 0, [], hcs, ⟨rfl, fun h0 => by omega, by unfold maxLen; omega, fun i hi => by omega⟩⟩
  · refine ⟨some a, len, cap, (List.range len).map (fun r => (Z r).take (Ln r)), hcs, ⟨by simp, fun h0 => congrArg some (plain_of (hrows 0 (by omega)).1), by omega, fun r hr => ?_⟩⟩
    obtain ⟨h1, h2, h3, h4, _, h5, h6⟩ := hrows r (by omega)
    refine ⟨A r, Ln r, C r, add_cell h1, ?_⟩
    have e : nthR ((List.range len).map (fun r => (Z r).take (Ln r))) r = (Z r).take (Ln r) := by
      unfold nthR
      simp [List.getD_eq_getElem?_getD, List.getElem?_map, List.getElem?_range hr]
    rw [e]
    match hA : A r, h5, h6 with
    | none, h5, _ =>
      have h0 : Ln r = 0 := by have := h5 rfl; omega
      rw [h0]
      exact Ints.nil _ _
    | some b, _, h6 =>
      obtain ⟨_, h7⟩ := h6 b rfl
      exact ⟨by simp; omega, fun h0 => congrArg some (plain_of (h7 0 (by omega))), by omega, fun i hi => by
        rw [nth_take_getD _ _ _ hi]
        exact add_cell (h7 i (by omega))⟩
end

section
variable {H : Type} {enc : TypeId × Value → H} {W : World} {held : Bool} {b0 : Nat} {v : Value} {d : DataW H} {p : List MemPlace}

set_option maxRecDepth 100000 in
theorem arg_ints (hv : Value.okWide Tryz.prog W .any b0 22 v) (h : DataW.Trod enc Tryz.prog W 0 (fun _ => true) held 22 v d p) : ∃ a n c l, v = .slice a n c ∧ Ints W a n l := by
  obtain ⟨a, n, c, rfl⟩ := okWide_slice Tryz.underlying22 hv
  obtain ⟨fuel, hf⟩ := h
  obtain ⟨a', n', c', l, e, hi⟩ := opened_ints hf
  simp [Value.cells] at e
  obtain ⟨rfl, rfl, rfl⟩ := e
  exact ⟨_, _, _, l, rfl, hi⟩
set_option maxRecDepth 100000 in
theorem arg_code (hv : Value.okWide Tryz.prog W .any b0 27 v) (h : DataW.Trod enc Tryz.prog W 0 (fun _ => true) held 27 v d p) :
    ∃ (P M : Int) (am : Option Addr) (mn cm : Nat) (mod : List Int) (N : Int) (a : Option Addr) (n c : Nat) (L : List (List Int)), v = .agg #[.int .i64 P, .int .i64 M, .slice am mn cm, .int .i64 N, .slice a n c] ∧ Ints W am mn mod ∧ Mat W a n L := by
  obtain ⟨cs, rfl, hsz⟩ := okWide_struct Tryz.underlying27 hv
  rw [show Tryz.prog.cellsOf 27 = 5 by kernel_rfl] at hsz
  obtain ⟨l⟩ := cs
  match l, hsz with
  | [v0, v1, v2, v3, v4], _ =>
  obtain ⟨fuel, hf⟩ := h
  obtain ⟨xs, n0, _, _, _, hlen, hfs⟩ := DataW.trod_struct Tryz.underlying27 hf
  obtain ⟨y0, y1, y2, rfl⟩ : ∃ y0 y1 y2, xs = [y0, y1, y2] := by
    match xs, hlen with
    | [y0, y1, y2], _ => exact ⟨y0, y1, y2, rfl⟩
  have k24 : Tryz.prog.cellsOf 24 = 3 := by kernel_rfl
  have k3 : Tryz.prog.cellsOf 3 = 1 := by kernel_rfl
  have k22 : Tryz.prog.cellsOf 22 = 1 := by kernel_rfl
  have k25 : Tryz.prog.cellsOf 25 = 1 := by kernel_rfl
  have g0 : DataW.trod enc Tryz.prog W 0 (fun _ => true) held n0 24 [v0, v1, v2] = some y0 := by simpa [Value.cells, k24] using hfs 0 _ rfl
  have g1 : DataW.trod enc Tryz.prog W 0 (fun _ => true) held n0 3 [v3] = some y1 := by simpa [Value.cells, k3] using hfs 1 _ rfl
  have g2 : DataW.trod enc Tryz.prog W 0 (fun _ => true) held n0 25 [v4] = some y2 := by simpa [Value.cells, k25] using hfs 2 _ rfl
  obtain ⟨xs', n1, _, _, _, hlen', hfs'⟩ := DataW.trod_struct Tryz.underlying24 g0
  obtain ⟨z0, z1, z2, rfl⟩ : ∃ z0 z1 z2, xs' = [z0, z1, z2] := by
    match xs', hlen' with
    | [z0, z1, z2], _ => exact ⟨z0, z1, z2, rfl⟩
  have q0 : DataW.trod enc Tryz.prog W 0 (fun _ => true) held n1 3 [v0] = some z0 := by simpa [k3] using hfs' 0 _ rfl
  have q1 : DataW.trod enc Tryz.prog W 0 (fun _ => true) held n1 3 [v1] = some z1 := by simpa [k3] using hfs' 1 _ rfl
  have q2 : DataW.trod enc Tryz.prog W 0 (fun _ => true) held n1 22 [v2] = some z2 := by simpa [k22] using hfs' 2 _ rfl
  obtain ⟨P, eP, _, _⟩ := DataW.trod_int Tryz.underlying3 q0
  obtain ⟨M, eM, _, _⟩ := DataW.trod_int Tryz.underlying3 q1
  obtain ⟨N, eN, _, _⟩ := DataW.trod_int Tryz.underlying3 g1
  obtain ⟨am, mn, cm, mod, eI, hI⟩ := opened_ints q2
  obtain ⟨a, n, c, L, eL, hL⟩ := opened_mat g2
  simp at eP eM eN eI eL
  subst eP eM eN eI eL
  exact ⟨P, M, am, mn, cm, mod, N, a, n, c, L, rfl, hI, hL⟩
end
end

/- The arguments, opened: lists of numbers with their capacity. -/
section
open Go.ChangeShapes Go.WideShapes Go.ChangeAt Go.RowKit

section
variable {H : Type} {enc : TypeId × Value → H} {W : World} {held : Bool} {fuel : Nat} {cs : List Value} {x : DataW H × List MemPlace}
theorem opened_intsC (h : DataW.trod enc Tryz.prog W 0 (fun _ => true) held fuel 22 cs = some x) : ∃ a n c l, cs = [.slice a n c] ∧ Ints W a n l ∧ n ≤ c := by
  rcases open_ints Tryz.underlying22 Tryz.underlying3 (by kernel_rfl) h with ⟨hcs, _⟩ | ⟨a, len, cap, zs, hcs, _, hl, hm, hz, _, hcell, _⟩
  · exact ⟨none, 0, 0, [], hcs, Ints.nil _ _, Nat.le_refl _⟩
  · simp only [if_true] at hz
    refine ⟨some a, len, cap, zs.take len, hcs, ⟨by simp; omega, fun h0 => ?_, by omega, fun i hi => ?_⟩, hl⟩
    · exact congrArg some (plain_of (hcell 0 (by omega)))
    · rw [nth_take_getD _ _ _ hi]
      exact add_cell (hcell i (by omega))
end

section
variable {H : Type} {enc : TypeId × Value → H} {W : World} {held : Bool} {b0 : Nat} {v : Value} {d : DataW H} {p : List MemPlace}
set_option maxRecDepth 100000 in
theorem arg_intsC (hv : Value.okWide Tryz.prog W .any b0 22 v) (h : DataW.Trod enc Tryz.prog W 0 (fun _ => true) held 22 v d p) : ∃ a n c l, v = .slice a n c ∧ Ints W a n l ∧ n ≤ c := by
  obtain ⟨a, n, c, rfl⟩ := okWide_slice Tryz.underlying22 hv
  obtain ⟨fuel, hf⟩ := h
  obtain ⟨a', n', c', l, e, hi⟩ := opened_intsC hf
  simp [Value.cells] at e
  obtain ⟨rfl, rfl, rfl⟩ := e
  exact ⟨_, _, _, l, rfl, hi⟩
end
end

/- The arguments, opened: pairs of lists of numbers. -/
section
open Go.ChangeShapes Go.WideShapes Go.ChangeAt Go.RowKit

section
variable {H : Type} {enc : TypeId × Value → H} {W : World} {held : Bool} {b0 : Nat} {v : Value} {d : DataW H} {p : List MemPlace}
theorem okWide_arr {P : Program} {w : World} {r : Reach} {base : Nat} {t : TypeId} {v : Value} {n : Nat} {e : TypeId} (ht : P.underlying t = some (.array n e)) (h : Value.okWide P w r base t v) : ∃ cs, v = .agg cs ∧ cs.size = P.cellsOf t := by
  simp only [Value.okWide, ht] at h
  obtain ⟨cs, h1, h2, _⟩ := h
  exact ⟨cs, h1, h2⟩
set_option maxRecDepth 100000 in
theorem arg_two (hv : Value.okWide Tryz.prog W .any b0 45 v) (h : DataW.Trod enc Tryz.prog W 0 (fun _ => true) held 45 v d p) :
    ∃ (a : Option Addr) (n c : Nat) (l : List Int) (a' : Option Addr) (n' c' : Nat) (l' : List Int), v = .agg #[.slice a n c, .slice a' n' c'] ∧ Ints W a n l ∧ Ints W a' n' l' := by
  obtain ⟨cs, rfl, hsz⟩ := okWide_arr Tryz.underlying45 hv
  rw [show Tryz.prog.cellsOf 45 = 2 by kernel_rfl] at hsz
  obtain ⟨l⟩ := cs
  match l, hsz with
  | [v0, v1], _ =>
  obtain ⟨fuel, hf⟩ := h
  obtain ⟨xs, n0, _, _, _, hlen, hfs⟩ := DataW.trod_array Tryz.underlying45 hf
  obtain ⟨y0, y1, rfl⟩ : ∃ y0 y1, xs = [y0, y1] := by
    match xs, hlen with
    | [y0, y1], _ => exact ⟨y0, y1, rfl⟩
  have k22 : Tryz.prog.cellsOf 22 = 1 := by kernel_rfl
  have g0 : DataW.trod enc Tryz.prog W 0 (fun _ => true) held n0 22 [v0] = some y0 := by simpa [Value.cells, k22] using hfs 0 (by omega)
  have g1 : DataW.trod enc Tryz.prog W 0 (fun _ => true) held n0 22 [v1] = some y1 := by simpa [Value.cells, k22] using hfs 1 (by omega)
  obtain ⟨a, n, c, l, e0, h0⟩ := opened_ints g0
  obtain ⟨a', n', c', l', e1, h1⟩ := opened_ints g1
  simp at e0 e1
  subst e0 e1
  exact ⟨a, n, c, l, a', n', c', l', rfl, h0, h1⟩
end
end

end Go.Proofs.YtakmnncmeefceaaGreat
