/- The walks of the reference of layer 48: Pick, rank, Others. -/
import Derived.Test.YtakmnncmeefceaaGreatG18
import Derived.Test.YtakmnncmeefceaaGreatG17
import Derived.Test.YtakmnncmeefceaaGreatG19
import Derived.Test.YtakmnncmeefceaaGreatG10
import Derived.Test.YtakmnncmeefceaaGreatG9
import Derived.Test.YtakmnncmeefceaaGreatG11
namespace Go.Proofs.YtakmnncmeefceaaGreat
set_option linter.unusedVariables false
set_option linter.unusedSimpArgs false
set_option linter.unusedSectionVars false

/- The walks of the references: SameInts, SameRows, Entries of layer 9, IsSubset of layer 11. -/
section
open Go.RowKit

set_option maxHeartbeats 800000 in
theorem rSameInts_any (a : Option Addr) (n c : Nat) (l : List Int) (a' : Option Addr) (n' c' : Nat) (l' : List Int) {w : World} (h : Ints w a n l) (h' : Ints w a' n' l') :
    Calls Tryz.prog 32 #[.slice a n c, .slice a' n' c'] w (QuietBool w (decide (l = l'))) := by
  have Hl := Lib.hid h.len
  have Hl' := Lib.hid h'.len
  have hpl := h.pl
  have hpl' := h'.pl
  have hmax := h.max
  unfold maxLen at hmax
  by_cases hn : n = n'
  · subst hn
    have hnn : ((n : Int) != n) = false := by simp
    go_enter Tryz.func32, Tryz.ntmps32
    go_wp2_with fail
    go_loopw [5] (fun iv wr => ∃ k : Nat, k ≤ n ∧ iv = .int .i64 k ∧ Hid (l.take k = l'.take k) ∧ Drawn w wr) (fun i _ => n - (intOf i).toNat)
    case atStart => exact ⟨0, Nat.zero_le _, rfl, rfl, Drawn.refl _⟩
    case round =>
      obtain ⟨k, hk, rfl, htk, hd⟩ := hrel
      by_cases hlt : k < n
      · have c1 := (h.drawn hd).cell k hlt
        have c2 := (h'.drawn hd).cell k hlt
        by_cases he : nth l k = nth l' k
        · have he' : (nth l k != nth l' k) = false := by simpa using he
          have Hs : Hid (l.take (k + 1) = l'.take (k + 1)) := nth_take_eq htk.out (by rw [Hl.out]; exact hlt) (by rw [Hl'.out]; exact hlt) he
          clear he
          go_wp2_with fail
          go_quiet (fail)
          go_wp2
          go_roundw
          case rel => exact ⟨k + 1, by omega, by go_num, Hs.out, hd.drewN _⟩
          case measure => simp [intOf] <;> omega
        · have he' : (nth l k != nth l' k) = true := by simpa using he
          have Hs : Hid (decide (l = l') = false) := by
            show _ = _; simp; intro e; exact he (by rw [e])
          clear he
          go_wp2_with fail
          go_quiet (fail)
          go_wp2
          go_ret
          exact ⟨ret_bool Hs.out.symm, hd.drewN _⟩
      · obtain rfl : k = n := by omega
        have Hs : Hid (decide (l = l') = true) := by
          show _ = _
          have := htk.out
          rw [List.take_of_length_le (by rw [Hl.out]; exact Nat.le_refl _), List.take_of_length_le (by rw [Hl'.out]; exact Nat.le_refl _)] at this
          simpa using this
        go_wp2_with fail
        go_ret
        exact ⟨ret_bool Hs.out.symm, hd⟩
  · have hnn : ((n : Int) != n') = true := by simp; omega
    have Hs : Hid (decide (l = l') = false) := by
      show _ = _; simp; intro e; have e1 := Hl.out; have e2 := Hl'.out; rw [e] at e1; omega
    clear hn
    go_enter Tryz.func32, Tryz.ntmps32
    go_wp2_with fail
    go_ret
    exact ⟨ret_bool Hs.out.symm, Drawn.refl _⟩

set_option maxHeartbeats 800000 in
theorem rSameRows_any (a : Option Addr) (n c : Nat) (l : List (List Int)) (a' : Option Addr) (n' c' : Nat) (l' : List (List Int)) {w : World} (h : Mat w a n l) (h' : Mat w a' n' l') :
    Calls Tryz.prog 46 #[.slice a n c, .slice a' n' c'] w (QuietBool w (decide (l = l'))) := by
  have Hl := Lib.hid h.len
  have Hl' := Lib.hid h'.len
  have hpl := h.pl
  have hpl' := h'.pl
  have hmax := h.max
  unfold maxLen at hmax
  by_cases hn : n = n'
  · subst hn
    have hnn : ((n : Int) != n) = false := by simp
    go_enter Tryz.func46, Tryz.ntmps46
    go_wp2_with fail
    go_loopw [5] (fun iv wr => ∃ k : Nat, k ≤ n ∧ iv = .int .i64 k ∧ Hid (l.take k = l'.take k) ∧ Drawn w wr) (fun i _ => n - (intOf i).toNat)
    case atStart => exact ⟨0, Nat.zero_le _, rfl, rfl, Drawn.refl _⟩
    case round =>
      obtain ⟨k, hk, rfl, htk, hd⟩ := hrel
      by_cases hlt : k < n
      · obtain ⟨b1, n1, d1, c1, i1⟩ := (h.drawn hd).cell k hlt
        obtain ⟨b2, n2, d2, c2, i2⟩ := (h'.drawn hd).cell k hlt
        have Hc := Lib.hid (rSameInts_any b1 n1 d1 _ b2 n2 d2 _ (i1.drawn (Drawn.refl wr).drew) (i2.drawn (Drawn.refl wr).drew))
        by_cases he : nthR l k = nthR l' k
        · have he' : decide (nthR l k = nthR l' k) = true := by simpa using he
          have Hs : Hid (l.take (k + 1) = l'.take (k + 1)) := nthR_take_eq htk.out (by rw [Hl.out]; exact hlt) (by rw [Hl'.out]; exact hlt) he
          rw [he'] at Hc
          clear he he'
          go_wp2_with fail
          go_region_held3 (fun V => V.cell? ⟨ablk a, aoff a + k, none⟩ = some (.slice b1 n1 d1) ∧ V.cell? ⟨ablk a', aoff a' + k, none⟩ = some (.slice b2 n2 d2)) (exact ⟨c1, c2⟩)
            (first | (go_at_call 32; ((with_reducible refine Hc.out.mono ?_); rintro e w4 ⟨rfl, m4, rfl⟩)))
          go_wp2_with fail
          go_roundw
          case rel => exact ⟨k + 1, by omega, by go_num, Hs.out, hd.drewN (1 + m4)⟩
          case measure => simp [intOf] <;> omega
        · have he' : decide (nthR l k = nthR l' k) = false := by simpa using he
          have Hs : Hid (decide (l = l') = false) := by
            show _ = _; simp; intro e; exact he (by rw [e])
          rw [he'] at Hc
          clear he he'
          go_wp2_with fail
          go_region_held3 (fun V => V.cell? ⟨ablk a, aoff a + k, none⟩ = some (.slice b1 n1 d1) ∧ V.cell? ⟨ablk a', aoff a' + k, none⟩ = some (.slice b2 n2 d2)) (exact ⟨c1, c2⟩)
            (first | (go_at_call 32; ((with_reducible refine Hc.out.mono ?_); rintro e w4 ⟨rfl, m4, rfl⟩)))
          go_wp2_with fail
          go_ret
          exact ⟨ret_bool Hs.out.symm, hd.drewN (1 + m4)⟩
      · obtain rfl : k = n := by omega
        have Hs : Hid (decide (l = l') = true) := by
          show _ = _
          have := htk.out
          rw [List.take_of_length_le (by rw [Hl.out]; exact Nat.le_refl _), List.take_of_length_le (by rw [Hl'.out]; exact Nat.le_refl _)] at this
          simpa using this
        go_wp2_with fail
        go_ret
        exact ⟨ret_bool Hs.out.symm, hd⟩
  · have hnn : ((n : Int) != n') = true := by simp; omega
    have Hs : Hid (decide (l = l') = false) := by
      show _ = _; simp; intro e; have e1 := Hl.out; have e2 := Hl'.out; rw [e] at e1; omega
    clear hn
    go_enter Tryz.func46, Tryz.ntmps46
    go_wp2_with fail
    go_ret
    exact ⟨ret_bool Hs.out.symm, Drawn.refl _⟩

set_option maxRecDepth 100000 in
set_option maxHeartbeats 1600000 in
theorem rEntries_any (P M : Int) (am : Option Addr) (mn cm : Nat) (a : Option Addr) (n c : Nat) (l : List Int) (w : World) (hi : Ints w a n l) :
    Calls Tryz.prog 99 #[.agg #[.int .i64 P, .int .i64 M, .slice am mn cm], .slice a n c] w fun e w' => e = .returned (.int .i64 (elsE (orderS P M) l)) ∧ Below w.heap.size w w' := by
  have Hlen := Lib.hid hi.len
  have hpl := hi.pl
  have hmax := hi.max
  unfold maxLen at hmax
  go_enter Tryz.func99, Tryz.ntmps99
  go_wp2_with fail
  obtain ⟨W, hW⟩ : ∃ W : World, W = w.alloc (.cells #[.int .i64 P, .int .i64 M, .slice am mn cm] 24) := ⟨_, rfl⟩
  rw [← hW]
  have hbW : Below w.heap.size w W := by rw [hW]; exact below1 _ _
  have x0 : Box W w.heap.size [.int .i64 P, .int .i64 M, .slice am mn cm] := by rw [hW]; exact Box.new _ _ _ rfl
  have hiW := hi.keep hbW
  have hS : ∀ k, k < n → ∀ V, Below W.heap.size W V → V.cell? ⟨w.heap.size, 0, none⟩ = some (.int .i64 P) ∧ V.cell? ⟨w.heap.size, 1, none⟩ = some (.int .i64 M) ∧ V.cell? ⟨w.heap.size, 2, none⟩ = some (.slice am mn cm) ∧ V.cell? ⟨ablk a, aoff a + k, none⟩ = some (.int .i64 (nth l k)) ∧ Below W.heap.size W V := by
    intro k hk V hV
    have x1 := x0.keep hV
    exact ⟨x1.cell 0 rfl, x1.cell 1 rfl, x1.cell 2 rfl, (hiW.keep hV).cell k hk, hV⟩
  have HS := Lib.hid hS
  clear hW x0 hS
  go_loopw [5] (fun iv wr => ∃ k : Nat, k ≤ n ∧ iv = .int .i64 k ∧ Hid ((l.take k).all (isQ (orderS P M)) = true) ∧ Below W.heap.size W wr) (fun iv _ => n - (intOf iv).toNat)
  case atStart => exact ⟨0, Nat.zero_le _, rfl, by show _ = _; simp, Below.refl _ _⟩
  case round =>
    obtain ⟨k, hk, rfl, hall, hbr⟩ := hrel
    by_cases hlt : k < n
    · have HSk : Hid (∀ V, Below W.heap.size W V → V.cell? ⟨w.heap.size, 0, none⟩ = some (.int .i64 P) ∧ V.cell? ⟨w.heap.size, 1, none⟩ = some (.int .i64 M) ∧ V.cell? ⟨w.heap.size, 2, none⟩ = some (.slice am mn cm) ∧ V.cell? ⟨ablk a, aoff a + k, none⟩ = some (.int .i64 (nth l k)) ∧ Below W.heap.size W V) := HS.out k hlt
      have hkl : k < l.length := by rw [Hlen.out]; exact hlt
      have Hbr := Lib.hid hbr
      have Hq := Lib.hid (rIs_any P M am mn cm (nth l k))
      clear hbr
      by_cases hq : isQ (orderS P M) (nth l k) = true
      · have Hs : Hid ((l.take (k + 1)).all (isQ (orderS P M)) = true) := all_take_succ hkl hall.out (by rw [← nth_getElem hkl]; exact hq)
        rw [hq] at Hq
        clear hq
        go_wp2_with fail
        go_region_held3 (fun V => V.cell? ⟨w.heap.size, 0, none⟩ = some (.int .i64 P) ∧ V.cell? ⟨w.heap.size, 1, none⟩ = some (.int .i64 M) ∧ V.cell? ⟨w.heap.size, 2, none⟩ = some (.slice am mn cm) ∧ V.cell? ⟨ablk a, aoff a + k, none⟩ = some (.int .i64 (nth l k)) ∧ Below W.heap.size W V)
          ((refine HSk.out _ ?_; first | exact Hbr.out.drew | exact Below.next Hbr.out.drew hb4))
          (first | (go_at_call 142; ((with_reducible refine (Hq.out _).mono ?_); rintro e w4 ⟨rfl, hb4⟩)))
        go_wp2_with fail
        go_roundw
        case rel => exact ⟨k + 1, by omega, by go_num, Hs.out, Below.next Hbr.out.drew hb4⟩
        case measure => simp [intOf] <;> omega
      · have hq' : isQ (orderS P M) (nth l k) = false := by simpa using hq
        have Hs : Hid (elsE (orderS P M) l = 2) := by show _ = _; rw [elsE, elsQ, all_false_at hkl (by rw [← nth_getElem hkl]; exact hq')]; rfl
        rw [hq'] at Hq
        clear hq hq'
        go_wp2_with fail
        go_region_held3 (fun V => V.cell? ⟨w.heap.size, 0, none⟩ = some (.int .i64 P) ∧ V.cell? ⟨w.heap.size, 1, none⟩ = some (.int .i64 M) ∧ V.cell? ⟨w.heap.size, 2, none⟩ = some (.slice am mn cm) ∧ V.cell? ⟨ablk a, aoff a + k, none⟩ = some (.int .i64 (nth l k)) ∧ Below W.heap.size W V)
          ((refine HSk.out _ ?_; first | exact Hbr.out.drew | exact Below.next Hbr.out.drew hb4))
          (first | (go_at_call 142; ((with_reducible refine (Hq.out _).mono ?_); rintro e w4 ⟨rfl, hb4⟩)))
        go_wp2_with fail
        go_ret
        exact ⟨ret_int Hs.out.symm, Below.next hbW (Below.next Hbr.out.drew hb4)⟩
    · obtain rfl : k = n := by omega
      have Hs : Hid (elsE (orderS P M) l = 0) := by
        have := hall.out
        rw [List.take_of_length_le (by rw [Hlen.out]; exact Nat.le_refl _)] at this
        show _ = _; rw [elsE, elsQ, this]; rfl
      go_wp2_with fail
      go_ret
      exact ⟨ret_int Hs.out.symm, Below.next hbW hbr⟩
end

/- The walks of the references: Check of layer 9. -/
section
open Go.RowKit

def rmatE (P M : Int) (mod : List Int) (cols : Int) (L : List (List Int)) : Int := if fieldRB P M mod = true then matE (orderS P M) cols L else 1

set_option maxRecDepth 100000 in
set_option maxHeartbeats 4000000 in
theorem rMatCheck_any (P M : Int) (am : Option Addr) (mn cm : Nat) (mod : List Int) (cols : Int) (a : Option Addr) (n c : Nat) (L : List (List Int)) (w : World) (hmod : Ints w am mn mod) (hi : Mat w a n L) :
    Calls Tryz.prog 128 #[.agg #[.int .i64 P, .int .i64 M, .slice am mn cm], .agg #[.int .i64 cols, .slice a n c]] w fun e w' => e = .returned (.int .i64 (rmatE P M mod cols L)) ∧ Below w.heap.size w w' := by
  have Hlen := Lib.hid hi.len
  have hpl := hi.pl
  have hmax := hi.max
  unfold maxLen at hmax
  go_enter Tryz.func128, Tryz.ntmps128
  go_wp2_with fail
  obtain ⟨W, hW⟩ : ∃ W : World, W = (w.alloc (.cells #[.int .i64 P, .int .i64 M, .slice am mn cm] 24)).alloc (.cells #[.int .i64 cols, .slice a n c] 62) := ⟨_, rfl⟩
  rw [← hW]
  have hbW : Below w.heap.size w W := by rw [hW]; exact below2 _ _ _
  have x0 : Box W w.heap.size [.int .i64 P, .int .i64 M, .slice am mn cm] := by rw [hW]; exact (Box.new _ _ _ rfl).alloc _
  have y0 : Box W (w.heap.size + 1) [.int .i64 cols, .slice a n c] := by rw [hW]; exact Box.new _ _ _ (by simp)
  have hS : ∀ V, Below W.heap.size W V → V.cell? ⟨w.heap.size, 0, none⟩ = some (.int .i64 P) ∧ V.cell? ⟨w.heap.size, 1, none⟩ = some (.int .i64 M) ∧ V.cell? ⟨w.heap.size, 2, none⟩ = some (.slice am mn cm) ∧
      V.cell? ⟨w.heap.size + 1, 0, none⟩ = some (.int .i64 cols) ∧ V.cell? ⟨w.heap.size + 1, 1, none⟩ = some (.slice a n c) ∧ Below W.heap.size W V := by
    intro V hV
    have x1 := x0.keep hV
    have y1 := y0.keep hV
    exact ⟨x1.cell 0 rfl, x1.cell 1 rfl, x1.cell 2 rfl, y1.cell 0 rfl, y1.cell 1 rfl, hV⟩
  have HS := Lib.hid hS
  have hiW := hi.keep hbW
  clear hW x0 y0 hS
  refine (rFieldCheck_any P M am mn cm mod W (hmod.keep hbW)).mono ?_
  rintro e w1 ⟨rfl, hb1⟩
  have hbw1 := Below.next hbW hb1
  by_cases hB : fieldRB P M mod = true
  · have HB : Hid (rmatE P M mod cols L = matE (orderS P M) cols L) := by show _ = _; rw [rmatE, if_pos hB]
    have hE : errField (fieldRB P M mod) = 0 := by rw [hB]; rfl
    rw [hE]
    obtain ⟨q, hq⟩ : ∃ q, orderS P M = q := ⟨_, rfl⟩
    have Hq := Lib.hid hq
    rw [hq] at HB
    obtain ⟨d0, d1, d2, d3, d4, _⟩ := HS.out w1 hb1
    clear hB hE hq
    by_cases b1 : cols < 0
    · have Hf : Hid (rmatE P M mod cols L = 3) := by show _ = _; rw [HB.out, matE, if_pos (.inl b1)]
      have t1 : decide (cols < 0) = true := by simpa using b1
      go_wp2_with fail
      go_ret
      exact ⟨ret_int Hf.out.symm, hbw1⟩
    have t1 : decide (cols < 0) = false := by simpa using b1
    by_cases b2 : 256 < cols
    · have Hf : Hid (rmatE P M mod cols L = 3) := by show _ = _; rw [HB.out, matE, if_pos (.inr (.inl b2))]
      have t2 : decide (256 < cols) = true := by simpa using b2
      go_wp2_with fail
      go_ret
      exact ⟨ret_int Hf.out.symm, hbw1⟩
    have t2 : decide (256 < cols) = false := by simpa using b2
    by_cases b3 : 256 < n
    · have Hf : Hid (rmatE P M mod cols L = 3) := by show _ = _; rw [HB.out, matE, if_pos (.inr (.inr (by rw [Hlen.out]; exact b3)))]
      have t3 : decide (256 < (n : Int)) = true := by simp; omega
      go_wp2_with fail
      go_ret
      exact ⟨ret_int Hf.out.symm, hbw1⟩
    have t3 : decide (256 < (n : Int)) = false := by simp; omega
    have Hm : Hid (rmatE P M mod cols L = if shapeQ cols L = false then 3 else if L.all (elsQ q) then 0 else 2) := by
      show _ = _; rw [HB.out, matE, if_neg (by rw [Hlen.out]; omega)]
    have hi1 := hiW.keep hb1
    clear b1 b2
    go_wp2_with fail
    go_loopw [6] (fun iv wr => ∃ k : Nat, k ≤ n ∧ iv = .int .i64 k ∧ Hid ((L.take k).all (fun r => decide ((r.length : Int) = cols)) = true) ∧ Drawn w1 wr) (fun iv _ => n - (intOf iv).toNat)
    case atStart => exact ⟨0, Nat.zero_le _, rfl, by show _ = _; simp, Drawn.refl _⟩
    case round =>
      obtain ⟨k, hk, rfl, hall, hd⟩ := hrel
      have hir := hi1.drawn hd
      have e3 := hd.cell d3
      have e4 := hd.cell d4
      by_cases hlt : k < n
      · obtain ⟨ra, rn, rc, hcell, hrow⟩ := hir.cell k hlt
        have hkL : k < L.length := by rw [Hlen.out]; exact hlt
        have hrl := hrow.len
        rw [nthR_getElem hkL] at hrl
        have Hrl := Lib.hid hrl
        clear hrl
        by_cases he : (rn : Int) = cols
        · have he' : ((rn : Int) != cols) = false := by simpa using he
          have Hs : Hid ((L.take (k + 1)).all (fun r => decide ((r.length : Int) = cols)) = true) := all_take_succ hkL hall.out (by rw [Hrl.out]; simpa using he)
          clear he
          go_wp2_with fail
          go_quiet (fail)
          go_wp2
          go_roundw
          case rel => exact ⟨k + 1, by omega, by go_num, Hs.out, hd.drewN _⟩
          case measure => simp [intOf] <;> omega
        · have he' : ((rn : Int) != cols) = true := by simpa using he
          have Hs : Hid (rmatE P M mod cols L = 3) := by
            show _ = _; rw [Hm.out, if_pos]
            exact all_false_at hkL (by simp only [Hrl.out]; simpa using he)
          clear he
          go_wp2_with fail
          go_quiet (fail)
          go_wp2
          go_ret
          exact ⟨ret_int Hs.out.symm, Below.next hbw1 (hd.drewN _).below⟩
      · obtain rfl : k = n := by omega
        have Hm2 : Hid (rmatE P M mod cols L = if L.all (elsQ q) then 0 else 2) := by
          have := hall.out; rw [List.take_of_length_le (by rw [Hlen.out]; exact Nat.le_refl _)] at this
          show _ = _; rw [Hm.out, if_neg (by rw [shapeQ, this]; simp)]
        have hbr : Below W.heap.size W wr := Below.next hb1 hd.below
        have hir2 := hir
        clear d0 d1 d2 d3 d4 hall
        go_wp2_with fail
        clear e3 e4
        go_loopw [7] (fun iv wx => ∃ j : Nat, j ≤ k ∧ iv = .int .i64 j ∧ Hid ((L.take j).all (elsQ q) = true) ∧ Below W.heap.size W wx) (fun iv _ => k - (intOf iv).toNat)
        case atStart => exact ⟨0, Nat.zero_le _, rfl, by show _ = _; simp, hbr⟩
        case round =>
          obtain ⟨j, hj, rfl, hall2, hbx⟩ := hrel
          obtain ⟨d0, d1, d2, d3, d4, _⟩ := HS.out _ hbx
          by_cases hlt : j < k
          · have hiX := hiW.keep hbx
            obtain ⟨ra, rn, rc, hcell, hrow⟩ := hiX.cell j hlt
            have hjL : j < L.length := by rw [Hlen.out]; exact hlt
            have HC := Lib.hid (rEntries_any P M am mn cm ra rn rc (nthR L j) _ (hrow.keep (Below.refl _ _).drew))
            have hSj : ∀ V, Below wr.heap.size wr V → V.cell? ⟨w.heap.size, 0, none⟩ = some (.int .i64 P) ∧ V.cell? ⟨w.heap.size, 1, none⟩ = some (.int .i64 M) ∧ V.cell? ⟨w.heap.size, 2, none⟩ = some (.slice am mn cm) ∧
                V.cell? ⟨w.heap.size + 1, 1, none⟩ = some (.slice a k c) ∧ V.cell? ⟨ablk a, aoff a + j, none⟩ = some (.slice ra rn rc) := fun V hV => by
              obtain ⟨f0, f1, f2, f3, f4, _⟩ := HS.out V (Below.next hbx hV)
              exact ⟨f0, f1, f2, f4, cell_keep hV hcell⟩
            have HSj := Lib.hid hSj
            have Hbx := Lib.hid hbx
            rw [Hq.out] at HC
            clear hSj hbx
            by_cases he : elsQ q (nthR L j) = true
            · have he2 : elsE q (nthR L j) = 0 := by rw [elsE, he]; rfl
              rw [he2] at HC
              rw [nthR_getElem hjL] at he
              have Hs : Hid ((L.take (j + 1)).all (elsQ q) = true) := all_take_succ hjL hall2.out he
              clear he he2
              go_wp2_with fail
              go_region_held3 (fun V => V.cell? ⟨w.heap.size, 0, none⟩ = some (.int .i64 P) ∧ V.cell? ⟨w.heap.size, 1, none⟩ = some (.int .i64 M) ∧ V.cell? ⟨w.heap.size, 2, none⟩ = some (.slice am mn cm) ∧
                  V.cell? ⟨w.heap.size + 1, 1, none⟩ = some (.slice a k c) ∧ V.cell? ⟨ablk a, aoff a + j, none⟩ = some (.slice ra rn rc))
                ((refine HSj.out _ ?_; first | exact (Below.refl _ _).drew | exact Below.next (Below.refl _ _).drew hb4))
                (first | (go_at_call 99; ((with_reducible refine HC.out.mono ?_); rintro e w4 ⟨rfl, hb4⟩)))
              go_wp2_with fail
              go_roundw
              case rel => exact ⟨j + 1, by omega, by go_num, Hs.out, Below.next Hbx.out (Below.next (Below.refl _ _).drew hb4)⟩
              case measure => simp [intOf] <;> omega
            · have he2 : elsE q (nthR L j) = 2 := by rw [elsE, if_neg he]
              rw [he2] at HC
              rw [nthR_getElem hjL] at he
              have Hs : Hid (rmatE P M mod cols L = 2) := by
                show _ = _; rw [Hm2.out, all_false_at hjL (by simpa using he)]; rfl
              clear he he2
              go_wp2_with fail
              go_region_held3 (fun V => V.cell? ⟨w.heap.size, 0, none⟩ = some (.int .i64 P) ∧ V.cell? ⟨w.heap.size, 1, none⟩ = some (.int .i64 M) ∧ V.cell? ⟨w.heap.size, 2, none⟩ = some (.slice am mn cm) ∧
                  V.cell? ⟨w.heap.size + 1, 1, none⟩ = some (.slice a k c) ∧ V.cell? ⟨ablk a, aoff a + j, none⟩ = some (.slice ra rn rc))
                ((refine HSj.out _ ?_; first | exact (Below.refl _ _).drew | exact Below.next (Below.refl _ _).drew hb4))
                (first | (go_at_call 99; ((with_reducible refine HC.out.mono ?_); rintro e w4 ⟨rfl, hb4⟩)))
              go_wp2_with fail
              go_ret
              exact ⟨ret_int Hs.out.symm, Below.next hbW (Below.next Hbx.out (Below.next (Below.refl _ _).drew hb4))⟩
          · obtain rfl : j = k := by omega
            have Hs : Hid (rmatE P M mod cols L = 0) := by
              have := hall2.out; rw [List.take_of_length_le (by rw [Hlen.out]; exact Nat.le_refl _)] at this
              show _ = _; rw [Hm2.out, this]; rfl
            go_wp2_with fail
            go_ret
            exact ⟨ret_int Hs.out.symm, Below.next hbW hbx⟩
  · have hB' : fieldRB P M mod = false := by simpa using hB
    have Hf : Hid (rmatE P M mod cols L = 1) := by show _ = _; rw [rmatE, if_neg hB]
    have hE : errField (fieldRB P M mod) = 1 := by rw [hB']; rfl
    rw [hE]
    clear hB hB' hE
    go_wp2_with fail
    go_ret
    exact ⟨ret_int Hf.out.symm, hbw1⟩
end

/- The walks of the references: Canon of layer 9, Check of layers 10 and 12. -/
section
open Go.RowKit

def canR (O : FOps) (L : List (List Int)) (cols : Nat) : List (List Int) := (elimTo O L cols).1.take (elimTo O L cols).2.length
def RCanonPost (O : FOps) (L : List (List Int)) (cols : Nat) (w : World) (e : Ending) (w' : World) : Prop :=
  ∃ a c ap cp, e = .returned (.tuple #[.slice a (elimTo O L cols).2.length c, .slice ap (elimTo O L cols).2.length cp]) ∧ MatN w.heap.size w' a (elimTo O L cols).2.length (canR O L cols) ∧
    IntsN w.heap.size w' ap (elimTo O L cols).2.length (elimTo O L cols).2 ∧ Below w.heap.size w w'

set_option maxRecDepth 100000 in
set_option maxHeartbeats 1600000 in
theorem rCanon_any (P : Int) (m : Nat) (am : Option Addr) (mn cm : Nat) (mod : List Int) (a : Option Addr) (n c cols : Nat) (L : List (List Int)) (w : World) (hf : RFld w P m am mn mod) (hi : Mat w a n L)
    (hR : Rws (ElP P m) cols L) (hlen : cols ≤ 1000000) (hn : n ≤ 1000000) (hinv : ∀ p, ElP P m p → p ≠ 0 → (invR P m mod p = 1 ↔ p = 1)) :
    Calls Tryz.prog 111 #[.agg #[.int .i64 P, .int .i64 m, .slice am mn cm], .slice a n c, .int .i64 cols] w (RCanonPost (rops P m mod) L cols w) := by
  have Hlen := Lib.hid hi.len
  have Hc : Hid (∀ V, Below w.heap.size w V → Calls Tryz.prog 149 #[.agg #[.int .i64 P, .int .i64 m, .slice am mn cm], .slice a n c, .int .i64 cols] V (RElimPost (rops P m mod) L cols V)) :=
    fun V hV => rElim_any P m am mn cm mod a n c cols cols L V (hf.keep hV) (hi.keep hV) hR (Nat.le_refl _) hlen hn hinv
  obtain ⟨O, hO⟩ : ∃ O, rops P m mod = O := ⟨_, rfl⟩
  rw [hO] at Hc ⊢
  clear hO hinv hR
  go_enter Tryz.func111, Tryz.ntmps111
  go_wp2_with fail
  obtain ⟨W, hW⟩ : ∃ W : World, W = w.alloc (.cells #[.int .i64 P, .int .i64 m, .slice am mn cm] 24) := ⟨_, rfl⟩
  rw [← hW]
  have hbW : Below w.heap.size w W := by rw [hW]; exact below1 _ _
  clear hW
  refine (Hc.out W hbW).mono ?_
  rintro e w1 ⟨a1, c1, R1, ap, cp, rfl, hO1, hp1, hb1⟩
  have hpl := elimTo_piv O L cols
  have hcap := own_cap hO1.own
  have hpv := (IntsN.own hp1).mono hbW.size
  have hmt := ((MatN.own hO1).take (k := (elimTo O L cols).2.length) hpl.2).mono hbW.size
  have hF : RCanonPost O L cols w (.returned (.tuple #[.slice a1 (elimTo O L cols).2.length c1, .slice ap (elimTo O L cols).2.length cp])) w1 := ⟨a1, _, ap, cp, rfl, hmt, hpv, Below.next hbW hb1⟩
  have HF := Lib.hid hF
  have hle : (elimTo O L cols).2.length ≤ c1 := Nat.le_trans hpl.2 hcap
  clear hF hpv hmt hp1 hcap hpl
  generalize (elimTo O L cols).2.length = k at *
  go_wp2_with fail
  go_ret2
  simpa using HF.out

def rspaceE (P M : Int) (mod : List Int) (cols : Int) (L : List (List Int)) : Int :=
  if rmatE P M mod cols L = 0 then (if canR (rops P M.toNat mod) L cols.toNat = L then 0 else 5) else rmatE P M mod cols L

theorem fieldRB_rf {P M : Int} {mod : List Int} (h : fieldRB P M mod = true) : ∃ m : Nat, M = m ∧ RF P m ∧ (∀ (w : World) am mn, Ints w am mn mod → Mods w P m am mn mod) := by
  unfold fieldRB shapeB at h
  simp only [Bool.and_eq_true, bne_iff_ne, ne_eq] at h
  obtain ⟨⟨⟨h1, h2⟩, h3⟩, h4⟩ := h
  obtain ⟨m, rfl, hrf⟩ := RF.of h1
  refine ⟨m, rfl, hrf, fun w am mn hi => ⟨hi, fun hm => ?_, ?_⟩⟩
  · rw [if_neg (by omega)] at h3
    simp only [Bool.and_eq_true, decide_eq_true_eq] at h3
    have := hi.len
    omega
  · by_cases hm : (m : Int) = 1
    · rw [if_pos hm] at h3
      have : mod = [] := List.eq_nil_of_length_eq_zero (by simpa using h3)
      subst this
      exact Dig.of_mem (by have := hrf.p2; omega) (by simp)
    · rw [if_neg hm] at h3
      simp only [Bool.and_eq_true] at h3
      refine Dig.of_mem (by have := hrf.p2; omega) fun x hx => ?_
      have := List.all_eq_true.1 h3.2 x hx
      simpa using this
theorem rmatE_zero {P M : Int} {mod : List Int} {cols : Int} {L : List (List Int)} (h : rmatE P M mod cols L = 0) : fieldRB P M mod = true ∧ matE (orderS P M) cols L = 0 := by
  unfold rmatE at h
  split at h
  · rename_i h1; exact ⟨h1, h⟩
  · omega

set_option maxRecDepth 100000 in
set_option maxHeartbeats 1600000 in
theorem rSpaceCheck_any (P M : Int) (am : Option Addr) (mn cm : Nat) (mod : List Int) (cols : Int) (a : Option Addr) (n c : Nat) (L : List (List Int)) (w : World) (hmod : Ints w am mn mod) (hi : Mat w a n L)
    (hinv : fieldRB P M mod = true → ∀ p, ElP P M.toNat p → p ≠ 0 → (invR P M.toNat mod p = 1 ↔ p = 1)) :
    Calls Tryz.prog 88 #[.agg #[.int .i64 P, .int .i64 M, .slice am mn cm], .agg #[.int .i64 cols, .slice a n c]] w fun e w' => e = .returned (.int .i64 (rspaceE P M mod cols L)) ∧ Below w.heap.size w w' := by
  have Hlen := Lib.hid hi.len
  have Hinv := Lib.hid hinv
  clear hinv
  go_enter Tryz.func88, Tryz.ntmps88
  go_wp2_with fail
  obtain ⟨W, hW⟩ : ∃ W : World, W = (w.alloc (.cells #[.int .i64 P, .int .i64 M, .slice am mn cm] 24)).alloc (.cells #[.int .i64 cols, .slice a n c] 62) := ⟨_, rfl⟩
  rw [← hW]
  have hbW : Below w.heap.size w W := by rw [hW]; exact below2 _ _ _
  have x0 : Box W w.heap.size [.int .i64 P, .int .i64 M, .slice am mn cm] := by rw [hW]; exact (Box.new _ _ _ rfl).alloc _
  have y0 : Box W (w.heap.size + 1) [.int .i64 cols, .slice a n c] := by rw [hW]; exact Box.new _ _ _ (by simp)
  have HX := Lib.hid (And.intro x0 y0)
  have hiW := hi.keep hbW
  have hmW := hmod.keep hbW
  clear hW x0 y0
  refine (rMatCheck_any P M am mn cm mod cols a n c L W hmW hiW).mono ?_
  rintro e w1 ⟨rfl, hb1⟩
  have hbw1 := Below.next hbW hb1
  by_cases hE : rmatE P M mod cols L = 0
  · obtain ⟨hB, hm⟩ := rmatE_zero hE
    obtain ⟨m, rfl, hrf, hmods⟩ := fieldRB_rf hB
    obtain ⟨k, rfl, hk, hl, hR⟩ := matE_zero hm
    have HE : Hid (rspaceE P m mod k L = if canR (rops P m mod) L k = L then 0 else 5) := by show _ = _; rw [rspaceE, if_pos hE, Int.toNat_natCast, Int.toNat_natCast]
    rw [hE]
    have hinv := Hinv.out hB
    rw [Int.toNat_natCast] at hinv
    have hRw : Rws (ElP P m) k L := fun r hr => ⟨(hR r hr).1, fun x hx => by have := (hR r hr).2 x hx; rw [hrf.order] at this; exact this⟩
    have x1 := HX.out.1.keep hb1
    have y1 := HX.out.2.keep hb1
    have d0 := x1.cell 0 rfl
    have d1 := x1.cell 1 rfl
    have d2 := x1.cell 2 rfl
    have d3 := y1.cell 0 rfl
    have d4 := y1.cell 1 rfl
    have hm1 := hmW.keep hb1
    have hi1 := hiW.keep hb1
    have hn : n ≤ 1000000 := by rw [← Hlen.out]; omega
    have HC := Lib.hid (rCanon_any P m am mn cm mod a n c k L w1 ⟨hrf, hmods w1 am mn hm1⟩ hi1 hRw (by omega) hn hinv)
    clear hE hB hm hmods hR hinv hRw x1 y1
    obtain ⟨O, hO⟩ : ∃ O, rops P m mod = O := ⟨_, rfl⟩
    rw [hO] at HC HE
    clear hO
    go_wp2_with fail
    refine HC.out.mono ?_
    rintro e w2 ⟨a2, c2, ap, cp, rfl, hM2, hp2, hb2⟩
    have hbw2 := Below.next hbw1 hb2
    have y2 := (HX.out.2.keep hb1).keep hb2
    have d3 := y2.cell 0 rfl
    have d4 := y2.cell 1 rfl
    have hi2 := hi1.keep hb2
    have hM3 := hM2.mat
    have HS := Lib.hid (rSameRows_any a2 (elimTo O L k).2.length c2 (canR O L k) a n c L hM3 hi2)
    clear hM2 hp2 y2
    generalize (elimTo O L k).2.length = kk at *
    by_cases hc : canR O L k = L
    · have hc' : decide (canR O L k = L) = true := by simpa using hc
      have HF : Hid (rspaceE P m mod k L = 0) := by show _ = _; rw [HE.out, if_pos hc]
      rw [hc'] at HS
      clear hc hc'
      go_wp2_with fail
      refine HS.out.mono ?_
      rintro e w3 ⟨rfl, hd3⟩
      go_wp2_with fail
      go_ret
      exact ⟨ret_int HF.out.symm, Below.next hbw2 hd3.below⟩
    · have hc' : decide (canR O L k = L) = false := by simpa using hc
      have HF : Hid (rspaceE P m mod k L = 5) := by show _ = _; rw [HE.out, if_neg hc]
      rw [hc'] at HS
      clear hc hc'
      go_wp2_with fail
      refine HS.out.mono ?_
      rintro e w3 ⟨rfl, hd3⟩
      go_wp2_with fail
      go_ret
      exact ⟨ret_int HF.out.symm, Below.next hbw2 hd3.below⟩
  · have HE : Hid (rspaceE P M mod cols L = rmatE P M mod cols L) := by show _ = _; rw [rspaceE, if_neg hE]
    have hE' : (rmatE P M mod cols L != 0) = true := by simpa using hE
    clear hE
    go_wp2_with fail
    go_ret
    exact ⟨ret_int HE.out.symm, hbw1⟩

theorem lenE_lo {N : Int} (h : N < 1) : lenE N = 4 := by rw [lenE, if_pos (.inl h)]
theorem lenE_hi {N : Int} (h : 64 < N) : lenE N = 4 := by rw [lenE, if_pos (.inr h)]
theorem lenE_in {N : Int} (h1 : ¬ N < 1) (h2 : ¬ 64 < N) : lenE N = 0 := by rw [lenE, if_neg (by omega)]
def rcodeE (P M : Int) (mod : List Int) (N : Int) (L : List (List Int)) : Int :=
  if fieldRB P M mod = true then (if lenE N = 0 then rspaceE P M mod N L else 4) else 1

set_option maxRecDepth 100000 in
set_option maxHeartbeats 1600000 in
theorem rCodeCheck_any (P M : Int) (am : Option Addr) (mn cm : Nat) (mod : List Int) (N : Int) (a : Option Addr) (n c : Nat) (L : List (List Int)) (w : World) (hmod : Ints w am mn mod) (hi : Mat w a n L)
    (hinv : fieldRB P M mod = true → ∀ p, ElP P M.toNat p → p ≠ 0 → (invR P M.toNat mod p = 1 ↔ p = 1)) :
    Calls Tryz.prog 35 #[.agg #[.int .i64 P, .int .i64 M, .slice am mn cm, .int .i64 N, .slice a n c]] w fun e w' => e = .returned (.int .i64 (rcodeE P M mod N L)) ∧ Below w.heap.size w w' := by
  have Hinv := Lib.hid hinv
  clear hinv
  go_enter Tryz.func35, Tryz.ntmps35
  go_wp2_with fail
  obtain ⟨W, hW⟩ : ∃ W : World, W = w.alloc (.cells #[.int .i64 P, .int .i64 M, .slice am mn cm, .int .i64 N, .slice a n c] 27) := ⟨_, rfl⟩
  rw [← hW]
  have hbW : Below w.heap.size w W := by rw [hW]; exact below1 _ _
  have x0 : Box W w.heap.size [.int .i64 P, .int .i64 M, .slice am mn cm, .int .i64 N, .slice a n c] := by rw [hW]; exact Box.new _ _ _ rfl
  have HX := Lib.hid x0
  clear hW x0
  refine (rFieldCheck_any P M am mn cm mod W (hmod.keep hbW)).mono ?_
  rintro e w1 ⟨rfl, hb1⟩
  have hbw1 := Below.next hbW hb1
  by_cases hB : fieldRB P M mod = true
  · have hE : errField (fieldRB P M mod) = 0 := by rw [hB]; rfl
    rw [hE]
    have HB : Hid (rcodeE P M mod N L = if lenE N = 0 then rspaceE P M mod N L else 4) := by show _ = _; rw [rcodeE, if_pos hB]
    have x1 := HX.out.keep hb1
    have c0 := x1.cell 0 rfl
    have c1 := x1.cell 1 rfl
    have c2 := x1.cell 2 rfl
    have c3 := x1.cell 3 rfl
    have c4 := x1.cell 4 rfl
    have hm1 := (hmod.keep hbW).keep hb1
    have hi1 := (hi.keep hbW).keep hb1
    clear hE hB x1
    by_cases h1 : N < 1
    · have Hf : Hid (rcodeE P M mod N L = 4) := by show _ = _; rw [HB.out, lenE_lo h1]; rfl
      have t1 : decide (N < 1) = true := by simpa using h1
      go_wp2_with fail
      go_ret
      exact ⟨ret_int Hf.out.symm, hbw1⟩
    · have t1 : decide (N < 1) = false := by simpa using h1
      by_cases h2 : 64 < N
      · have Hf : Hid (rcodeE P M mod N L = 4) := by show _ = _; rw [HB.out, lenE_hi h2]; rfl
        have t2 : decide (64 < N) = true := by simpa using h2
        go_wp2_with fail
        go_ret
        exact ⟨ret_int Hf.out.symm, hbw1⟩
      · have t2 : decide (64 < N) = false := by simpa using h2
        have Hf : Hid (rcodeE P M mod N L = rspaceE P M mod N L) := by show _ = _; rw [HB.out, lenE_in h1 h2, if_pos rfl]
        clear h1 h2
        go_wp2_with fail
        refine (rSpaceCheck_any P M am mn cm mod N a n c L w1 hm1 hi1 Hinv.out).mono ?_
        rintro e w2 ⟨rfl, hb2⟩
        go_wp2_with fail
        go_ret
        exact ⟨ret_int Hf.out.symm, Below.next hbw1 hb2⟩
  · have hB' : fieldRB P M mod = false := by simpa using hB
    have Hf : Hid (rcodeE P M mod N L = 1) := by show _ = _; rw [rcodeE, if_neg hB]
    have hE : errField (fieldRB P M mod) = 1 := by rw [hB']; rfl
    rw [hE]
    clear hB hB' hE
    go_wp2_with fail
    go_ret
    exact ⟨ret_int Hf.out.symm, hbw1⟩
end

/- The reference's operations are the program's: what the two Checks say is the same. -/
section
theorem invTo_find (f : Int → Int) : ∀ (n : Nat) (y z : Int), y ≤ z → z < y + n → f z = 1 → f (invTo f n y) = 1 ∧ y ≤ invTo f n y ∧ invTo f n y < y + n
  | 0, y, z, h1, h2, _ => by omega
  | n + 1, y, z, h1, h2, hz => by
    unfold invTo
    split
    · exact ⟨by assumption, by omega, by omega⟩
    · rename_i hn
      have hne : y ≠ z := fun e => hn (e ▸ hz)
      have := invTo_find f n (y + 1) z (by omega) (by omega) hz
      exact ⟨this.1, by omega, by omega⟩

/-- the program's operations and the reference's agree on the elements -/
theorem eq_ops {P M : Int} {mod : List Int} (h : fieldB P M mod = true) : ∃ m : Nat, M = m ∧ ElP P m = (tblOf P m mod).El ∧ ((tblOf P m mod).q : Int) = orderS P M ∧ Fld (tblOf P m mod).ops (ElP P m) ∧ Agr (tblOf P m mod).ops (rops P m mod) (ElP P m) ∧
    ∀ p, ElP P m p → p ≠ 0 → (invR P m mod p = 1 ↔ p = 1) := by
  have hF := fieldB_fld h
  obtain ⟨m, y, rfl, hr, h256, hsh, hq, g⟩ := fieldB_gen h
  have hrf : RF P m := by
    obtain ⟨m', e, h2, _⟩ := fieldRB_rf (by rw [fieldRB_eq]; exact h)
    have : m = m' := by omega
    rw [this]; exact h2
  rw [Int.toNat_natCast] at hF
  have e : ElP P m = (tblOf P m mod).El := by
    funext x; simp only [Tbl.El, tblOf, ElP]; rw [hq]
  rw [← e] at hF
  have hq2 := g.q2
  have hmul : ∀ x z, ElP P m x → ElP P m z → (tblOf P m mod).ops.mul x z = mulR P m mod x z := fun x z hx hz => by
    rw [mulR_eq hrf]; exact g.mulT_eq hx hz
  have hqo : ((orderS P m).toNat : Int) = orderS P m := by omega
  have hinv : ∀ x, ElP P m x → x ≠ 0 → (tblOf P m mod).ops.inv x = invR P m mod x := by
    intro x hx h0
    have hi := hF.cl.inv x hx h0
    have hm := hF.mul_inv x hx h0
    rw [hmul x _ hx hi] at hm
    have hi0 : (tblOf P m mod).ops.inv x ≠ 0 := by
      intro e0
      have h2 := hF.mul_inv x hx h0
      rw [e0, hF.mzero hx] at h2
      exact absurd h2 (by decide)
    have hb1 := hi.1
    have hb2 := hi.2
    obtain ⟨h1, h2, h3⟩ := invTo_find (mulR P m mod x) ((orderS P m).toNat - 1) 1 _ (by omega) (by omega) hm
    have hel : ElP P m (invR P m mod x) := ⟨by unfold invR; omega, by unfold invR; omega⟩
    have h4 : (tblOf P m mod).ops.mul x (invR P m mod x) = 1 := by rw [hmul x _ hx hel]; exact h1
    have h5 := hF.mul_inv x hx h0
    have e1 : (tblOf P m mod).ops.mul ((tblOf P m mod).ops.inv x) ((tblOf P m mod).ops.mul x (invR P m mod x)) = invR P m mod x := by
      rw [← hF.mul_assoc _ x _ hi hx hel, hF.mul_comm _ x hi hx, h5, hF.one_mul _ hel]
    rw [h4, hF.mone hi] at e1
    exact e1
  refine ⟨m, rfl, e, hqo, hF, ⟨fun x z _ _ => rfl, hmul, fun x _ => rfl, hinv⟩, fun p hp h0 => ?_⟩
  rw [← hinv p hp h0]
  have hi := hF.cl.inv p hp h0
  have hm := hF.mul_inv p hp h0
  constructor
  · intro e1; rw [e1, hF.mone hp] at hm; exact hm
  · intro e1; rw [e1] at hm hi ⊢; rw [hF.one_mul _ hi] at hm; exact hm

theorem hinv_all {P M : Int} {mod : List Int} (h : fieldRB P M mod = true) : ∀ p, ElP P M.toNat p → p ≠ 0 → (invR P M.toNat mod p = 1 ↔ p = 1) := by
  obtain ⟨m, rfl, _, _, _, _, h6⟩ := eq_ops (by rw [← fieldRB_eq]; exact h)
  exact h6
theorem rmatE_eq (P M : Int) (mod : List Int) (cols : Int) (L : List (List Int)) : rmatE P M mod cols L = fmatE P M mod cols L := by
  unfold rmatE fmatE
  rw [fieldRB_eq]
  split
  · rename_i h
    obtain ⟨m, rfl, _, hq, _⟩ := eq_ops h
    rw [Int.toNat_natCast, hq]
  · rfl
theorem canR_eq {P M : Int} {mod : List Int} (h : fieldB P M mod = true) {L : List (List Int)} {m : Nat} (hL : Rws (tblOf P M.toNat mod).El m L) : canR (rops P M.toNat mod) L m = canS (tblOf P M.toNat mod) L m := by
  obtain ⟨k, rfl, he, _, hF, hA, _⟩ := eq_ops h
  rw [Int.toNat_natCast] at hL ⊢
  rw [← he] at hL
  unfold canR canS
  rw [(elimTo_agr hA hF.cl hL m (Nat.le_refl _)).1]
theorem rspaceE_eq (P M : Int) (mod : List Int) (cols : Int) (L : List (List Int)) : rspaceE P M mod cols L = spaceE P M mod cols L := by
  unfold rspaceE spaceE
  rw [rmatE_eq]
  split
  · rename_i h0
    obtain ⟨h1, h2⟩ := fmatE_zero h0
    obtain ⟨m, rfl, _, _, hR⟩ := matE_zero h2
    rw [Int.toNat_natCast, canR_eq h1 hR]
  · rfl
theorem rcodeE_eq (P M : Int) (mod : List Int) (N : Int) (L : List (List Int)) : rcodeE P M mod N L = codeE P M mod N L := by
  unfold rcodeE codeE
  rw [fieldRB_eq, rspaceE_eq]

/-- a code: its field is a field, its rows are vectors of elements -/
theorem codeE_fld {P M : Int} {mod : List Int} {N : Int} {L : List (List Int)} (h : codeE P M mod N L = 0) : ∃ n : Nat, N = n ∧ 1 ≤ n ∧ n ≤ 64 ∧ Fld (tblOf P M.toNat mod).ops (tblOf P M.toNat mod).El ∧ Rws (tblOf P M.toNat mod).El n L := by
  obtain ⟨m, rfl, h1, h2, _, hR⟩ := codeE_rws h
  exact ⟨m, rfl, h1, h2, fieldB_fld (codeE_zero h).1, hR⟩

/-- the rank of the bits of x -/
def rkb (P M : Int) (mod : List Int) (L : List (List Int)) (l : List Nat) (r : Nat) : Prop := Rk (clV (tblOf P M.toNat mod).ops (tblOf P M.toNat mod).El L.length (colS L)) l r

theorem mem_bitsTo (x : Nat) (i : Int) : ∀ k, i ∈ bitsTo x k ↔ ∃ j : Nat, j < k ∧ i = j ∧ x.testBit j = true
  | 0 => by simp [bitsTo]
  | k + 1 => by
    have ih := mem_bitsTo x i k
    unfold bitsTo
    split
    · rename_i ht
      rw [List.mem_append, ih, List.mem_singleton]
      constructor
      · rintro (⟨j, h1, h2, h3⟩ | rfl)
        · exact ⟨j, by omega, h2, h3⟩
        · exact ⟨k, by omega, rfl, ht⟩
      · rintro ⟨j, h1, h2, h3⟩
        by_cases e : j = k
        · subst e; exact .inr h2
        · exact .inl ⟨j, by omega, h2, h3⟩
    · rename_i ht
      rw [ih]
      constructor
      · rintro ⟨j, h1, h2, h3⟩; exact ⟨j, by omega, h2, h3⟩
      · rintro ⟨j, h1, h2, h3⟩
        by_cases e : j = k
        · subst e; exact absurd h3 ht
        · exact ⟨j, by omega, h2, h3⟩
theorem mem_grBits (x N : Nat) (i : Nat) : i ∈ grL (bitsTo x N) (bitsTo x N).length ↔ i < N ∧ x.testBit i = true := by
  rw [mem_grL]
  constructor
  · rintro ⟨j, hj, e⟩
    have hm : nth (bitsTo x N) j ∈ bitsTo x N := nth_mem hj
    obtain ⟨t, h1, h2, h3⟩ := (mem_bitsTo x _ N).1 hm
    have : t = i := by omega
    subst this; exact ⟨h1, h3⟩
  · rintro ⟨h1, h2⟩
    have hm : (i : Int) ∈ bitsTo x N := (mem_bitsTo x _ N).2 ⟨i, h1, rfl, h2⟩
    obtain ⟨j, hj, e⟩ := List.mem_iff_getElem.1 hm
    exact ⟨j, hj, by rw [nth_getElem hj, e]; rfl⟩

/-- the bits of the mask of a set -/
theorem maskTo_test {Q : List Int} : ∀ k, (∀ j, j < k → 0 ≤ nth Q j ∧ nth Q j < 64) → ∀ i, (maskTo Q k).testBit i = true ↔ ∃ j, j < k ∧ nth Q j = (i : Int)
  | 0, _, i => by simp [maskTo]
  | k + 1, h, i => by
    have ih := maskTo_test k (fun j hj => h j (by omega)) i
    have hk := h k (by omega)
    rw [maskTo, Nat.testBit_or, Bool.or_eq_true, ih, Nat.testBit_two_pow, decide_eq_true_eq]
    constructor
    · rintro (⟨j, h1, h2⟩ | h1)
      · exact ⟨j, by omega, h2⟩
      · exact ⟨k, by omega, by omega⟩
    · rintro ⟨j, h1, h2⟩
      by_cases e : j = k
      · subst e; exact .inr (by omega)
      · exact .inl ⟨j, by omega, h2⟩

/-- the dimension between the ranks of the set and of its complement -/
theorem dimS_rk {P M : Int} {mod : List Int} {n : Nat} {L : List (List Int)} (F : Fld (tblOf P M.toNat mod).ops (tblOf P M.toNat mod).El) (hR : Rws (tblOf P M.toNat mod).El n L) (x N : Nat) (hN : N ≤ 64) :
    ∃ (l l' : List Nat) (r r' : Nat), dimS (tblOf P M.toNat mod).ops L N x = r + r' - L.length ∧ rkb P M mod L l r ∧ rkb P M mod L l' r' ∧ (∀ i, i ∈ l ↔ i < N ∧ x.testBit i = true) ∧ (∀ i, i ∈ l' ↔ i < N ∧ ¬ x.testBit i = true) := by
  refine ⟨_, _, _, _, rfl, grS_rk F hR _, grS_rk F hR _, mem_grBits x N, fun i => ?_⟩
  rw [mem_grBits]
  constructor
  · rintro ⟨h1, h2⟩
    rw [cplU_test _ _ (by omega)] at h2
    exact ⟨h1, by simpa using h2⟩
  · rintro ⟨h1, h2⟩
    exact ⟨h1, by rw [cplU_test _ _ (by omega)]; simpa using h2⟩
end

/- The laws of the dimensions of two sets, and of one position more. -/
section
theorem maskS_test {n : Nat} {Q : List Int} (h : okSet n Q = true) (hn : n ≤ 64) (i : Nat) : (maskS Q).testBit i = true ↔ ∃ j, j < Q.length ∧ nth Q j = (i : Int) :=
  maskTo_test Q.length (fun j hj => ⟨(okSet_at h hj).1, by have := (okSet_at h hj).2.1; omega⟩) i
theorem maskS_bits (x n : Nat) (hn : n ≤ 64) (i : Nat) : (maskS (bitsTo x n)).testBit i = true ↔ i < n ∧ x.testBit i = true := by
  rw [maskS_test (okSet_bits x n) hn]
  constructor
  · rintro ⟨j, hj, e⟩
    have hm : nth (bitsTo x n) j ∈ bitsTo x n := nth_mem hj
    obtain ⟨t, h1, h2, h3⟩ := (mem_bitsTo x _ n).1 hm
    have : t = i := by omega
    subst this; exact ⟨h1, h3⟩
  · rintro ⟨h1, h2⟩
    have hm : (i : Int) ∈ bitsTo x n := (mem_bitsTo x _ n).2 ⟨i, h1, rfl, h2⟩
    obtain ⟨j, hj, e⟩ := List.mem_iff_getElem.1 hm
    exact ⟨j, hj, by rw [nth_getElem hj, e]⟩

variable {P M : Int} {mod : List Int} {n : Nat} {L : List (List Int)}

theorem dimS_bd (O : FOps) (L : List (List Int)) (N x : Nat) : -(L.length : Int) ≤ dimS O L N x ∧ dimS O L N x ≤ N + N := by
  have h1 := grS_len O L (bitsTo x N)
  have h2 := grS_len O L (bitsTo (cplU x) N)
  have h3 := bitsTo_len x N
  have h4 := bitsTo_len (cplU x) N
  unfold dimS
  omega

theorem steps_law (hE : codeE P M mod n L = 0) (x y p : Nat) (hy : ∀ i, i < n → (y.testBit i = true ↔ x.testBit i = true ∨ i = p)) (hp : p < n) :
    dimS (tblOf P M.toNat mod).ops L n x ≤ dimS (tblOf P M.toNat mod).ops L n y + 1 ∧ dimS (tblOf P M.toNat mod).ops L n y ≤ dimS (tblOf P M.toNat mod).ops L n x + 1 := by
  obtain ⟨n', e, _, hn, F, hR⟩ := codeE_fld hE
  obtain rfl : n = n' := by omega
  have hC := col_clo F hR
  obtain ⟨l1, l1', r1, r1', d1, k1, k1', m1, m1'⟩ := dimS_rk F hR x n hn
  obtain ⟨l2, l2', r2, r2', d2, k2, k2', m2, m2'⟩ := dimS_rk F hR y n hn
  by_cases hx : x.testBit p = true
  · have e1 := Rk.same hC k1 k2 fun i => by
      rw [m1, m2]
      exact ⟨fun ⟨h1, h2⟩ => ⟨h1, (hy i h1).2 (.inl h2)⟩, fun ⟨h1, h2⟩ => ⟨h1, by rcases (hy i h1).1 h2 with h | rfl; exact h; exact hx⟩⟩
    have e2 := Rk.same hC k1' k2' fun i => by
      rw [m1', m2']
      exact ⟨fun ⟨h1, h2⟩ => ⟨h1, fun h => by rcases (hy i h1).1 h with h | rfl; exact h2 h; exact h2 hx⟩, fun ⟨h1, h2⟩ => ⟨h1, fun h => h2 ((hy i h1).2 (.inl h))⟩⟩
    rw [d1, d2, e1, e2]; omega
  · have e1 := Rk.one_more hC k1 k2 (p := p) fun i => by
      rw [m1, m2]
      constructor
      · rintro ⟨h1, h2⟩
        rcases (hy i h1).1 h2 with h | h
        · exact .inl ⟨h1, h⟩
        · exact .inr h
      · rintro (⟨h1, h2⟩ | rfl)
        · exact ⟨h1, (hy i h1).2 (.inl h2)⟩
        · exact ⟨hp, (hy i hp).2 (.inr rfl)⟩
    have e2 := Rk.one_more hC k2' k1' (p := p) fun i => by
      rw [m1', m2']
      constructor
      · rintro ⟨h1, h2⟩
        by_cases e : i = p
        · exact .inr e
        · exact .inl ⟨h1, fun h => by rcases (hy i h1).1 h with h | h; exact h2 h; exact e h⟩
      · rintro (⟨h1, h2⟩ | rfl)
        · exact ⟨h1, fun h => h2 ((hy i h1).2 (.inl h))⟩
        · exact ⟨hp, hx⟩
    rw [d1, d2]; omega

theorem modular_law (hE : codeE P M mod n L = 0) (s t u v : Nat) (hu : ∀ i, i < n → (u.testBit i = true ↔ s.testBit i = true ∨ t.testBit i = true)) (hv : ∀ i, i < n → (v.testBit i = true ↔ s.testBit i = true ∧ t.testBit i = true)) :
    dimS (tblOf P M.toNat mod).ops L n u + dimS (tblOf P M.toNat mod).ops L n v ≤ dimS (tblOf P M.toNat mod).ops L n s + dimS (tblOf P M.toNat mod).ops L n t := by
  obtain ⟨n', e, _, hn, F, hR⟩ := codeE_fld hE
  obtain rfl : n = n' := by omega
  have hC := col_clo F hR
  obtain ⟨ls, ls', rs, rs', ds, ks, ks', ms, ms'⟩ := dimS_rk F hR s n hn
  obtain ⟨lt, lt', rt, rt', dt, kt, kt', mt, mt'⟩ := dimS_rk F hR t n hn
  obtain ⟨lu, lu', ru, ru', du, ku, ku', mu, mu'⟩ := dimS_rk F hR u n hn
  obtain ⟨lv, lv', rv, rv', dv, kv, kv', mv, mv'⟩ := dimS_rk F hR v n hn
  have e1 := Rk.modular hC ks kt ku kv
    (fun i hi => by
      obtain ⟨h1, h2⟩ := (mu i).1 hi
      rcases (hu i h1).1 h2 with h | h
      · exact .inl ((ms i).2 ⟨h1, h⟩)
      · exact .inr ((mt i).2 ⟨h1, h⟩))
    (fun i hi => by
      obtain ⟨h1, h2⟩ := (mv i).1 hi
      obtain ⟨h3, h4⟩ := (hv i h1).1 h2
      exact ⟨(ms i).2 ⟨h1, h3⟩, (mt i).2 ⟨h1, h4⟩⟩)
  have e2 := Rk.modular hC ks' kt' kv' ku'
    (fun i hi => by
      obtain ⟨h1, h2⟩ := (mv' i).1 hi
      by_cases h : s.testBit i = true
      · exact .inr ((mt' i).2 ⟨h1, fun h3 => h2 ((hv i h1).2 ⟨h, h3⟩)⟩)
      · exact .inl ((ms' i).2 ⟨h1, h⟩))
    (fun i hi => by
      obtain ⟨h1, h2⟩ := (mu' i).1 hi
      exact ⟨(ms' i).2 ⟨h1, fun h => h2 ((hu i h1).2 (.inl h))⟩, (mt' i).2 ⟨h1, fun h => h2 ((hu i h1).2 (.inr h))⟩⟩)
  rw [ds, dt, du, dv]; omega
end

/- The walks of the reference of layer 48: Pick, rank, Others. -/
section
open Go.RowKit

/-- positions within n -/
def InN (n : Nat) (Q : List Int) : Prop := ∀ j, j < Q.length → 0 ≤ nth Q j ∧ nth Q j < n

set_option maxRecDepth 100000 in
set_option maxHeartbeats 1600000 in
theorem rPick_any (av : Option Addr) (nv cv : Nat) (v : List Int) (ao : Option Addr) (no co : Nat) (Q : List Int) (w : World) (hv : Ints w av nv v) (hq : Ints w ao no Q) (hQ : InN nv Q) (hno : no ≤ 1000000) :
    Calls Tryz.prog 23 #[.slice av nv cv, .slice ao no co] w (NewInts w (pickL Q v)) := by
  have Hql := Lib.hid hq.len
  have hplq := hq.pl
  have hplv := hv.pl
  have hmq := hq.max
  have hmv := hv.max
  have HQ := Lib.hid hQ
  have hpk : (pickL Q v).length = no := by rw [pickL, List.length_map]; exact Hql.out
  have Hpk := Lib.hid hpk
  unfold maxLen at hmq hmv
  clear hQ hpk
  go_enter Tryz.func23, Tryz.ntmps23
  go_wp2_with (at_make; refine wpList_mk rfl _ _ 22 3 rfl (.int .i64 0) 8 Tryz.underlying22 infoInt rfl no rfl rfl (by omega) (hq.max) ?_; intro a1 w1 hown hbel hge hlt)
  go_loopw [6] (fun iv wr => ∃ k : Nat, k ≤ no ∧ iv = .int .i64 k ∧
      wr.ownsRow w.heap.size 3 1 (.slice a1 no no) no ((fillTo ((pickL Q v).take k) k no).map (Value.int .i64)) ∧ Below w.heap.size w wr)
    (fun i _ => no - (intOf i).toNat)
  case atStart => exact ⟨0, Nat.zero_le _, rfl, by simpa [fillTo] using hown, hbel⟩
  case round =>
    clear hown hbel
    obtain ⟨k, hk, rfl, hown, hbel⟩ := hrel
    obtain ⟨hints, hmine⟩ := Ints.own hown
    have hpl1 := hints.pl
    by_cases hlt : k < no
    · have cq := (hq.keep hbel).cell k hlt
      have hb := HQ.out k (by rw [Hql.out]; exact hlt)
      obtain ⟨z, hz⟩ : ∃ z : Nat, nth Q k = z := ⟨(nth Q k).toNat, by omega⟩
      have hzn : z < nv := by omega
      have cz := (hv.keep hbel).cell z hzn
      have hf := (hmine (by omega)).2 k hlt
      have hc2 := hints.cell k hlt
      have hB := (hmine (by omega)).1
      have Hv : Hid (nth (pickL Q v) k = nth v z) := by show _ = _; rw [nth_pickL Q v (by rw [Hql.out]; exact hlt), hz, Int.toNat_natCast]
      rw [hz] at cq
      clear hz hb
      go_wp2_with fail
      go_roundw
      case rel =>
        refine ⟨k + 1, by omega, by go_num, ?_, hbel.setCell hB _⟩
        have h := own_set hown k hlt (.int .i64 (nth v z))
        rw [← List.map_set, fillTo_set _ _ _ _ (by rw [List.length_take, Hpk.out]; omega) hlt] at h
        rw [List.take_succ_eq_append_getElem (by rw [Hpk.out]; omega), ← nth_getElem, Hv.out]
        exact h
      case measure => simp [intOf] <;> omega
    · obtain rfl : k = no := by omega
      have hfin : fillTo ((pickL Q v).take k) k k = pickL Q v := by rw [fillTo_all, List.take_of_length_le (by rw [Hpk.out]; exact Nat.le_refl _)]
      rw [hfin] at hown
      clear hfin
      go_wp2_with fail
      go_ret
      exact ⟨a1, k, by rw [Hpk.out]; rfl, by rw [Hpk.out]; exact hown, hbel⟩

theorem OMat.lit (w : World) {B : Nat} (hB : B ≤ w.heap.size) : OMat (w.alloc (.cells #[] 22)) B (some ⟨w.heap.size, 0, none⟩) 0 0 [] [] :=
  ⟨rfl, rfl, own_mono (own_emp w 22) hB, fun i hi => by omega, fun i hi => by omega, fun i j hi => by omega⟩
theorem nthR_map (f : List Int → List Int) (L : List (List Int)) {k : Nat} (hk : k < L.length) : nthR (L.map f) k = f (nthR L k) := by
  rw [nthR_getElem (by simpa using hk), nthR_getElem hk]; simp

/-- the number of independent columns at the positions of Q, as the program counts them -/
theorem pick_gr {P M : Int} {mod : List Int} {N : Nat} {L : List (List Int)} (hE : codeE P M mod N L = 0) {Q : List Int} (hQ : InN N Q) :
    (elimTo (rops P M.toNat mod) (L.map (pickL Q)) Q.length).2.length = (grS (tblOf P M.toNat mod).ops L (bitsTo (maskS Q) N)).length := by
  obtain ⟨n', e, _, hn, F, hR⟩ := codeE_fld hE
  obtain rfl : N = n' := by omega
  obtain ⟨k, rfl, he, _, hF, hA, _⟩ := eq_ops (codeE_zero hE).1
  rw [Int.toNat_natCast] at *
  have hP := pick_rws hR hQ
  have hR2 : Rws (ElP P k) Q.length (L.map (pickL Q)) := by rw [he]; exact hP
  rw [← (elimTo_agr hA hF.cl hR2 _ (Nat.le_refl _)).1]
  refine Rk.same (col_clo F hR) (pick_rk F hR hQ) (grS_rk F hR _) fun x => ?_
  rw [mem_grBits, maskS, maskTo_test Q.length (fun j hj => by have := hQ j hj; omega), List.mem_map]
  constructor
  · rintro ⟨j, hj, rfl⟩
    have hj := List.mem_range.1 hj
    have := hQ j hj
    exact ⟨by omega, j, hj, by omega⟩
  · rintro ⟨_, j, hj, e⟩
    exact ⟨j, List.mem_range.2 hj, by omega⟩

set_option maxRecDepth 100000 in
set_option maxHeartbeats 3200000 in
theorem rRank48_any (P M : Int) (am : Option Addr) (mn cm : Nat) (mod : List Int) (N : Nat) (a : Option Addr) (n c : Nat) (L : List (List Int)) (ao : Option Addr) (no co : Nat) (Q : List Int) (w : World)
    (hmod : Ints w am mn mod) (hi : Mat w a n L) (hE : codeE P M mod N L = 0) (hq : Ints w ao no Q) (hQ : InN N Q) (hno : no ≤ 64) :
    Calls Tryz.prog 105 #[.agg #[.int .i64 P, .int .i64 M, .slice am mn cm, .int .i64 N, .slice a n c], .slice ao no co] w
      fun e w' => e = .returned (.int .i64 (grS (tblOf P M.toNat mod).ops L (bitsTo (maskS Q) N)).length) ∧ Below w.heap.size w w' := by
  have Hql := Lib.hid hq.len
  have Hlen := Lib.hid hi.len
  have hplq := hq.pl
  have hpl := hi.pl
  obtain ⟨N', e, hN1, hN64, F, hR⟩ := codeE_fld hE
  obtain rfl : N = N' := by omega
  have hL256 := (codeE_rws hE).choose_spec.2.2.2.1
  have hn : n ≤ 256 := by rw [← hi.len]; exact hL256
  have hgr := pick_gr hE hQ
  rw [← hgr]
  have hB := (codeE_zero hE).1
  obtain ⟨m, rfl, hel, _, hF, hA, _⟩ := eq_ops hB
  rw [Int.toNat_natCast] at *
  obtain ⟨m', e2, hrf, hmods⟩ := fieldRB_rf (by rw [fieldRB_eq]; exact hB)
  obtain rfl : m = m' := by omega
  have hLl : ∀ r ∈ L, r.length = N := fun r hr => (hR r hr).1
  have HLl := Lib.hid hLl
  have HQ := Lib.hid hQ
  have hP2 : Rws (ElP P m) no (L.map (pickL Q)) := by rw [hel, ← Hql.out]; exact pick_rws hR hQ
  have hinv := hinv_all (P := P) (M := m) (mod := mod) (by rw [fieldRB_eq]; exact hB)
  rw [Int.toNat_natCast] at hinv
  have HC : Hid (∀ V a1 c1, Below w.heap.size w V → Mat V a1 n (L.map (pickL Q)) → Calls Tryz.prog 111 #[.agg #[.int .i64 P, .int .i64 m, .slice am mn cm], .slice a1 n c1, .int .i64 no] V (RCanonPost (rops P m mod) (L.map (pickL Q)) no V)) :=
    fun V a1 c1 hV hM => rCanon_any P m am mn cm mod a1 n c1 no (L.map (pickL Q)) V ⟨hrf, hmods V am mn (hmod.keep hV)⟩ hM hP2 (by omega) (by omega) hinv
  have hpl2 := elimTo_piv (rops P m mod) (L.map (pickL Q)) no
  have Hpl2 := Lib.hid hpl2
  rw [Hql.out]
  clear hE hgr hB hel hF hA hrf hmods hLl hQ hP2 hinv F hR hL256 e2 e hpl2
  obtain ⟨L2, hL2⟩ : ∃ L2, L.map (pickL Q) = L2 := ⟨_, rfl⟩
  have HL2 := Lib.hid hL2
  have hl2 : L2.length = n := by rw [← hL2, List.length_map]; exact Hlen.out
  have Hl2 := Lib.hid hl2
  have HLk : Hid (∀ k, k < n → nthR L2 k = pickL Q (nthR L k)) := fun k hk => by rw [← hL2]; exact nthR_map _ L (by rw [Hlen.out]; exact hk)
  rw [hL2] at HC Hpl2 ⊢
  clear hL2 hl2
  generalize rops P m mod = O at *
  obtain ⟨r, hr⟩ : ∃ r, (elimTo O L2 no).2.length = r := ⟨_, rfl⟩
  have Hr := Lib.hid hr
  rw [hr] at Hpl2 ⊢
  clear hr
  go_enter Tryz.func105, Tryz.ntmps105
  go_wp2_with fail
  obtain ⟨W, hW⟩ : ∃ W : World, W = w.alloc (.cells #[.int .i64 P, .int .i64 m, .slice am mn cm, .int .i64 N, .slice a n c] 27) := ⟨_, rfl⟩
  have hsW : w.heap.size + 1 = W.heap.size := by rw [hW]; simp
  rw [← hW]
  try rw [hsW]
  have hbW : Below w.heap.size w W := by rw [hW]; exact below1 _ _
  have x0 : Box W w.heap.size [.int .i64 P, .int .i64 m, .slice am mn cm, .int .i64 N, .slice a n c] := by rw [hW]; exact Box.new _ _ _ rfl
  have HX := Lib.hid x0
  have hO0 := OMat.lit W (B := W.heap.size) (Nat.le_refl _)
  have hb0 := below1 W (.cells #[] 22)
  have hiW := hi.keep hbW
  have hqW := hq.keep hbW
  clear hW x0 hsW
  go_loopw [5, 6] (fun sv iv wr => ∃ (k : Nat) (a1 : Option Addr) (c1 : Nat), k ≤ n ∧ iv = .int .i64 k ∧ sv = .slice a1 k c1 ∧ (∃ R, OMat wr W.heap.size a1 k c1 R (L2.take k)) ∧ Below W.heap.size W wr) (fun _ iv _ => n - (intOf iv).toNat)
  case atStart => exact ⟨0, _, _, Nat.zero_le _, rfl, rfl, ⟨[], by simpa using hO0⟩, hb0⟩
  case round =>
    clear hO0 hb0
    obtain ⟨k, a1, c1, hk, rfl, rfl, ⟨R, hO⟩, hbr⟩ := hrel
    have xr := HX.out.keep hbr
    have c4 := xr.cell 4 rfl
    by_cases hlt : k < n
    · obtain ⟨ra, rn, rc, hcell, hrow⟩ := (hiW.keep hbr).cell k hlt
      have hkL : k < L.length := by rw [Hlen.out]; exact hlt
      have hrl : rn = N := by rw [← hrow.len, nthR_getElem hkL]; exact HLl.out _ (List.getElem_mem hkL)
      have Htk : Hid (L2.take (k + 1) = L2.take k ++ [pickL Q (nthR L k)]) := by show _ = _; rw [List.take_succ_eq_append_getElem (by rw [Hl2.out]; exact hlt), ← HLk.out k hlt, nthR_getElem (by rw [Hl2.out]; exact hlt)]
      obtain ⟨l, hl⟩ : ∃ l, nthR L k = l := ⟨_, rfl⟩
      rw [hl] at Htk hrow
      have hpk := rPick_any ra rn rc l ao no co Q wr hrow (hqW.keep hbr) (by rw [hrl]; exact HQ.out) (by omega)
      have hsz := hbr.size
      clear hl hrl xr
      go_wp2_with fail
      refine hpk.mono ?_
      rintro e w3 ⟨a3, c3, rfl, hown3, hb3⟩
      have hO3 := hO.keep (Below.next hb3 (below1 w3 (.cells #[.slice a3 (pickL Q l).length c3] 22)))
      have hs3 : W.heap.size ≤ (w3.alloc (.cells #[.slice a3 (pickL Q l).length c3] 22)).heap.size := by have h1 := hb3.size; simp; omega
      clear hpk
      go_wp2_with (at_builtin; refine wpList_push rfl _ _ 25 22 rfl (.slice none 0 0) 24 Tryz.underlying25 infoInts rfl W.heap.size a1 k c1 _ rfl hO3.own ⟨w3.heap.size, 0, none⟩ 1 (.slice a3 (pickL Q l).length c3) rfl (cell_new w3 _ _) rfl (by omega) (by unfold maxLen; omega) hs3 ?_; intro a5 c5 w5 hown5 hgr5 hap5)
      go_roundw
      case rel =>
        have hb4 : Below wr.heap.size wr (w3.alloc (.cells #[.slice a3 (pickL Q l).length c3] 22)) := Below.next hb3 (below1 _ _)
        have hown4 : (w3.alloc (.cells #[.slice a3 (pickL Q l).length c3] 22)).ownsRow W.heap.size 3 1 (.slice a3 (pickL Q l).length c3) (pickL Q l).length ((pickL Q l).map (Value.int .i64)) :=
          own_mono (own_keep hown3 (below1 _ _)) hsz
        have hra : a3 ≠ none → ¬ OIn a1 R (ablk a3) := fun h0 hI => by
          have h1 := (own_ne hown3 h0).1
          have h2 := (hO.lt _ hI).2
          omega
        have hP := OMat.push hO3 hown4 hra hown5 hgr5 hap5
        have hb5 : Below W.heap.size W w5 := Below.app (Below.next hbr hb4) hO3.own hgr5 (Nat.le_refl _) (Nat.le_trans hsz hb4.size)
        exact ⟨k + 1, a5, c5, by omega, by go_num, rfl, ⟨_, by rw [Htk.out]; exact hP⟩, hb5⟩
      case measure => simp [intOf] <;> omega
    · obtain rfl : k = n := by omega
      rw [List.take_of_length_le (by rw [Hl2.out]; exact Nat.le_refl _)] at hO
      have c0 := xr.cell 0 rfl
      have c1' := xr.cell 1 rfl
      have c2 := xr.cell 2 rfl
      have Hcc := Lib.hid (HC.out wr a1 c1 (Below.next hbW hbr) hO.mat)
      have hbwr := Below.next hbW hbr
      clear HC xr hO
      go_wp2_with fail
      refine Hcc.out.mono ?_
      rintro e w4 ⟨a4, c4', ap, cp, rfl, hM4, hp4, hb4⟩
      have hF := Below.next hbwr hb4
      have hle := Hpl2.out.1
      rw [Hr.out]
      clear hM4 hp4 Hcc Hpl2 Hr
      go_wp2_with fail
      go_ret
      exact ⟨rfl, hF⟩
end

end Go.Proofs.YtakmnncmeefceaaGreat
