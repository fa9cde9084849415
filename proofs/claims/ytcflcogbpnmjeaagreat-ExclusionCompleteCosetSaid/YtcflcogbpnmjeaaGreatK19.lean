/- The family of a code (plain law): the rounds. -/
import Derived.Test.YtcflcogbpnmjeaaGreatK17
import Derived.Test.YtcflcogbpnmjeaaGreatK16
import Derived.Test.YtcflcogbpnmjeaaGreatK18
import Derived.Test.YtcflcogbpnmjeaaGreatK10
import Derived.Test.YtcflcogbpnmjeaaGreatK9
import Derived.Test.YtcflcogbpnmjeaaGreatK11
namespace Go.Proofs.YtcflcogbpnmjeaaGreat
set_option linter.unusedVariables false
set_option linter.unusedSimpArgs false
set_option linter.unusedSectionVars false

/- The walks of the references: SameInts, SameRows, Entries of layer 9, IsSubset of layer 11. -/
section
open Go.RowKit

set_option maxHeartbeats 800000 in
theorem rSameInts_any (a : Option Addr) (n c : Nat) (l : List Int) (a' : Option Addr) (n' c' : Nat) (l' : List Int) {w : World} (h : Ints w a n l) (h' : Ints w a' n' l') :
    Calls Tryz.prog 32 #[.slice a n c, .slice a' n' c'] w (QuietBool w (decide (l = l'))) := by
  have Hl := Lib.hid h.len
  have Hl' := Lib.hid h'.len
  have hpl := h.pl
  have hpl' := h'.pl
  have hmax := h.max
  unfold maxLen at hmax
  by_cases hn : n = n'
  · subst hn
    have hnn : ((n : Int) != n) = false := by simp
    go_enter Tryz.func32, Tryz.ntmps32
    go_wp2_with fail
    go_loopw [5] (fun iv wr => ∃ k : Nat, k ≤ n ∧ iv = .int .i64 k ∧ Hid (l.take k = l'.take k) ∧ Drawn w wr) (fun i _ => n - (intOf i).toNat)
    case atStart => exact ⟨0, Nat.zero_le _, rfl, rfl, Drawn.refl _⟩
    case round =>
      obtain ⟨k, hk, rfl, htk, hd⟩ := hrel
      by_cases hlt : k < n
      · have c1 := (h.drawn hd).cell k hlt
        have c2 := (h'.drawn hd).cell k hlt
        by_cases he : nth l k = nth l' k
        · have he' : (nth l k != nth l' k) = false := by simpa using he
          have Hs : Hid (l.take (k + 1) = l'.take (k + 1)) := nth_take_eq htk.out (by rw [Hl.out]; exact hlt) (by rw [Hl'.out]; exact hlt) he
          clear he
          go_wp2_with fail
          go_quiet (fail)
          go_wp2
          go_roundw
          case rel => exact ⟨k + 1, by omega, by go_num, Hs.out, hd.drewN _⟩
          case measure => simp [intOf] <;> omega
        · have he' : (nth l k != nth l' k) = true := by simpa using he
          have Hs : Hid (decide (l = l') = false) := by
            show _ = _; simp; intro e; exact he (by rw [e])
          clear he
          go_wp2_with fail
          go_quiet (fail)
          go_wp2
          go_ret
          exact ⟨ret_bool Hs.out.symm, hd.drewN _⟩
      · obtain rfl : k = n := by omega
        have Hs : Hid (decide (l = l') = true) := by
          show _ = _
          have := htk.out
          rw [List.take_of_length_le (by rw [Hl.out]; exact Nat.le_refl _), List.take_of_length_le (by rw [Hl'.out]; exact Nat.le_refl _)] at this
          simpa using this
        go_wp2_with fail
        go_ret
        exact ⟨ret_bool Hs.out.symm, hd⟩
  · have hnn : ((n : Int) != n') = true := by simp; omega
    have Hs : Hid (decide (l = l') = false) := by
      show _ = _; simp; intro e; have e1 := Hl.out; have e2 := Hl'.out; rw [e] at e1; omega
    clear hn
    go_enter Tryz.func32, Tryz.ntmps32
    go_wp2_with fail
    go_ret
    exact ⟨ret_bool Hs.out.symm, Drawn.refl _⟩

set_option maxHeartbeats 800000 in
theorem rSameRows_any (a : Option Addr) (n c : Nat) (l : List (List Int)) (a' : Option Addr) (n' c' : Nat) (l' : List (List Int)) {w : World} (h : Mat w a n l) (h' : Mat w a' n' l') :
    Calls Tryz.prog 55 #[.slice a n c, .slice a' n' c'] w (QuietBool w (decide (l = l'))) := by
  have Hl := Lib.hid h.len
  have Hl' := Lib.hid h'.len
  have hpl := h.pl
  have hpl' := h'.pl
  have hmax := h.max
  unfold maxLen at hmax
  by_cases hn : n = n'
  · subst hn
    have hnn : ((n : Int) != n) = false := by simp
    go_enter Tryz.func55, Tryz.ntmps55
    go_wp2_with fail
    go_loopw [5] (fun iv wr => ∃ k : Nat, k ≤ n ∧ iv = .int .i64 k ∧ Hid (l.take k = l'.take k) ∧ Drawn w wr) (fun i _ => n - (intOf i).toNat)
    case atStart => exact ⟨0, Nat.zero_le _, rfl, rfl, Drawn.refl _⟩
    case round =>
      obtain ⟨k, hk, rfl, htk, hd⟩ := hrel
      by_cases hlt : k < n
      · obtain ⟨b1, n1, d1, c1, i1⟩ := (h.drawn hd).cell k hlt
        obtain ⟨b2, n2, d2, c2, i2⟩ := (h'.drawn hd).cell k hlt
        have Hc := Lib.hid (rSameInts_any b1 n1 d1 _ b2 n2 d2 _ (i1.drawn (Drawn.refl wr).drew) (i2.drawn (Drawn.refl wr).drew))
        by_cases he : nthR l k = nthR l' k
        · have he' : decide (nthR l k = nthR l' k) = true := by simpa using he
          have Hs : Hid (l.take (k + 1) = l'.take (k + 1)) := nthR_take_eq htk.out (by rw [Hl.out]; exact hlt) (by rw [Hl'.out]; exact hlt) he
          rw [he'] at Hc
          clear he he'
          go_wp2_with fail
          go_region_held3 (fun V => V.cell? ⟨ablk a, aoff a + k, none⟩ = some (.slice b1 n1 d1) ∧ V.cell? ⟨ablk a', aoff a' + k, none⟩ = some (.slice b2 n2 d2)) (exact ⟨c1, c2⟩)
            (first | (go_at_call 32; ((with_reducible refine Hc.out.mono ?_); rintro e w4 ⟨rfl, m4, rfl⟩)))
          go_wp2_with fail
          go_roundw
          case rel => exact ⟨k + 1, by omega, by go_num, Hs.out, hd.drewN (1 + m4)⟩
          case measure => simp [intOf] <;> omega
        · have he' : decide (nthR l k = nthR l' k) = false := by simpa using he
          have Hs : Hid (decide (l = l') = false) := by
            show _ = _; simp; intro e; exact he (by rw [e])
          rw [he'] at Hc
          clear he he'
          go_wp2_with fail
          go_region_held3 (fun V => V.cell? ⟨ablk a, aoff a + k, none⟩ = some (.slice b1 n1 d1) ∧ V.cell? ⟨ablk a', aoff a' + k, none⟩ = some (.slice b2 n2 d2)) (exact ⟨c1, c2⟩)
            (first | (go_at_call 32; ((with_reducible refine Hc.out.mono ?_); rintro e w4 ⟨rfl, m4, rfl⟩)))
          go_wp2_with fail
          go_ret
          exact ⟨ret_bool Hs.out.symm, hd.drewN (1 + m4)⟩
      · obtain rfl : k = n := by omega
        have Hs : Hid (decide (l = l') = true) := by
          show _ = _
          have := htk.out
          rw [List.take_of_length_le (by rw [Hl.out]; exact Nat.le_refl _), List.take_of_length_le (by rw [Hl'.out]; exact Nat.le_refl _)] at this
          simpa using this
        go_wp2_with fail
        go_ret
        exact ⟨ret_bool Hs.out.symm, hd⟩
  · have hnn : ((n : Int) != n') = true := by simp; omega
    have Hs : Hid (decide (l = l') = false) := by
      show _ = _; simp; intro e; have e1 := Hl.out; have e2 := Hl'.out; rw [e] at e1; omega
    clear hn
    go_enter Tryz.func55, Tryz.ntmps55
    go_wp2_with fail
    go_ret
    exact ⟨ret_bool Hs.out.symm, Drawn.refl _⟩

set_option maxRecDepth 100000 in
set_option maxHeartbeats 1600000 in
theorem rEntries_any (P M : Int) (am : Option Addr) (mn cm : Nat) (a : Option Addr) (n c : Nat) (l : List Int) (w : World) (hi : Ints w a n l) :
    Calls Tryz.prog 62 #[.agg #[.int .i64 P, .int .i64 M, .slice am mn cm], .slice a n c] w fun e w' => e = .returned (.int .i64 (elsE (orderS P M) l)) ∧ Below w.heap.size w w' := by
  have Hlen := Lib.hid hi.len
  have hpl := hi.pl
  have hmax := hi.max
  unfold maxLen at hmax
  go_enter Tryz.func62, Tryz.ntmps62
  go_wp2_with fail
  obtain ⟨W, hW⟩ : ∃ W : World, W = w.alloc (.cells #[.int .i64 P, .int .i64 M, .slice am mn cm] 24) := ⟨_, rfl⟩
  rw [← hW]
  have hbW : Below w.heap.size w W := by rw [hW]; exact below1 _ _
  have x0 : Box W w.heap.size [.int .i64 P, .int .i64 M, .slice am mn cm] := by rw [hW]; exact Box.new _ _ _ rfl
  have hiW := hi.keep hbW
  have hS : ∀ k, k < n → ∀ V, Below W.heap.size W V → V.cell? ⟨w.heap.size, 0, none⟩ = some (.int .i64 P) ∧ V.cell? ⟨w.heap.size, 1, none⟩ = some (.int .i64 M) ∧ V.cell? ⟨w.heap.size, 2, none⟩ = some (.slice am mn cm) ∧ V.cell? ⟨ablk a, aoff a + k, none⟩ = some (.int .i64 (nth l k)) ∧ Below W.heap.size W V := by
    intro k hk V hV
    have x1 := x0.keep hV
    exact ⟨x1.cell 0 rfl, x1.cell 1 rfl, x1.cell 2 rfl, (hiW.keep hV).cell k hk, hV⟩
  have HS := Lib.hid hS
  clear hW x0 hS
  go_loopw [5] (fun iv wr => ∃ k : Nat, k ≤ n ∧ iv = .int .i64 k ∧ Hid ((l.take k).all (isQ (orderS P M)) = true) ∧ Below W.heap.size W wr) (fun iv _ => n - (intOf iv).toNat)
  case atStart => exact ⟨0, Nat.zero_le _, rfl, by show _ = _; simp, Below.refl _ _⟩
  case round =>
    obtain ⟨k, hk, rfl, hall, hbr⟩ := hrel
    by_cases hlt : k < n
    · have HSk : Hid (∀ V, Below W.heap.size W V → V.cell? ⟨w.heap.size, 0, none⟩ = some (.int .i64 P) ∧ V.cell? ⟨w.heap.size, 1, none⟩ = some (.int .i64 M) ∧ V.cell? ⟨w.heap.size, 2, none⟩ = some (.slice am mn cm) ∧ V.cell? ⟨ablk a, aoff a + k, none⟩ = some (.int .i64 (nth l k)) ∧ Below W.heap.size W V) := HS.out k hlt
      have hkl : k < l.length := by rw [Hlen.out]; exact hlt
      have Hbr := Lib.hid hbr
      have Hq := Lib.hid (rIs_any P M am mn cm (nth l k))
      clear hbr
      by_cases hq : isQ (orderS P M) (nth l k) = true
      · have Hs : Hid ((l.take (k + 1)).all (isQ (orderS P M)) = true) := all_take_succ hkl hall.out (by rw [← nth_getElem hkl]; exact hq)
        rw [hq] at Hq
        clear hq
        go_wp2_with fail
        go_region_held3 (fun V => V.cell? ⟨w.heap.size, 0, none⟩ = some (.int .i64 P) ∧ V.cell? ⟨w.heap.size, 1, none⟩ = some (.int .i64 M) ∧ V.cell? ⟨w.heap.size, 2, none⟩ = some (.slice am mn cm) ∧ V.cell? ⟨ablk a, aoff a + k, none⟩ = some (.int .i64 (nth l k)) ∧ Below W.heap.size W V)
          ((refine HSk.out _ ?_; first | exact Hbr.out.drew | exact Below.next Hbr.out.drew hb4))
          (first | (go_at_call 113; ((with_reducible refine (Hq.out _).mono ?_); rintro e w4 ⟨rfl, hb4⟩)))
        go_wp2_with fail
        go_roundw
        case rel => exact ⟨k + 1, by omega, by go_num, Hs.out, Below.next Hbr.out.drew hb4⟩
        case measure => simp [intOf] <;> omega
      · have hq' : isQ (orderS P M) (nth l k) = false := by simpa using hq
        have Hs : Hid (elsE (orderS P M) l = 2) := by show _ = _; rw [elsE, elsQ, all_false_at hkl (by rw [← nth_getElem hkl]; exact hq')]; rfl
        rw [hq'] at Hq
        clear hq hq'
        go_wp2_with fail
        go_region_held3 (fun V => V.cell? ⟨w.heap.size, 0, none⟩ = some (.int .i64 P) ∧ V.cell? ⟨w.heap.size, 1, none⟩ = some (.int .i64 M) ∧ V.cell? ⟨w.heap.size, 2, none⟩ = some (.slice am mn cm) ∧ V.cell? ⟨ablk a, aoff a + k, none⟩ = some (.int .i64 (nth l k)) ∧ Below W.heap.size W V)
          ((refine HSk.out _ ?_; first | exact Hbr.out.drew | exact Below.next Hbr.out.drew hb4))
          (first | (go_at_call 113; ((with_reducible refine (Hq.out _).mono ?_); rintro e w4 ⟨rfl, hb4⟩)))
        go_wp2_with fail
        go_ret
        exact ⟨ret_int Hs.out.symm, Below.next hbW (Below.next Hbr.out.drew hb4)⟩
    · obtain rfl : k = n := by omega
      have Hs : Hid (elsE (orderS P M) l = 0) := by
        have := hall.out
        rw [List.take_of_length_le (by rw [Hlen.out]; exact Nat.le_refl _)] at this
        show _ = _; rw [elsE, elsQ, this]; rfl
      go_wp2_with fail
      go_ret
      exact ⟨ret_int Hs.out.symm, Below.next hbW hbr⟩
end

/- The walks of the references: Check of layer 9. -/
section
open Go.RowKit

def rmatE (P M : Int) (mod : List Int) (cols : Int) (L : List (List Int)) : Int := if fieldRB P M mod = true then matE (orderS P M) cols L else 1

set_option maxRecDepth 100000 in
set_option maxHeartbeats 4000000 in
theorem rMatCheck_any (P M : Int) (am : Option Addr) (mn cm : Nat) (mod : List Int) (cols : Int) (a : Option Addr) (n c : Nat) (L : List (List Int)) (w : World) (hmod : Ints w am mn mod) (hi : Mat w a n L) :
    Calls Tryz.prog 141 #[.agg #[.int .i64 P, .int .i64 M, .slice am mn cm], .agg #[.int .i64 cols, .slice a n c]] w fun e w' => e = .returned (.int .i64 (rmatE P M mod cols L)) ∧ Below w.heap.size w w' := by
  have Hlen := Lib.hid hi.len
  have hpl := hi.pl
  have hmax := hi.max
  unfold maxLen at hmax
  go_enter Tryz.func141, Tryz.ntmps141
  go_wp2_with fail
  obtain ⟨W, hW⟩ : ∃ W : World, W = (w.alloc (.cells #[.int .i64 P, .int .i64 M, .slice am mn cm] 24)).alloc (.cells #[.int .i64 cols, .slice a n c] 73) := ⟨_, rfl⟩
  rw [← hW]
  have hbW : Below w.heap.size w W := by rw [hW]; exact below2 _ _ _
  have x0 : Box W w.heap.size [.int .i64 P, .int .i64 M, .slice am mn cm] := by rw [hW]; exact (Box.new _ _ _ rfl).alloc _
  have y0 : Box W (w.heap.size + 1) [.int .i64 cols, .slice a n c] := by rw [hW]; exact Box.new _ _ _ (by simp)
  have hS : ∀ V, Below W.heap.size W V → V.cell? ⟨w.heap.size, 0, none⟩ = some (.int .i64 P) ∧ V.cell? ⟨w.heap.size, 1, none⟩ = some (.int .i64 M) ∧ V.cell? ⟨w.heap.size, 2, none⟩ = some (.slice am mn cm) ∧
      V.cell? ⟨w.heap.size + 1, 0, none⟩ = some (.int .i64 cols) ∧ V.cell? ⟨w.heap.size + 1, 1, none⟩ = some (.slice a n c) ∧ Below W.heap.size W V := by
    intro V hV
    have x1 := x0.keep hV
    have y1 := y0.keep hV
    exact ⟨x1.cell 0 rfl, x1.cell 1 rfl, x1.cell 2 rfl, y1.cell 0 rfl, y1.cell 1 rfl, hV⟩
  have HS := Lib.hid hS
  have hiW := hi.keep hbW
  clear hW x0 y0 hS
  refine (rFieldCheck_any P M am mn cm mod W (hmod.keep hbW)).mono ?_
  rintro e w1 ⟨rfl, hb1⟩
  have hbw1 := Below.next hbW hb1
  by_cases hB : fieldRB P M mod = true
  · have HB : Hid (rmatE P M mod cols L = matE (orderS P M) cols L) := by show _ = _; rw [rmatE, if_pos hB]
    have hE : errField (fieldRB P M mod) = 0 := by rw [hB]; rfl
    rw [hE]
    obtain ⟨q, hq⟩ : ∃ q, orderS P M = q := ⟨_, rfl⟩
    have Hq := Lib.hid hq
    rw [hq] at HB
    obtain ⟨d0, d1, d2, d3, d4, _⟩ := HS.out w1 hb1
    clear hB hE hq
    by_cases b1 : cols < 0
    · have Hf : Hid (rmatE P M mod cols L = 3) := by show _ = _; rw [HB.out, matE, if_pos (.inl b1)]
      have t1 : decide (cols < 0) = true := by simpa using b1
      go_wp2_with fail
      go_ret
      exact ⟨ret_int Hf.out.symm, hbw1⟩
    have t1 : decide (cols < 0) = false := by simpa using b1
    by_cases b2 : 256 < cols
    · have Hf : Hid (rmatE P M mod cols L = 3) := by show _ = _; rw [HB.out, matE, if_pos (.inr (.inl b2))]
      have t2 : decide (256 < cols) = true := by simpa using b2
      go_wp2_with fail
      go_ret
      exact ⟨ret_int Hf.out.symm, hbw1⟩
    have t2 : decide (256 < cols) = false := by simpa using b2
    by_cases b3 : 256 < n
    · have Hf : Hid (rmatE P M mod cols L = 3) := by show _ = _; rw [HB.out, matE, if_pos (.inr (.inr (by rw [Hlen.out]; exact b3)))]
      have t3 : decide (256 < (n : Int)) = true := by simp; omega
      go_wp2_with fail
      go_ret
      exact ⟨ret_int Hf.out.symm, hbw1⟩
    have t3 : decide (256 < (n : Int)) = false := by simp; omega
    have Hm : Hid (rmatE P M mod cols L = if shapeQ cols L = false then 3 else if L.all (elsQ q) then 0 else 2) := by
      show _ = _; rw [HB.out, matE, if_neg (by rw [Hlen.out]; omega)]
    have hi1 := hiW.keep hb1
    clear b1 b2
    go_wp2_with fail
    go_loopw [6] (fun iv wr => ∃ k : Nat, k ≤ n ∧ iv = .int .i64 k ∧ Hid ((L.take k).all (fun r => decide ((r.length : Int) = cols)) = true) ∧ Drawn w1 wr) (fun iv _ => n - (intOf iv).toNat)
    case atStart => exact ⟨0, Nat.zero_le _, rfl, by show _ = _; simp, Drawn.refl _⟩
    case round =>
      obtain ⟨k, hk, rfl, hall, hd⟩ := hrel
      have hir := hi1.drawn hd
      have e3 := hd.cell d3
      have e4 := hd.cell d4
      by_cases hlt : k < n
      · obtain ⟨ra, rn, rc, hcell, hrow⟩ := hir.cell k hlt
        have hkL : k < L.length := by rw [Hlen.out]; exact hlt
        have hrl := hrow.len
        rw [nthR_getElem hkL] at hrl
        have Hrl := Lib.hid hrl
        clear hrl
        by_cases he : (rn : Int) = cols
        · have he' : ((rn : Int) != cols) = false := by simpa using he
          have Hs : Hid ((L.take (k + 1)).all (fun r => decide ((r.length : Int) = cols)) = true) := all_take_succ hkL hall.out (by rw [Hrl.out]; simpa using he)
          clear he
          go_wp2_with fail
          go_quiet (fail)
          go_wp2
          go_roundw
          case rel => exact ⟨k + 1, by omega, by go_num, Hs.out, hd.drewN _⟩
          case measure => simp [intOf] <;> omega
        · have he' : ((rn : Int) != cols) = true := by simpa using he
          have Hs : Hid (rmatE P M mod cols L = 3) := by
            show _ = _; rw [Hm.out, if_pos]
            exact all_false_at hkL (by simp only [Hrl.out]; simpa using he)
          clear he
          go_wp2_with fail
          go_quiet (fail)
          go_wp2
          go_ret
          exact ⟨ret_int Hs.out.symm, Below.next hbw1 (hd.drewN _).below⟩
      · obtain rfl : k = n := by omega
        have Hm2 : Hid (rmatE P M mod cols L = if L.all (elsQ q) then 0 else 2) := by
          have := hall.out; rw [List.take_of_length_le (by rw [Hlen.out]; exact Nat.le_refl _)] at this
          show _ = _; rw [Hm.out, if_neg (by rw [shapeQ, this]; simp)]
        have hbr : Below W.heap.size W wr := Below.next hb1 hd.below
        have hir2 := hir
        clear d0 d1 d2 d3 d4 hall
        go_wp2_with fail
        clear e3 e4
        go_loopw [7] (fun iv wx => ∃ j : Nat, j ≤ k ∧ iv = .int .i64 j ∧ Hid ((L.take j).all (elsQ q) = true) ∧ Below W.heap.size W wx) (fun iv _ => k - (intOf iv).toNat)
        case atStart => exact ⟨0, Nat.zero_le _, rfl, by show _ = _; simp, hbr⟩
        case round =>
          obtain ⟨j, hj, rfl, hall2, hbx⟩ := hrel
          obtain ⟨d0, d1, d2, d3, d4, _⟩ := HS.out _ hbx
          by_cases hlt : j < k
          · have hiX := hiW.keep hbx
            obtain ⟨ra, rn, rc, hcell, hrow⟩ := hiX.cell j hlt
            have hjL : j < L.length := by rw [Hlen.out]; exact hlt
            have HC := Lib.hid (rEntries_any P M am mn cm ra rn rc (nthR L j) _ (hrow.keep (Below.refl _ _).drew))
            have hSj : ∀ V, Below wr.heap.size wr V → V.cell? ⟨w.heap.size, 0, none⟩ = some (.int .i64 P) ∧ V.cell? ⟨w.heap.size, 1, none⟩ = some (.int .i64 M) ∧ V.cell? ⟨w.heap.size, 2, none⟩ = some (.slice am mn cm) ∧
                V.cell? ⟨w.heap.size + 1, 1, none⟩ = some (.slice a k c) ∧ V.cell? ⟨ablk a, aoff a + j, none⟩ = some (.slice ra rn rc) := fun V hV => by
              obtain ⟨f0, f1, f2, f3, f4, _⟩ := HS.out V (Below.next hbx hV)
              exact ⟨f0, f1, f2, f4, cell_keep hV hcell⟩
            have HSj := Lib.hid hSj
            have Hbx := Lib.hid hbx
            rw [Hq.out] at HC
            clear hSj hbx
            by_cases he : elsQ q (nthR L j) = true
            · have he2 : elsE q (nthR L j) = 0 := by rw [elsE, he]; rfl
              rw [he2] at HC
              rw [nthR_getElem hjL] at he
              have Hs : Hid ((L.take (j + 1)).all (elsQ q) = true) := all_take_succ hjL hall2.out he
              clear he he2
              go_wp2_with fail
              go_region_held3 (fun V => V.cell? ⟨w.heap.size, 0, none⟩ = some (.int .i64 P) ∧ V.cell? ⟨w.heap.size, 1, none⟩ = some (.int .i64 M) ∧ V.cell? ⟨w.heap.size, 2, none⟩ = some (.slice am mn cm) ∧
                  V.cell? ⟨w.heap.size + 1, 1, none⟩ = some (.slice a k c) ∧ V.cell? ⟨ablk a, aoff a + j, none⟩ = some (.slice ra rn rc))
                ((refine HSj.out _ ?_; first | exact (Below.refl _ _).drew | exact Below.next (Below.refl _ _).drew hb4))
                (first | (go_at_call 62; ((with_reducible refine HC.out.mono ?_); rintro e w4 ⟨rfl, hb4⟩)))
              go_wp2_with fail
              go_roundw
              case rel => exact ⟨j + 1, by omega, by go_num, Hs.out, Below.next Hbx.out (Below.next (Below.refl _ _).drew hb4)⟩
              case measure => simp [intOf] <;> omega
            · have he2 : elsE q (nthR L j) = 2 := by rw [elsE, if_neg he]
              rw [he2] at HC
              rw [nthR_getElem hjL] at he
              have Hs : Hid (rmatE P M mod cols L = 2) := by
                show _ = _; rw [Hm2.out, all_false_at hjL (by simpa using he)]; rfl
              clear he he2
              go_wp2_with fail
              go_region_held3 (fun V => V.cell? ⟨w.heap.size, 0, none⟩ = some (.int .i64 P) ∧ V.cell? ⟨w.heap.size, 1, none⟩ = some (.int .i64 M) ∧ V.cell? ⟨w.heap.size, 2, none⟩ = some (.slice am mn cm) ∧
                  V.cell? ⟨w.heap.size + 1, 1, none⟩ = some (.slice a k c) ∧ V.cell? ⟨ablk a, aoff a + j, none⟩ = some (.slice ra rn rc))
                ((refine HSj.out _ ?_; first | exact (Below.refl _ _).drew | exact Below.next (Below.refl _ _).drew hb4))
                (first | (go_at_call 62; ((with_reducible refine HC.out.mono ?_); rintro e w4 ⟨rfl, hb4⟩)))
              go_wp2_with fail
              go_ret
              exact ⟨ret_int Hs.out.symm, Below.next hbW (Below.next Hbx.out (Below.next (Below.refl _ _).drew hb4))⟩
          · obtain rfl : j = k := by omega
            have Hs : Hid (rmatE P M mod cols L = 0) := by
              have := hall2.out; rw [List.take_of_length_le (by rw [Hlen.out]; exact Nat.le_refl _)] at this
              show _ = _; rw [Hm2.out, this]; rfl
            go_wp2_with fail
            go_ret
            exact ⟨ret_int Hs.out.symm, Below.next hbW hbx⟩
  · have hB' : fieldRB P M mod = false := by simpa using hB
    have Hf : Hid (rmatE P M mod cols L = 1) := by show _ = _; rw [rmatE, if_neg hB]
    have hE : errField (fieldRB P M mod) = 1 := by rw [hB']; rfl
    rw [hE]
    clear hB hB' hE
    go_wp2_with fail
    go_ret
    exact ⟨ret_int Hf.out.symm, hbw1⟩
end

/- The walks of the references: Canon of layer 9, Check of layers 10 and 12. -/
section
open Go.RowKit

def canR (O : FOps) (L : List (List Int)) (cols : Nat) : List (List Int) := (elimTo O L cols).1.take (elimTo O L cols).2.length
def RCanonPost (O : FOps) (L : List (List Int)) (cols : Nat) (w : World) (e : Ending) (w' : World) : Prop :=
  ∃ a c ap cp, e = .returned (.tuple #[.slice a (elimTo O L cols).2.length c, .slice ap (elimTo O L cols).2.length cp]) ∧ MatN w.heap.size w' a (elimTo O L cols).2.length (canR O L cols) ∧
    IntsN w.heap.size w' ap (elimTo O L cols).2.length (elimTo O L cols).2 ∧ Below w.heap.size w w'

set_option maxRecDepth 100000 in
set_option maxHeartbeats 1600000 in
theorem rCanon_any (P : Int) (m : Nat) (am : Option Addr) (mn cm : Nat) (mod : List Int) (a : Option Addr) (n c cols : Nat) (L : List (List Int)) (w : World) (hf : RFld w P m am mn mod) (hi : Mat w a n L)
    (hR : Rws (ElP P m) cols L) (hlen : cols ≤ 1000000) (hn : n ≤ 1000000) (hinv : ∀ p, ElP P m p → p ≠ 0 → (invR P m mod p = 1 ↔ p = 1)) :
    Calls Tryz.prog 132 #[.agg #[.int .i64 P, .int .i64 m, .slice am mn cm], .slice a n c, .int .i64 cols] w (RCanonPost (rops P m mod) L cols w) := by
  have Hlen := Lib.hid hi.len
  have Hc : Hid (∀ V, Below w.heap.size w V → Calls Tryz.prog 175 #[.agg #[.int .i64 P, .int .i64 m, .slice am mn cm], .slice a n c, .int .i64 cols] V (RElimPost (rops P m mod) L cols V)) :=
    fun V hV => rElim_any P m am mn cm mod a n c cols cols L V (hf.keep hV) (hi.keep hV) hR (Nat.le_refl _) hlen hn hinv
  obtain ⟨O, hO⟩ : ∃ O, rops P m mod = O := ⟨_, rfl⟩
  rw [hO] at Hc ⊢
  clear hO hinv hR
  go_enter Tryz.func132, Tryz.ntmps132
  go_wp2_with fail
  obtain ⟨W, hW⟩ : ∃ W : World, W = w.alloc (.cells #[.int .i64 P, .int .i64 m, .slice am mn cm] 24) := ⟨_, rfl⟩
  rw [← hW]
  have hbW : Below w.heap.size w W := by rw [hW]; exact below1 _ _
  clear hW
  refine (Hc.out W hbW).mono ?_
  rintro e w1 ⟨a1, c1, R1, ap, cp, rfl, hO1, hp1, hb1⟩
  have hpl := elimTo_piv O L cols
  have hcap := own_cap hO1.own
  have hpv := (IntsN.own hp1).mono hbW.size
  have hmt := ((MatN.own hO1).take (k := (elimTo O L cols).2.length) hpl.2).mono hbW.size
  have hF : RCanonPost O L cols w (.returned (.tuple #[.slice a1 (elimTo O L cols).2.length c1, .slice ap (elimTo O L cols).2.length cp])) w1 := ⟨a1, _, ap, cp, rfl, hmt, hpv, Below.next hbW hb1⟩
  have HF := Lib.hid hF
  have hle : (elimTo O L cols).2.length ≤ c1 := Nat.le_trans hpl.2 hcap
  clear hF hpv hmt hp1 hcap hpl
  generalize (elimTo O L cols).2.length = k at *
  go_wp2_with fail
  go_ret2
  simpa using HF.out

def rspaceE (P M : Int) (mod : List Int) (cols : Int) (L : List (List Int)) : Int :=
  if rmatE P M mod cols L = 0 then (if canR (rops P M.toNat mod) L cols.toNat = L then 0 else 5) else rmatE P M mod cols L

theorem fieldRB_rf {P M : Int} {mod : List Int} (h : fieldRB P M mod = true) : ∃ m : Nat, M = m ∧ RF P m ∧ (∀ (w : World) am mn, Ints w am mn mod → Mods w P m am mn mod) := by
  unfold fieldRB shapeB at h
  simp only [Bool.and_eq_true, bne_iff_ne, ne_eq] at h
  obtain ⟨⟨⟨h1, h2⟩, h3⟩, h4⟩ := h
  obtain ⟨m, rfl, hrf⟩ := RF.of h1
  refine ⟨m, rfl, hrf, fun w am mn hi => ⟨hi, fun hm => ?_, ?_⟩⟩
  · rw [if_neg (by omega)] at h3
    simp only [Bool.and_eq_true, decide_eq_true_eq] at h3
    have := hi.len
    omega
  · by_cases hm : (m : Int) = 1
    · rw [if_pos hm] at h3
      have : mod = [] := List.eq_nil_of_length_eq_zero (by simpa using h3)
      subst this
      exact Dig.of_mem (by have := hrf.p2; omega) (by simp)
    · rw [if_neg hm] at h3
      simp only [Bool.and_eq_true] at h3
      refine Dig.of_mem (by have := hrf.p2; omega) fun x hx => ?_
      have := List.all_eq_true.1 h3.2 x hx
      simpa using this
theorem rmatE_zero {P M : Int} {mod : List Int} {cols : Int} {L : List (List Int)} (h : rmatE P M mod cols L = 0) : fieldRB P M mod = true ∧ matE (orderS P M) cols L = 0 := by
  unfold rmatE at h
  split at h
  · rename_i h1; exact ⟨h1, h⟩
  · omega

set_option maxRecDepth 100000 in
set_option maxHeartbeats 1600000 in
theorem rSpaceCheck_any (P M : Int) (am : Option Addr) (mn cm : Nat) (mod : List Int) (cols : Int) (a : Option Addr) (n c : Nat) (L : List (List Int)) (w : World) (hmod : Ints w am mn mod) (hi : Mat w a n L)
    (hinv : fieldRB P M mod = true → ∀ p, ElP P M.toNat p → p ≠ 0 → (invR P M.toNat mod p = 1 ↔ p = 1)) :
    Calls Tryz.prog 90 #[.agg #[.int .i64 P, .int .i64 M, .slice am mn cm], .agg #[.int .i64 cols, .slice a n c]] w fun e w' => e = .returned (.int .i64 (rspaceE P M mod cols L)) ∧ Below w.heap.size w w' := by
  have Hlen := Lib.hid hi.len
  have Hinv := Lib.hid hinv
  clear hinv
  go_enter Tryz.func90, Tryz.ntmps90
  go_wp2_with fail
  obtain ⟨W, hW⟩ : ∃ W : World, W = (w.alloc (.cells #[.int .i64 P, .int .i64 M, .slice am mn cm] 24)).alloc (.cells #[.int .i64 cols, .slice a n c] 73) := ⟨_, rfl⟩
  rw [← hW]
  have hbW : Below w.heap.size w W := by rw [hW]; exact below2 _ _ _
  have x0 : Box W w.heap.size [.int .i64 P, .int .i64 M, .slice am mn cm] := by rw [hW]; exact (Box.new _ _ _ rfl).alloc _
  have y0 : Box W (w.heap.size + 1) [.int .i64 cols, .slice a n c] := by rw [hW]; exact Box.new _ _ _ (by simp)
  have HX := Lib.hid (And.intro x0 y0)
  have hiW := hi.keep hbW
  have hmW := hmod.keep hbW
  clear hW x0 y0
  refine (rMatCheck_any P M am mn cm mod cols a n c L W hmW hiW).mono ?_
  rintro e w1 ⟨rfl, hb1⟩
  have hbw1 := Below.next hbW hb1
  by_cases hE : rmatE P M mod cols L = 0
  · obtain ⟨hB, hm⟩ := rmatE_zero hE
    obtain ⟨m, rfl, hrf, hmods⟩ := fieldRB_rf hB
    obtain ⟨k, rfl, hk, hl, hR⟩ := matE_zero hm
    have HE : Hid (rspaceE P m mod k L = if canR (rops P m mod) L k = L then 0 else 5) := by show _ = _; rw [rspaceE, if_pos hE, Int.toNat_natCast, Int.toNat_natCast]
    rw [hE]
    have hinv := Hinv.out hB
    rw [Int.toNat_natCast] at hinv
    have hRw : Rws (ElP P m) k L := fun r hr => ⟨(hR r hr).1, fun x hx => by have := (hR r hr).2 x hx; rw [hrf.order] at this; exact this⟩
    have x1 := HX.out.1.keep hb1
    have y1 := HX.out.2.keep hb1
    have d0 := x1.cell 0 rfl
    have d1 := x1.cell 1 rfl
    have d2 := x1.cell 2 rfl
    have d3 := y1.cell 0 rfl
    have d4 := y1.cell 1 rfl
    have hm1 := hmW.keep hb1
    have hi1 := hiW.keep hb1
    have hn : n ≤ 1000000 := by rw [← Hlen.out]; omega
    have HC := Lib.hid (rCanon_any P m am mn cm mod a n c k L w1 ⟨hrf, hmods w1 am mn hm1⟩ hi1 hRw (by omega) hn hinv)
    clear hE hB hm hmods hR hinv hRw x1 y1
    obtain ⟨O, hO⟩ : ∃ O, rops P m mod = O := ⟨_, rfl⟩
    rw [hO] at HC HE
    clear hO
    go_wp2_with fail
    refine HC.out.mono ?_
    rintro e w2 ⟨a2, c2, ap, cp, rfl, hM2, hp2, hb2⟩
    have hbw2 := Below.next hbw1 hb2
    have y2 := (HX.out.2.keep hb1).keep hb2
    have d3 := y2.cell 0 rfl
    have d4 := y2.cell 1 rfl
    have hi2 := hi1.keep hb2
    have hM3 := hM2.mat
    have HS := Lib.hid (rSameRows_any a2 (elimTo O L k).2.length c2 (canR O L k) a n c L hM3 hi2)
    clear hM2 hp2 y2
    generalize (elimTo O L k).2.length = kk at *
    by_cases hc : canR O L k = L
    · have hc' : decide (canR O L k = L) = true := by simpa using hc
      have HF : Hid (rspaceE P m mod k L = 0) := by show _ = _; rw [HE.out, if_pos hc]
      rw [hc'] at HS
      clear hc hc'
      go_wp2_with fail
      refine HS.out.mono ?_
      rintro e w3 ⟨rfl, hd3⟩
      go_wp2_with fail
      go_ret
      exact ⟨ret_int HF.out.symm, Below.next hbw2 hd3.below⟩
    · have hc' : decide (canR O L k = L) = false := by simpa using hc
      have HF : Hid (rspaceE P m mod k L = 5) := by show _ = _; rw [HE.out, if_neg hc]
      rw [hc'] at HS
      clear hc hc'
      go_wp2_with fail
      refine HS.out.mono ?_
      rintro e w3 ⟨rfl, hd3⟩
      go_wp2_with fail
      go_ret
      exact ⟨ret_int HF.out.symm, Below.next hbw2 hd3.below⟩
  · have HE : Hid (rspaceE P M mod cols L = rmatE P M mod cols L) := by show _ = _; rw [rspaceE, if_neg hE]
    have hE' : (rmatE P M mod cols L != 0) = true := by simpa using hE
    clear hE
    go_wp2_with fail
    go_ret
    exact ⟨ret_int HE.out.symm, hbw1⟩

theorem lenE_lo {N : Int} (h : N < 1) : lenE N = 4 := by rw [lenE, if_pos (.inl h)]
theorem lenE_hi {N : Int} (h : 64 < N) : lenE N = 4 := by rw [lenE, if_pos (.inr h)]
theorem lenE_in {N : Int} (h1 : ¬ N < 1) (h2 : ¬ 64 < N) : lenE N = 0 := by rw [lenE, if_neg (by omega)]
def rcodeE (P M : Int) (mod : List Int) (N : Int) (L : List (List Int)) : Int :=
  if fieldRB P M mod = true then (if lenE N = 0 then rspaceE P M mod N L else 4) else 1

set_option maxRecDepth 100000 in
set_option maxHeartbeats 1600000 in
theorem rCodeCheck_any (P M : Int) (am : Option Addr) (mn cm : Nat) (mod : List Int) (N : Int) (a : Option Addr) (n c : Nat) (L : List (List Int)) (w : World) (hmod : Ints w am mn mod) (hi : Mat w a n L)
    (hinv : fieldRB P M mod = true → ∀ p, ElP P M.toNat p → p ≠ 0 → (invR P M.toNat mod p = 1 ↔ p = 1)) :
    Calls Tryz.prog 47 #[.agg #[.int .i64 P, .int .i64 M, .slice am mn cm, .int .i64 N, .slice a n c]] w fun e w' => e = .returned (.int .i64 (rcodeE P M mod N L)) ∧ Below w.heap.size w w' := by
  have Hinv := Lib.hid hinv
  clear hinv
  go_enter Tryz.func47, Tryz.ntmps47
  go_wp2_with fail
  obtain ⟨W, hW⟩ : ∃ W : World, W = w.alloc (.cells #[.int .i64 P, .int .i64 M, .slice am mn cm, .int .i64 N, .slice a n c] 27) := ⟨_, rfl⟩
  rw [← hW]
  have hbW : Below w.heap.size w W := by rw [hW]; exact below1 _ _
  have x0 : Box W w.heap.size [.int .i64 P, .int .i64 M, .slice am mn cm, .int .i64 N, .slice a n c] := by rw [hW]; exact Box.new _ _ _ rfl
  have HX := Lib.hid x0
  clear hW x0
  refine (rFieldCheck_any P M am mn cm mod W (hmod.keep hbW)).mono ?_
  rintro e w1 ⟨rfl, hb1⟩
  have hbw1 := Below.next hbW hb1
  by_cases hB : fieldRB P M mod = true
  · have hE : errField (fieldRB P M mod) = 0 := by rw [hB]; rfl
    rw [hE]
    have HB : Hid (rcodeE P M mod N L = if lenE N = 0 then rspaceE P M mod N L else 4) := by show _ = _; rw [rcodeE, if_pos hB]
    have x1 := HX.out.keep hb1
    have c0 := x1.cell 0 rfl
    have c1 := x1.cell 1 rfl
    have c2 := x1.cell 2 rfl
    have c3 := x1.cell 3 rfl
    have c4 := x1.cell 4 rfl
    have hm1 := (hmod.keep hbW).keep hb1
    have hi1 := (hi.keep hbW).keep hb1
    clear hE hB x1
    by_cases h1 : N < 1
    · have Hf : Hid (rcodeE P M mod N L = 4) := by show _ = _; rw [HB.out, lenE_lo h1]; rfl
      have t1 : decide (N < 1) = true := by simpa using h1
      go_wp2_with fail
      go_ret
      exact ⟨ret_int Hf.out.symm, hbw1⟩
    · have t1 : decide (N < 1) = false := by simpa using h1
      by_cases h2 : 64 < N
      · have Hf : Hid (rcodeE P M mod N L = 4) := by show _ = _; rw [HB.out, lenE_hi h2]; rfl
        have t2 : decide (64 < N) = true := by simpa using h2
        go_wp2_with fail
        go_ret
        exact ⟨ret_int Hf.out.symm, hbw1⟩
      · have t2 : decide (64 < N) = false := by simpa using h2
        have Hf : Hid (rcodeE P M mod N L = rspaceE P M mod N L) := by show _ = _; rw [HB.out, lenE_in h1 h2, if_pos rfl]
        clear h1 h2
        go_wp2_with fail
        refine (rSpaceCheck_any P M am mn cm mod N a n c L w1 hm1 hi1 Hinv.out).mono ?_
        rintro e w2 ⟨rfl, hb2⟩
        go_wp2_with fail
        go_ret
        exact ⟨ret_int Hf.out.symm, Below.next hbw1 hb2⟩
  · have hB' : fieldRB P M mod = false := by simpa using hB
    have Hf : Hid (rcodeE P M mod N L = 1) := by show _ = _; rw [rcodeE, if_neg hB]
    have hE : errField (fieldRB P M mod) = 1 := by rw [hB']; rfl
    rw [hE]
    clear hB hB' hE
    go_wp2_with fail
    go_ret
    exact ⟨ret_int Hf.out.symm, hbw1⟩
end

/- The reference's operations are the program's: what the two Checks say is the same. -/
section
theorem invTo_find (f : Int → Int) : ∀ (n : Nat) (y z : Int), y ≤ z → z < y + n → f z = 1 → f (invTo f n y) = 1 ∧ y ≤ invTo f n y ∧ invTo f n y < y + n
  | 0, y, z, h1, h2, _ => by omega
  | n + 1, y, z, h1, h2, hz => by
    unfold invTo
    split
    · exact ⟨by assumption, by omega, by omega⟩
    · rename_i hn
      have hne : y ≠ z := fun e => hn (e ▸ hz)
      have := invTo_find f n (y + 1) z (by omega) (by omega) hz
      exact ⟨this.1, by omega, by omega⟩

/-- the program's operations and the reference's agree on the elements -/
theorem eq_ops {P M : Int} {mod : List Int} (h : fieldB P M mod = true) : ∃ m : Nat, M = m ∧ ElP P m = (tblOf P m mod).El ∧ ((tblOf P m mod).q : Int) = orderS P M ∧ Fld (tblOf P m mod).ops (ElP P m) ∧ Agr (tblOf P m mod).ops (rops P m mod) (ElP P m) ∧
    ∀ p, ElP P m p → p ≠ 0 → (invR P m mod p = 1 ↔ p = 1) := by
  have hF := fieldB_fld h
  obtain ⟨m, y, rfl, hr, h256, hsh, hq, g⟩ := fieldB_gen h
  have hrf : RF P m := by
    obtain ⟨m', e, h2, _⟩ := fieldRB_rf (by rw [fieldRB_eq]; exact h)
    have : m = m' := by omega
    rw [this]; exact h2
  rw [Int.toNat_natCast] at hF
  have e : ElP P m = (tblOf P m mod).El := by
    funext x; simp only [Tbl.El, tblOf, ElP]; rw [hq]
  rw [← e] at hF
  have hq2 := g.q2
  have hmul : ∀ x z, ElP P m x → ElP P m z → (tblOf P m mod).ops.mul x z = mulR P m mod x z := fun x z hx hz => by
    rw [mulR_eq hrf]; exact g.mulT_eq hx hz
  have hqo : ((orderS P m).toNat : Int) = orderS P m := by omega
  have hinv : ∀ x, ElP P m x → x ≠ 0 → (tblOf P m mod).ops.inv x = invR P m mod x := by
    intro x hx h0
    have hi := hF.cl.inv x hx h0
    have hm := hF.mul_inv x hx h0
    rw [hmul x _ hx hi] at hm
    have hi0 : (tblOf P m mod).ops.inv x ≠ 0 := by
      intro e0
      have h2 := hF.mul_inv x hx h0
      rw [e0, hF.mzero hx] at h2
      exact absurd h2 (by decide)
    have hb1 := hi.1
    have hb2 := hi.2
    obtain ⟨h1, h2, h3⟩ := invTo_find (mulR P m mod x) ((orderS P m).toNat - 1) 1 _ (by omega) (by omega) hm
    have hel : ElP P m (invR P m mod x) := ⟨by unfold invR; omega, by unfold invR; omega⟩
    have h4 : (tblOf P m mod).ops.mul x (invR P m mod x) = 1 := by rw [hmul x _ hx hel]; exact h1
    have h5 := hF.mul_inv x hx h0
    have e1 : (tblOf P m mod).ops.mul ((tblOf P m mod).ops.inv x) ((tblOf P m mod).ops.mul x (invR P m mod x)) = invR P m mod x := by
      rw [← hF.mul_assoc _ x _ hi hx hel, hF.mul_comm _ x hi hx, h5, hF.one_mul _ hel]
    rw [h4, hF.mone hi] at e1
    exact e1
  refine ⟨m, rfl, e, hqo, hF, ⟨fun x z _ _ => rfl, hmul, fun x _ => rfl, hinv⟩, fun p hp h0 => ?_⟩
  rw [← hinv p hp h0]
  have hi := hF.cl.inv p hp h0
  have hm := hF.mul_inv p hp h0
  constructor
  · intro e1; rw [e1, hF.mone hp] at hm; exact hm
  · intro e1; rw [e1] at hm hi ⊢; rw [hF.one_mul _ hi] at hm; exact hm

theorem hinv_all {P M : Int} {mod : List Int} (h : fieldRB P M mod = true) : ∀ p, ElP P M.toNat p → p ≠ 0 → (invR P M.toNat mod p = 1 ↔ p = 1) := by
  obtain ⟨m, rfl, _, _, _, _, h6⟩ := eq_ops (by rw [← fieldRB_eq]; exact h)
  exact h6
theorem rmatE_eq (P M : Int) (mod : List Int) (cols : Int) (L : List (List Int)) : rmatE P M mod cols L = fmatE P M mod cols L := by
  unfold rmatE fmatE
  rw [fieldRB_eq]
  split
  · rename_i h
    obtain ⟨m, rfl, _, hq, _⟩ := eq_ops h
    rw [Int.toNat_natCast, hq]
  · rfl
theorem canR_eq {P M : Int} {mod : List Int} (h : fieldB P M mod = true) {L : List (List Int)} {m : Nat} (hL : Rws (tblOf P M.toNat mod).El m L) : canR (rops P M.toNat mod) L m = canS (tblOf P M.toNat mod) L m := by
  obtain ⟨k, rfl, he, _, hF, hA, _⟩ := eq_ops h
  rw [Int.toNat_natCast] at hL ⊢
  rw [← he] at hL
  unfold canR canS
  rw [(elimTo_agr hA hF.cl hL m (Nat.le_refl _)).1]
theorem rspaceE_eq (P M : Int) (mod : List Int) (cols : Int) (L : List (List Int)) : rspaceE P M mod cols L = spaceE P M mod cols L := by
  unfold rspaceE spaceE
  rw [rmatE_eq]
  split
  · rename_i h0
    obtain ⟨h1, h2⟩ := fmatE_zero h0
    obtain ⟨m, rfl, _, _, hR⟩ := matE_zero h2
    rw [Int.toNat_natCast, canR_eq h1 hR]
  · rfl
theorem rcodeE_eq (P M : Int) (mod : List Int) (N : Int) (L : List (List Int)) : rcodeE P M mod N L = codeE P M mod N L := by
  unfold rcodeE codeE
  rw [fieldRB_eq, rspaceE_eq]

/-- a code: its field is a field, its rows are vectors of elements -/
theorem codeE_fld {P M : Int} {mod : List Int} {N : Int} {L : List (List Int)} (h : codeE P M mod N L = 0) : ∃ n : Nat, N = n ∧ 1 ≤ n ∧ n ≤ 64 ∧ Fld (tblOf P M.toNat mod).ops (tblOf P M.toNat mod).El ∧ Rws (tblOf P M.toNat mod).El n L := by
  obtain ⟨m, rfl, h1, h2, _, hR⟩ := codeE_rws h
  exact ⟨m, rfl, h1, h2, fieldB_fld (codeE_zero h).1, hR⟩
end

/- The laws of the dimensions of two sets, and of one position more. -/
section
variable {P M : Int} {mod : List Int} {n : Nat} {L : List (List Int)}
end

/- The walks of the reference of layer 48: Pick, rank, Others. -/
section
open Go.RowKit

/-- positions within n -/
def InN (n : Nat) (Q : List Int) : Prop := ∀ j, j < Q.length → 0 ≤ nth Q j ∧ nth Q j < n

theorem OMat.lit (w : World) {B : Nat} (hB : B ≤ w.heap.size) : OMat (w.alloc (.cells #[] 22)) B (some ⟨w.heap.size, 0, none⟩) 0 0 [] [] :=
  ⟨rfl, rfl, own_mono (own_emp w 22) hB, fun i hi => by omega, fun i hi => by omega, fun i j hi => by omega⟩
end

/- The walks of the reference of layer 48: Others, Of, Dimension. -/
section
open Go.RowKit

theorem InN.bd {n : Nat} {Q : List Int} (h : InN n Q) (hn : n ≤ 64) {k : Nat} (hk : k ≤ Q.length) : ∀ j, j < k → 0 ≤ nth Q j ∧ nth Q j < 64 := fun j hj => by
  have := h j (by omega)
  omega
theorem InN.of_set {n : Nat} {Q : List Int} (h : okSet n Q = true) : InN n Q := fun j hj => by
  have := okSet_at h hj
  omega
theorem InN.bits (x n : Nat) : InN n (bitsTo x n) := fun j hj => nth_bits_lt x n j hj
theorem InN.mask {n : Nat} {Q : List Int} (h : InN n Q) (hn : n ≤ 64) : maskS Q < 18446744073709551616 := maskTo_lt _ (h.bd hn (Nat.le_refl _))
end

/- What Dimension answers; bounds of dimensions (plain law). -/
section
open Go.RowKit

/-- what Dimension answers -/
def dimV (P M : Int) (mod : List Int) (N : Int) (L : List (List Int)) (Q : List Int) : Int × Int :=
  if codeE P M mod N L = 0 then (if okSet N Q = true then (dimS (tblOf P M.toNat mod).ops L N.toNat (maskS Q), 0) else (0, 5)) else (0, codeE P M mod N L)
theorem DimPost.val {P M : Int} {mod : List Int} {N : Int} {L : List (List Int)} {Q : List Int} {w : World} {e : Ending} {w' : World} (h : DimPost P M mod N L Q w e w') :
    e = .returned (.tuple #[.int .i64 (dimV P M mod N L Q).1, .int .i64 (dimV P M mod N L Q).2]) ∧ Below w.heap.size w w' := by
  obtain ⟨hb, h⟩ := h
  refine ⟨?_, hb⟩
  unfold dimV
  rcases h with ⟨h1, rfl⟩ | ⟨h1, h2, rfl⟩ | ⟨h1, h2, rfl⟩
  · rw [if_neg h1]
  · rw [if_pos h1, if_neg (by rw [h2]; decide)]
  · rw [if_pos h1, if_pos h2]
end

/- The walks of slices.Index, slices.Contains, matrix.Kernel. -/
section
open Go.RowKit

set_option maxRecDepth 100000 in
set_option maxHeartbeats 1600000 in
theorem index_any (a : Option Addr) (n c : Nat) (l : List Int) (v : Int) (w : World) (h : Ints w a n l) :
    Calls Tryz.prog 135 #[.slice a n c, .int .i64 v] w fun e w' => ∃ z : Int, e = .returned (.int .i64 z) ∧ (0 ≤ z ↔ v ∈ l) ∧ w' = w := by
  have Hl := Lib.hid h.len
  have hpl := h.pl
  have hmax := h.max
  unfold maxLen at hmax
  go_enter Tryz.func135, Tryz.ntmps135
  go_wp2_with fail
  go_loopw [8] (fun iv wr => ∃ k : Nat, k ≤ n ∧ iv = .int .i64 k ∧ Hid (∀ j, j < k → nth l j ≠ v) ∧ wr = w) (fun i _ => n - (intOf i).toNat)
  case atStart => exact ⟨0, Nat.zero_le _, rfl, fun j hj => by omega, rfl⟩
  case round =>
    obtain ⟨k, hk, rfl, hno, rfl⟩ := hrel
    by_cases hlt : k < n
    · have c1 := h.cell k hlt
      by_cases he : nth l k = v
      · have he' : (v == nth l k) = true := by rw [he]; simp
        have Hm : Hid (v ∈ l) := by show v ∈ l; rw [← he]; exact nth_mem (by rw [Hl.out]; exact hlt)
        clear he
        go_wp2_with fail
        go_ret
        exact ⟨k, rfl, ⟨fun _ => Hm.out, fun _ => Int.natCast_nonneg _⟩, rfl⟩
      · have he' : (v == nth l k) = false := by simpa using fun e => he e.symm
        have Hn2 : Hid (∀ j, j < k + 1 → nth l j ≠ v) := fun j hj => by
          by_cases e : j = k
          · subst e; exact he
          · exact hno.out j (by omega)
        clear he
        go_wp2_with fail
        go_roundw
        case rel => exact ⟨k + 1, by omega, by go_num, Hn2.out, by simp⟩
        case measure => simp [intOf] <;> omega
    · obtain rfl : k = n := by omega
      have Hm : Hid (¬ v ∈ l) := fun hm => by
        obtain ⟨j, hj, e⟩ := List.mem_iff_getElem.1 hm
        rw [← nth_getElem hj] at e
        exact hno.out j (by have := Hl.out; omega) e
      go_wp2_with fail
      go_ret
      exact ⟨-1, rfl, ⟨fun h => absurd h (by omega), fun h => absurd h Hm.out⟩, rfl⟩

theorem contains_any (a : Option Addr) (n c : Nat) (l : List Int) (v : Int) (w : World) (h : Ints w a n l) :
    Calls Tryz.prog 83 #[.slice a n c, .int .i64 v] w fun e w' => e = .returned (.bool (decide (v ∈ l))) ∧ w' = w := by
  go_enter Tryz.func83, Tryz.ntmps83
  go_wp2_with fail
  refine (index_any a n c l v w h).mono ?_
  rintro e w1 ⟨z, rfl, hz, rfl⟩
  by_cases h0 : 0 ≤ z
  · have Hz : Hid (decide (v ∈ l) = true) := by show _ = _; simpa using hz.1 h0
    have h0' : decide (0 ≤ z) = true := by simpa using h0
    clear hz h0
    go_wp2_with fail
    go_ret
    exact ⟨ret_bool Hz.out.symm, rfl⟩
  · have Hz : Hid (decide (v ∈ l) = false) := by show _ = _; simpa using fun h => h0 (hz.2 h)
    have h0' : decide (0 ≤ z) = false := by simpa using h0
    clear hz h0
    go_wp2_with fail
    go_ret
    exact ⟨ret_bool Hz.out.symm, rfl⟩
end

/- The dual code is a code; its dimensions. -/
section

end

/- The greedy choice by ranks alone (plain law). -/
section
theorem nth_snoc_lt {l : List Int} {x : Int} {i : Nat} (h : i < l.length) : nth (l ++ [x]) i = nth l i := by
  simp only [nth, List.getD_eq_getElem?_getD]; rw [List.getElem?_append_left h]
theorem nth_snoc (l : List Int) (x : Int) : nth (l ++ [x]) l.length = x := by simp [nth]
theorem grL_snoc (l : List Int) (x : Int) : ∀ k, k ≤ l.length → grL (l ++ [x]) k = grL l k
  | 0, _ => rfl
  | k + 1, h => by rw [grL, grL, nth_snoc_lt (by omega), grL_snoc l x k (by omega)]
theorem grL_snoc_all (l : List Int) (x : Int) : grL (l ++ [x]) (l ++ [x]).length = x.toNat :: grL l l.length := by
  rw [List.length_append, List.length_singleton, grL, nth_snoc, grL_snoc l x l.length (Nat.le_refl _)]
/-- all positions of a list, the last ahead -/
def gA (Q : List Int) : List Nat := grL Q Q.length
theorem gA_snoc (l : List Int) (x : Int) : gA (l ++ [x]) = x.toNat :: gA l := grL_snoc_all l x
theorem mem_gA {Q : List Int} {x : Nat} : x ∈ gA Q ↔ ∃ y ∈ Q, y.toNat = x := by
  unfold gA
  rw [mem_grL]
  constructor
  · rintro ⟨j, hj, e⟩; exact ⟨nth Q j, nth_mem hj, e⟩
  · rintro ⟨y, hy, e⟩
    obtain ⟨j, hj, rfl⟩ := List.mem_iff_getElem.1 hy
    exact ⟨j, hj, by rw [nth_getElem hj]; exact e⟩

section
variable {O : FOps} {El : Int → Prop} {m : Nat} {L : List (List Int)}
/-- the rank of a list of positions -/
def rkQ (O : FOps) (L : List (List Int)) (Q : List Int) : Nat := (grS O L Q).length
theorem rkQ_rk (F : Fld O El) (hL : Rws El m L) (Q : List Int) : Rk (clV O El L.length (colS L)) (gA Q) (rkQ O L Q) := grS_rk F hL Q
/-- the chosen ones: independent, among those seen, and they span those seen -/
theorem gr_out (F : Fld O El) (hL : Rws El m L) (Q : List Int) : ∀ k, Rk (clV O El L.length (colS L)) (gA (grTo O L Q k).2) (grTo O L Q k).2.length ∧
    (∀ x ∈ gA (grTo O L Q k).2, x ∈ grL Q k) ∧ (∀ x ∈ grL Q k, clV O El L.length (colS L) (gA (grTo O L Q k).2) x)
  | 0 => ⟨.nil, fun x hx => by simp [gA, grTo, grL] at hx, fun x hx => by simp [grL] at hx⟩
  | k + 1 => by
    obtain ⟨h1, h2, h3⟩ := gr_out F hL Q k
    obtain ⟨g1, g2, _⟩ := gr_inv F hL Q k
    have hC := col_clo F hL
    have hc := colS_vc hL F.zero
    have htk := takes_false F g1 (hc (nth Q k).toNat)
    have hcl : clV O El L.length (colS L) (grL Q k) (nth Q k).toNat ↔ (grTo O L Q k).1.takes O (colS L (nth Q k).toNat) = false := by
      rw [htk]
      exact ⟨fun h φ hφ h0 => h φ hφ ((g2 φ hφ).2 h0), fun h φ hφ h0 => h φ hφ ((g2 φ hφ).1 h0)⟩
    rw [grTo]
    by_cases ht : (grTo O L Q k).1.takes O (colS L (nth Q k).toNat) = true
    · simp only [if_pos ht]
      rw [gA_snoc, List.length_append, List.length_singleton]
      refine ⟨.ind _ (fun h => ?_) h1, fun x hx => ?_, fun x hx => ?_⟩
      · have := hcl.1 (hC.sub h2 h)
        rw [ht] at this; exact absurd this (by decide)
      · rw [grL]
        rcases List.mem_cons.1 hx with rfl | hx
        · exact List.mem_cons_self ..
        · exact List.mem_cons_of_mem _ (h2 x hx)
      · rw [grL] at hx
        rcases List.mem_cons.1 hx with rfl | hx
        · exact hC.mem _ _ (List.mem_cons_self ..)
        · exact hC.sub (fun y hy => List.mem_cons_of_mem _ hy) (h3 x hx)
    · simp only [if_neg ht]
      have hf : (grTo O L Q k).1.takes O (colS L (nth Q k).toNat) = false := by simpa using ht
      refine ⟨h1, fun x hx => ?_, fun x hx => ?_⟩
      · rw [grL]; exact List.mem_cons_of_mem _ (h2 x hx)
      · rw [grL] at hx
        rcases List.mem_cons.1 hx with rfl | hx
        · exact hC.mono _ _ h3 _ (hcl.2 hf)
        · exact h3 x hx
/-- lists that span one another have one rank -/
theorem rkQ_span (F : Fld O El) (hL : Rws El m L) {Q Q' : List Int} (h : ∀ x ∈ gA Q, clV O El L.length (colS L) (gA Q') x) : rkQ O L Q ≤ rkQ O L Q' := Rk.le (col_clo F hL) (rkQ_rk F hL Q) (rkQ_rk F hL Q') h
theorem rkQ_same (F : Fld O El) (hL : Rws El m L) {Q Q' : List Int} (h : ∀ x, x ∈ gA Q ↔ x ∈ gA Q') : rkQ O L Q = rkQ O L Q' := Rk.same (col_clo F hL) (rkQ_rk F hL Q) (rkQ_rk F hL Q') h
theorem rkQ_perm (F : Fld O El) (hL : Rws El m L) {Q Q' : List Int} (h : Q.Perm Q') : rkQ O L Q = rkQ O L Q' :=
  rkQ_same F hL fun x => by
    rw [mem_gA, mem_gA]
    exact ⟨fun ⟨y, hy, e⟩ => ⟨y, h.mem_iff.1 hy, e⟩, fun ⟨y, hy, e⟩ => ⟨y, h.mem_iff.2 hy, e⟩⟩
end
end

/- Sorted lists of numbers (plain law). -/
section
def sortL (l : List Int) : List Int := l.mergeSort fun x y => decide (x ≤ y)
theorem sortL_perm (l : List Int) : (sortL l).Perm l := List.mergeSort_perm l _
theorem sortL_len (l : List Int) : (sortL l).length = l.length := (sortL_perm l).length_eq
theorem sortL_pair (l : List Int) : (sortL l).Pairwise fun x y => x ≤ y := by
  have h := List.pairwise_mergeSort (le := fun x y : Int => decide (x ≤ y)) (fun a b c h1 h2 => by simp at *; omega) (fun a b => by simp; omega) l
  exact h.imp fun h => by simpa using h
/-- sorted lists with the same members are one -/
theorem pair_unique : ∀ {l l' : List Int}, l.Pairwise (fun x y => x ≤ y) → l'.Pairwise (fun x y => x ≤ y) → l.Perm l' → l = l'
  | [], l', _, _, h => by rw [List.nil_perm] at h; exact h.symm
  | x :: l, [], _, _, h => by rw [List.perm_nil] at h; exact h
  | x :: l, y :: l', h1, h2, h => by
    rw [List.pairwise_cons] at h1 h2
    have hx : x ∈ y :: l' := h.subset (List.mem_cons_self ..)
    have hy : y ∈ x :: l := h.symm.subset (List.mem_cons_self ..)
    have e : x = y := by
      rcases List.mem_cons.1 hx with e | hx
      · exact e
      · rcases List.mem_cons.1 hy with e | hy
        · exact e.symm
        · have := h1.1 y hy
          have := h2.1 x hx
          omega
    subst e
    rw [pair_unique h1.2 h2.2 (List.Perm.cons_inv h)]
theorem sortL_unique {l l' : List Int} (h : l'.Pairwise fun x y => x ≤ y) (hp : l'.Perm l) : l' = sortL l := pair_unique h (sortL_pair l) (hp.trans (sortL_perm l).symm)
theorem nth_inj_nodup {l : List Int} (h : ∀ i j, i < j → j < l.length → nth l i ≠ nth l j) : l.Nodup := by
  unfold List.Nodup
  rw [List.pairwise_iff_getElem]
  intro i j hi hj hij
  have := h i j hij hj
  rwa [nth_getElem hi, nth_getElem hj] at this
/-- a list of distinct numbers below m, sorted, is an ascending set -/
theorem okSet_sort {m : Int} {l : List Int} (hn : l.Nodup) (hb : ∀ x ∈ l, 0 ≤ x ∧ x < m) : okSet m (sortL l) = true := by
  have h1 := sortL_pair l
  have h2 : (sortL l).Nodup := (sortL_perm l).nodup_iff.2 hn
  have h3 : ∀ x ∈ sortL l, 0 ≤ x ∧ x < m := fun x hx => hb x ((sortL_perm l).subset hx)
  rw [List.pairwise_iff_getElem] at h1
  unfold List.Nodup at h2
  rw [List.pairwise_iff_getElem] at h2
  have key : ∀ k, (∀ i, i < k → okAt m (sortL l) i = true) → okTo m (sortL l) k = true := fun k => by
    induction k with
    | zero => intro _; rfl
    | succ k ih => intro h; exact okTo_succ (ih fun i hi => h i (by omega)) (h k (by omega))
  unfold okSet
  refine key _ fun i hi => ?_
  have h4 := h3 _ (List.getElem_mem hi)
  unfold okAt
  rw [nth_getElem hi]
  by_cases h0 : i = 0
  · simp [h0] at h4 ⊢; omega
  · have h5 := h1 (i - 1) i (by omega) hi (by omega)
    have h6 := h2 (i - 1) i (by omega) hi (by omega)
    rw [nth_getElem (show i - 1 < (sortL l).length by omega)]
    simp; omega
end

/- The family of a code (plain law): the rounds. -/
section
/-- the positions below k that are used (b) or not -/
def frTo (b : Bool) (U : List Int) : Nat → List Int
  | 0 => []
  | k + 1 => if decide ((k : Int) ∈ U) = b then frTo b U k ++ [(k : Int)] else frTo b U k
theorem mem_frTo {b : Bool} {U : List Int} {x : Int} : ∀ k, x ∈ frTo b U k ↔ ∃ j : Nat, j < k ∧ x = j ∧ decide ((j : Int) ∈ U) = b
  | 0 => by simp [frTo]
  | k + 1 => by
    rw [frTo]
    by_cases h : decide ((k : Int) ∈ U) = b
    · rw [if_pos h, List.mem_append, mem_frTo k, List.mem_singleton]
      constructor
      · rintro (⟨j, hj, e, hb⟩ | e)
        · exact ⟨j, by omega, e, hb⟩
        · exact ⟨k, by omega, e, h⟩
      · rintro ⟨j, hj, e, hb⟩
        by_cases ejk : j = k
        · subst ejk; exact .inr e
        · exact .inl ⟨j, by omega, e, hb⟩
    · rw [if_neg h, mem_frTo k]
      constructor
      · rintro ⟨j, hj, e, hb⟩; exact ⟨j, by omega, e, hb⟩
      · rintro ⟨j, hj, e, hb⟩
        by_cases ejk : j = k
        · subst ejk; exact absurd hb h
        · exact ⟨j, by omega, e, hb⟩
theorem frTo_len (b : Bool) (U : List Int) : ∀ k, (frTo b U k).length ≤ k
  | 0 => Nat.le_refl _
  | k + 1 => by
    have := frTo_len b U k
    rw [frTo]; split <;> simp <;> omega
theorem grTo_sub (O : FOps) (L : List (List Int)) (Q : List Int) : ∀ k, k ≤ Q.length → ∀ x ∈ (grTo O L Q k).2, x ∈ Q
  | 0, _, x, hx => by simp [grTo] at hx
  | k + 1, hk, x, hx => by
    rw [grTo] at hx
    split at hx
    · rcases List.mem_append.1 hx with hx | hx
      · exact grTo_sub O L Q k (by omega) x hx
      · rw [List.mem_singleton] at hx; rw [hx]; exact nth_mem (by omega)
    · exact grTo_sub O L Q k (by omega) x hx
end

end Go.Proofs.YtcflcogbpnmjeaaGreat
