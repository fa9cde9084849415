/- The walks of the references: Canon of layer 9, Check of layers 10 and 12. -/
import Derived.Test.YtakmnncmeefceaaGreatC3
import Derived.Test.YtakmnncmeefceaaGreatC2
import Derived.Test.YtakmnncmeefceaaGreatA8
namespace Go.Proofs.YtakmnncmeefceaaGreat
set_option linter.unusedVariables false
set_option linter.unusedSimpArgs false
set_option linter.unusedSectionVars false

/- The walks of the references: SameInts, SameRows, Entries of layer 9, IsSubset of layer 11. -/
section
open Go.RowKit

set_option maxHeartbeats 800000 in
theorem rSameInts_any (a : Option Addr) (n c : Nat) (l : List Int) (a' : Option Addr) (n' c' : Nat) (l' : List Int) {w : World} (h : Ints w a n l) (h' : Ints w a' n' l') :
    Calls Tryz.prog 32 #[.slice a n c, .slice a' n' c'] w (QuietBool w (decide (l = l'))) := by
  have Hl := Lib.hid h.len
  have Hl' := Lib.hid h'.len
  have hpl := h.pl
  have hpl' := h'.pl
  have hmax := h.max
  unfold maxLen at hmax
  by_cases hn : n = n'
  · subst hn
    have hnn : ((n : Int) != n) = false := by simp
    go_enter Tryz.func32, Tryz.ntmps32
    go_wp2_with fail
    go_loopw [5] (fun iv wr => ∃ k : Nat, k ≤ n ∧ iv = .int .i64 k ∧ Hid (l.take k = l'.take k) ∧ Drawn w wr) (fun i _ => n - (intOf i).toNat)
    case atStart => exact ⟨0, Nat.zero_le _, rfl, rfl, Drawn.refl _⟩
    case round =>
      obtain ⟨k, hk, rfl, htk, hd⟩ := hrel
      by_cases hlt : k < n
      · have c1 := (h.drawn hd).cell k hlt
        have c2 := (h'.drawn hd).cell k hlt
        by_cases he : nth l k = nth l' k
        · have he' : (nth l k != nth l' k) = false := by simpa using he
          have Hs : Hid (l.take (k + 1) = l'.take (k + 1)) := nth_take_eq htk.out (by rw [Hl.out]; exact hlt) (by rw [Hl'.out]; exact hlt) he
          clear he
          go_wp2_with fail
          go_quiet (fail)
          go_wp2
          go_roundw
          case rel => exact ⟨k + 1, by omega, by go_num, Hs.out, hd.drewN _⟩
          case measure => simp [intOf] <;> omega
        · have he' : (nth l k != nth l' k) = true := by simpa using he
          have Hs : Hid (decide (l = l') = false) := by
            show _ = _; simp; intro e; exact he (by rw [e])
          clear he
          go_wp2_with fail
          go_quiet (fail)
          go_wp2
          go_ret
          exact ⟨ret_bool Hs.out.symm, hd.drewN _⟩
      · obtain rfl : k = n := by omega
        have Hs : Hid (decide (l = l') = true) := by
          show _ = _
          have := htk.out
          rw [List.take_of_length_le (by rw [Hl.out]; exact Nat.le_refl _), List.take_of_length_le (by rw [Hl'.out]; exact Nat.le_refl _)] at this
          simpa using this
        go_wp2_with fail
        go_ret
        exact ⟨ret_bool Hs.out.symm, hd⟩
  · have hnn : ((n : Int) != n') = true := by simp; omega
    have Hs : Hid (decide (l = l') = false) := by
      show _ = _; simp; intro e; have e1 := Hl.out; have e2 := Hl'.out; rw [e] at e1; omega
    clear hn
    go_enter Tryz.func32, Tryz.ntmps32
    go_wp2_with fail
    go_ret
    exact ⟨ret_bool Hs.out.symm, Drawn.refl _⟩

set_option maxHeartbeats 800000 in
theorem rSameRows_any (a : Option Addr) (n c : Nat) (l : List (List Int)) (a' : Option Addr) (n' c' : Nat) (l' : List (List Int)) {w : World} (h : Mat w a n l) (h' : Mat w a' n' l') :
    Calls Tryz.prog 46 #[.slice a n c, .slice a' n' c'] w (QuietBool w (decide (l = l'))) := by
  have Hl := Lib.hid h.len
  have Hl' := Lib.hid h'.len
  have hpl := h.pl
  have hpl' := h'.pl
  have hmax := h.max
  unfold maxLen at hmax
  by_cases hn : n = n'
  · subst hn
    have hnn : ((n : Int) != n) = false := by simp
    go_enter Tryz.func46, Tryz.ntmps46
    go_wp2_with fail
    go_loopw [5] (fun iv wr => ∃ k : Nat, k ≤ n ∧ iv = .int .i64 k ∧ Hid (l.take k = l'.take k) ∧ Drawn w wr) (fun i _ => n - (intOf i).toNat)
    case atStart => exact ⟨0, Nat.zero_le _, rfl, rfl, Drawn.refl _⟩
    case round =>
      obtain ⟨k, hk, rfl, htk, hd⟩ := hrel
      by_cases hlt : k < n
      · obtain ⟨b1, n1, d1, c1, i1⟩ := (h.drawn hd).cell k hlt
        obtain ⟨b2, n2, d2, c2, i2⟩ := (h'.drawn hd).cell k hlt
        have Hc := Lib.hid (rSameInts_any b1 n1 d1 _ b2 n2 d2 _ (i1.drawn (Drawn.refl wr).drew) (i2.drawn (Drawn.refl wr).drew))
        by_cases he : nthR l k = nthR l' k
        · have he' : decide (nthR l k = nthR l' k) = true := by simpa using he
          have Hs : Hid (l.take (k + 1) = l'.take (k + 1)) := nthR_take_eq htk.out (by rw [Hl.out]; exact hlt) (by rw [Hl'.out]; exact hlt) he
          rw [he'] at Hc
          clear he he'
          go_wp2_with fail
          go_region_held3 (fun V => V.cell? ⟨ablk a, aoff a + k, none⟩ = some (.slice b1 n1 d1) ∧ V.cell? ⟨ablk a', aoff a' + k, none⟩ = some (.slice b2 n2 d2)) (exact ⟨c1, c2⟩)
            (first | (go_at_call 32; ((with_reducible refine Hc.out.mono ?_); rintro e w4 ⟨rfl, m4, rfl⟩)))
          go_wp2_with fail
          go_roundw
          case rel => exact ⟨k + 1, by omega, by go_num, Hs.out, hd.drewN (1 + m4)⟩
          case measure => simp [intOf] <;> omega
        · have he' : decide (nthR l k = nthR l' k) = false := by simpa using he
          have Hs : Hid (decide (l = l') = false) := by
            show _ = _; simp; intro e; exact he (by rw [e])
          rw [he'] at Hc
          clear he he'
          go_wp2_with fail
          go_region_held3 (fun V => V.cell? ⟨ablk a, aoff a + k, none⟩ = some (.slice b1 n1 d1) ∧ V.cell? ⟨ablk a', aoff a' + k, none⟩ = some (.slice b2 n2 d2)) (exact ⟨c1, c2⟩)
            (first | (go_at_call 32; ((with_reducible refine Hc.out.mono ?_); rintro e w4 ⟨rfl, m4, rfl⟩)))
          go_wp2_with fail
          go_ret
          exact ⟨ret_bool Hs.out.symm, hd.drewN (1 + m4)⟩
      · obtain rfl : k = n := by omega
        have Hs : Hid (decide (l = l') = true) := by
          show _ = _
          have := htk.out
          rw [List.take_of_length_le (by rw [Hl.out]; exact Nat.le_refl _), List.take_of_length_le (by rw [Hl'.out]; exact Nat.le_refl _)] at this
          simpa using this
        go_wp2_with fail
        go_ret
        exact ⟨ret_bool Hs.out.symm, hd⟩
  · have hnn : ((n : Int) != n') = true := by simp; omega
    have Hs : Hid (decide (l = l') = false) := by
      show _ = _; simp; intro e; have e1 := Hl.out; have e2 := Hl'.out; rw [e] at e1; omega
    clear hn
    go_enter Tryz.func46, Tryz.ntmps46
    go_wp2_with fail
    go_ret
    exact ⟨ret_bool Hs.out.symm, Drawn.refl _⟩

set_option maxRecDepth 100000 in
set_option maxHeartbeats 1600000 in
theorem rEntries_any (P M : Int) (am : Option Addr) (mn cm : Nat) (a : Option Addr) (n c : Nat) (l : List Int) (w : World) (hi : Ints w a n l) :
    Calls Tryz.prog 99 #[.agg #[.int .i64 P, .int .i64 M, .slice am mn cm], .slice a n c] w fun e w' => e = .returned (.int .i64 (elsE (orderS P M) l)) ∧ Below w.heap.size w w' := by
  have Hlen := Lib.hid hi.len
  have hpl := hi.pl
  have hmax := hi.max
  unfold maxLen at hmax
  go_enter Tryz.func99, Tryz.ntmps99
  go_wp2_with fail
  obtain ⟨W, hW⟩ : ∃ W : World, W = w.alloc (.cells #[.int .i64 P, .int .i64 M, .slice am mn cm] 24) := ⟨_, rfl⟩
  rw [← hW]
  have hbW : Below w.heap.size w W := by rw [hW]; exact below1 _ _
  have x0 : Box W w.heap.size [.int .i64 P, .int .i64 M, .slice am mn cm] := by rw [hW]; exact Box.new _ _ _ rfl
  have hiW := hi.keep hbW
  have hS : ∀ k, k < n → ∀ V, Below W.heap.size W V → V.cell? ⟨w.heap.size, 0, none⟩ = some (.int .i64 P) ∧ V.cell? ⟨w.heap.size, 1, none⟩ = some (.int .i64 M) ∧ V.cell? ⟨w.heap.size, 2, none⟩ = some (.slice am mn cm) ∧ V.cell? ⟨ablk a, aoff a + k, none⟩ = some (.int .i64 (nth l k)) ∧ Below W.heap.size W V := by
    intro k hk V hV
    have x1 := x0.keep hV
    exact ⟨x1.cell 0 rfl, x1.cell 1 rfl, x1.cell 2 rfl, (hiW.keep hV).cell k hk, hV⟩
  have HS := Lib.hid hS
  clear hW x0 hS
  go_loopw [5] (fun iv wr => ∃ k : Nat, k ≤ n ∧ iv = .int .i64 k ∧ Hid ((l.take k).all (isQ (orderS P M)) = true) ∧ Below W.heap.size W wr) (fun iv _ => n - (intOf iv).toNat)
  case atStart => exact ⟨0, Nat.zero_le _, rfl, by show _ = _; simp, Below.refl _ _⟩
  case round =>
    obtain ⟨k, hk, rfl, hall, hbr⟩ := hrel
    by_cases hlt : k < n
    · have HSk : Hid (∀ V, Below W.heap.size W V → V.cell? ⟨w.heap.size, 0, none⟩ = some (.int .i64 P) ∧ V.cell? ⟨w.heap.size, 1, none⟩ = some (.int .i64 M) ∧ V.cell? ⟨w.heap.size, 2, none⟩ = some (.slice am mn cm) ∧ V.cell? ⟨ablk a, aoff a + k, none⟩ = some (.int .i64 (nth l k)) ∧ Below W.heap.size W V) := HS.out k hlt
      have hkl : k < l.length := by rw [Hlen.out]; exact hlt
      have Hbr := Lib.hid hbr
      have Hq := Lib.hid (rIs_any P M am mn cm (nth l k))
      clear hbr
      by_cases hq : isQ (orderS P M) (nth l k) = true
      · have Hs : Hid ((l.take (k + 1)).all (isQ (orderS P M)) = true) := all_take_succ hkl hall.out (by rw [← nth_getElem hkl]; exact hq)
        rw [hq] at Hq
        clear hq
        go_wp2_with fail
        go_region_held3 (fun V => V.cell? ⟨w.heap.size, 0, none⟩ = some (.int .i64 P) ∧ V.cell? ⟨w.heap.size, 1, none⟩ = some (.int .i64 M) ∧ V.cell? ⟨w.heap.size, 2, none⟩ = some (.slice am mn cm) ∧ V.cell? ⟨ablk a, aoff a + k, none⟩ = some (.int .i64 (nth l k)) ∧ Below W.heap.size W V)
          ((refine HSk.out _ ?_; first | exact Hbr.out.drew | exact Below.next Hbr.out.drew hb4))
          (first | (go_at_call 142; ((with_reducible refine (Hq.out _).mono ?_); rintro e w4 ⟨rfl, hb4⟩)))
        go_wp2_with fail
        go_roundw
        case rel => exact ⟨k + 1, by omega, by go_num, Hs.out, Below.next Hbr.out.drew hb4⟩
        case measure => simp [intOf] <;> omega
      · have hq' : isQ (orderS P M) (nth l k) = false := by simpa using hq
        have Hs : Hid (elsE (orderS P M) l = 2) := by show _ = _; rw [elsE, elsQ, all_false_at hkl (by rw [← nth_getElem hkl]; exact hq')]; rfl
        rw [hq'] at Hq
        clear hq hq'
        go_wp2_with fail
        go_region_held3 (fun V => V.cell? ⟨w.heap.size, 0, none⟩ = some (.int .i64 P) ∧ V.cell? ⟨w.heap.size, 1, none⟩ = some (.int .i64 M) ∧ V.cell? ⟨w.heap.size, 2, none⟩ = some (.slice am mn cm) ∧ V.cell? ⟨ablk a, aoff a + k, none⟩ = some (.int .i64 (nth l k)) ∧ Below W.heap.size W V)
          ((refine HSk.out _ ?_; first | exact Hbr.out.drew | exact Below.next Hbr.out.drew hb4))
          (first | (go_at_call 142; ((with_reducible refine (Hq.out _).mono ?_); rintro e w4 ⟨rfl, hb4⟩)))
        go_wp2_with fail
        go_ret
        exact ⟨ret_int Hs.out.symm, Below.next hbW (Below.next Hbr.out.drew hb4)⟩
    · obtain rfl : k = n := by omega
      have Hs : Hid (elsE (orderS P M) l = 0) := by
        have := hall.out
        rw [List.take_of_length_le (by rw [Hlen.out]; exact Nat.le_refl _)] at this
        show _ = _; rw [elsE, elsQ, this]; rfl
      go_wp2_with fail
      go_ret
      exact ⟨ret_int Hs.out.symm, Below.next hbW hbr⟩
end

/- The walks of the reference of layer 4: divides, irreducible. -/
section
open Go.RowKit

/-- what divides computes: its rounds -/
def dvJ (P : Int) (low : List Int) (v : Nat) (c : Int) (r : List Int) : Nat → List Int
  | 0 => r
  | j + 1 => (dvJ P low v c r j).set (v + j) ((nth (dvJ P low v c r j) (v + j) + (P - c) * nth low j) % P)
def dvT (P : Int) (low : List Int) (n : Nat) (r : List Int) : Nat → List Int
  | 0 => r
  | k + 1 => (dvJ P low (n - 1 - k - low.length) (nth (dvT P low n r k) (n - 1 - k)) (dvT P low n r k) low.length).set (n - 1 - k) 0
def dvB (P : Int) (low mod : List Int) : Bool := (dvT P low (mod.length + 1) (mod ++ [1]) (mod.length + 1 - low.length)).all fun x => x == 0

theorem dvJ_len (P : Int) (low : List Int) (v : Nat) (c : Int) (r : List Int) : ∀ j, (dvJ P low v c r j).length = r.length
  | 0 => rfl
  | j + 1 => by rw [dvJ, List.length_set, dvJ_len P low v c r j]
theorem dvT_len (P : Int) (low : List Int) (n : Nat) (r : List Int) : ∀ k, (dvT P low n r k).length = r.length
  | 0 => rfl
  | k + 1 => by rw [dvT, List.length_set, dvJ_len, dvT_len P low n r k]
theorem dvJ_dig {P : Int} (hP : 0 < P) (low : List Int) (v : Nat) (c : Int) {r : List Int} (h : Dig P r) : ∀ j, Dig P (dvJ P low v c r j)
  | 0 => h
  | j + 1 => Dig.setMod hP (dvJ_dig hP low v c h j) _ _
theorem dvT_dig {P : Int} (hP : 0 < P) (low : List Int) (n : Nat) {r : List Int} (h : Dig P r) : ∀ k, Dig P (dvT P low n r k)
  | 0 => h
  | k + 1 => Dig.set (dvJ_dig hP low _ _ (dvT_dig hP low n h k) _) _ (by omega) hP
theorem Dig.snoc {P : Int} {l : List Int} (h : Dig P l) {x : Int} (h0 : 0 ≤ x) (h1 : x < P) : Dig P (l ++ [x]) := by
  intro i
  by_cases hi : i < l.length
  · have e : nth (l ++ [x]) i = nth l i := by simp only [nth, List.getD_eq_getElem?_getD]; rw [List.getElem?_append_left hi]
    rw [e]; exact h i
  · by_cases hj : i = l.length
    · subst hj
      have e : nth (l ++ [x]) l.length = x := by simp [nth]
      rw [e]; exact ⟨h0, h1⟩
    · rw [nth_out (by simp; omega)]; omega

set_option maxRecDepth 100000 in
set_option maxHeartbeats 4000000 in
theorem rDivides_any (al : Option Addr) (d cl : Nat) (low : List Int) (am : Option Addr) (mn cm : Nat) (mod : List Int) (P : Int) (w : World) (hl : Ints w al d low) (hm : Ints w am mn mod) (hp2 : 2 ≤ P) (hp256 : P ≤ 256)
    (hdl : Dig P low) (hdm : Dig P mod) (hd1 : 1 ≤ d) (hdn : d ≤ mn) (hmn : mn ≤ 8) :
    Calls Tryz.prog 175 #[.slice al d cl, .slice am mn cm, .int .i64 P] w fun e w' => e = .returned (.bool (dvB P low mod)) ∧ Below w.heap.size w w' := by
  have hP : 0 < P := by omega
  have Hll := Lib.hid hl.len
  have Hml := Lib.hid hm.len
  have hpll := hl.pl
  have Hdl := Lib.hid hdl
  have HDB : Hid (dvB P low mod = (dvT P low (mn + 1) (mod ++ [1]) (mn + 1 - d)).all fun x => x == 0) := by show _ = _; rw [dvB, hm.len, hl.len]
  have HD0 : Hid (Dig P (mod ++ [1])) := hdm.snoc (by omega) (by omega)
  have HL0 : Hid ((mod ++ [1]).length = mn + 1) := by show _ = _; rw [List.length_append, hm.len]; rfl
  have hO1 := own_emp w 3
  have hbe := below1 w (.cells #[] 3)
  have hme := hm.keep hbe
  have hpm := hm.pl
  clear hdl hdm
  go_enter Tryz.func175, Tryz.ntmps175
  go_wp2_with (at_builtin; first
        | (refine wpList_appAll (by rfl) (.tmp 15) (.tmp 16) 22 3 (by rfl) (.int .i64 0) 8 Tryz.underlying22 infoInt (by rfl) w.heap.size _ 0 0 [] (by rfl) hO1 am mn cm (mod.map (Value.int .i64)) (by rfl) hpm (by simp [Hml.out]) (Ints.news hme) (ints_oneCell _ _) (by omega) (by unfold maxLen; omega) (Below.size hbe) ?_; intro a3 c3 w3 hown3 hgr3 hap3; have hb3 : Below w.heap.size w w3 := Below.app (B := w.heap.size) (e := 3) (xs := []) hbe hO1 hgr3 (Nat.le_refl _) (Below.size hbe); rw [Nat.zero_add] at hown3 ⊢; rw [List.nil_append] at hown3)
        | (refine wpList_push rfl _ _ 22 3 rfl (.int .i64 0) 8 Tryz.underlying22 infoInt rfl w.heap.size a3 mn c3 _ rfl (hown3.alloc _) ⟨w3.heap.size, 0, none⟩ 1 (.int .i64 1) rfl (cell_new w3 _ _) rfl (by omega) (by unfold maxLen; omega) (by have h1 := Below.size hb3; simp; omega) ?_; intro a1 c1 w1 hown1 hgr1 hap1))
  have hb4 : Below w.heap.size w w1 := Below.app (Below.next hb3 (below1 _ _)) (hown3.alloc _) hgr1 (Nat.le_refl _) (Nat.le_trans hb3.size (Below.size (below1 _ _)))
  have hown : w1.ownsRow w.heap.size 3 1 (.slice a1 (mn + 1) c1) (mn + 1) ((mod ++ [1]).map (Value.int .i64)) := by simpa using hown1
  have ha1 : a1 ≠ none → w.heap.size ≤ ablk a1 := fun h => (own_ne hown h).1
  obtain ⟨n, hn⟩ : ∃ n, mn + 1 = n := ⟨_, rfl⟩
  have Hn := Lib.hid hn
  have hn9 : n ≤ 9 := by omega
  have hdn' : d + 1 ≤ n := by omega
  obtain ⟨r0, hr0⟩ : ∃ r0, mod ++ [1] = r0 := ⟨_, rfl⟩
  rw [hr0, hn] at hown HDB
  rw [hr0] at HD0
  rw [hr0, hn] at HL0
  have hnv : (((mn + 1 : Nat) : Int)) = n := by omega
  have hnv2 : (mn : Int) + 1 = n := by omega
  have hlw := hl.keep hb4
  have hS : ∀ V, Below w.heap.size w V → Ints V al d low := fun V hV => hl.keep hV
  have HS := Lib.hid hS
  rw [hn]
  clear hown1 hgr1 hap1 hown3 hgr3 hap3 hr0 hn hS hO1 hbe hme hlw
  go_wp2_with fail
  clear hnv hnv2
  go_loopw [9] (fun iv wr => ∃ k t : Nat, t + k + 1 = n ∧ d ≤ t + 1 ∧ iv = .int .i64 t ∧ wr.ownsRow w.heap.size 3 1 (.slice a1 n c1) n ((dvT P low n r0 k).map (Value.int .i64)) ∧ Only a1 w1 wr) (fun iv _ => (intOf iv).toNat)
  case atStart => exact ⟨0, n - 1, by omega, by omega, by have := Hn.out; congr 1; omega, hown, Only.refl _ _⟩
  case round =>
    obtain ⟨k, t, htk, hdt, rfl, hownk, honlyk⟩ := hrel
    have hbk : Below w.heap.size w wr := hb4.trans (honlyk.below ha1 hb4.size)
    by_cases hti : d ≤ t
    · have Htk := Lib.hid htk
      have Hrk : Hid (dvT P low n r0 (k + 1) = (dvJ P low (t - d) (nth (dvT P low n r0 k) t) (dvT P low n r0 k) d).set t 0) := by
        show _ = _; rw [dvT, Hll.out, show n - 1 - k = t by omega]
      have Hrd : Hid (Dig P (dvT P low n r0 k)) := dvT_dig hP low n HD0.out k
      obtain ⟨C2, hC2⟩ : ∃ C2, dvT P low n r0 k = C2 := ⟨_, rfl⟩
      rw [hC2] at hownk Hrk Hrd
      have htn : t < n := by omega
      have hti' : (t : Int) < n := by omega
      obtain ⟨it0, mt0⟩ := Ints.own hownk
      have c0 := it0.cell t htn
      have hp0 := it0.pl
      have b2 := Hrd.out t
      clear hC2 htk
      go_wp2_with fail
      obtain ⟨cc, hcc⟩ : ∃ cc, nth C2 t = cc := ⟨_, rfl⟩
      rw [hcc] at b2 Hrk
      rw [hcc]
      clear hcc c0 it0 mt0
      go_loopw [11] (fun iv wr => ∃ j : Nat, j ≤ d ∧ iv = .int .i64 j ∧ wr.ownsRow w.heap.size 3 1 (.slice a1 n c1) n ((dvJ P low (t - d) cc C2 j).map (Value.int .i64)) ∧ Only a1 w1 wr) (fun iv _ => d - (intOf iv).toNat)
      case atStart => exact ⟨0, Nat.zero_le _, rfl, hownk, honlyk⟩
      case round =>
        obtain ⟨j, hj, rfl, hown2, honly2⟩ := hrel
        have hbr2 : Below w.heap.size w wr := hb4.trans (honly2.below ha1 hb4.size)
        have j1 := HS.out wr hbr2
        by_cases hlt2 : j < d
        · have Hcj : Hid (dvJ P low (t - d) cc C2 (j + 1) = (dvJ P low (t - d) cc C2 j).set (t - d + j) ((nth (dvJ P low (t - d) cc C2 j) (t - d + j) + (P - cc) * nth low j) % P)) := rfl
          have hcd := dvJ_dig hP low (t - d) cc Hrd.out j
          obtain ⟨T, hT⟩ : ∃ T, dvJ P low (t - d) cc C2 j = T := ⟨_, rfl⟩
          rw [hT] at hown2 Hcj hcd
          clear hT
          obtain ⟨it, mt⟩ := Ints.own hown2
          obtain ⟨u, hu⟩ : ∃ u, t - d + j = u := ⟨_, rfl⟩
          have hun : u < n := by omega
          have ct := it.cell u hun
          have cM := j1.cell j hlt2
          have ft := (mt (by omega)).2 u hun
          have hplt := it.pl
          have b1 := hcd u
          have b3 := Hdl.out j
          have hme := mul_bd (show 0 ≤ P - cc by omega) (show P - cc ≤ 256 by omega) b3.1 (show nth low j ≤ 256 by omega)
          have hP0 : P ≠ 0 := by omega
          rw [hu] at Hcj
          obtain ⟨Z, hZ⟩ : ∃ Z, (nth T u + (P - cc) * nth low j) % P = Z := ⟨_, rfl⟩
          have Hcj2 : Hid (dvJ P low (t - d) cc C2 (j + 1) = T.set u Z) := by show _ = _; rw [Hcj.out, hZ]
          obtain ⟨v, hv⟩ : ∃ v, t - d = v := ⟨_, rfl⟩
          have r0' : IntKind.i64.wrap ((t : Int) - d) = (v : Int) := by rw [IntWalk.i64_in _ (by omega)]; omega
          have r1 : IntKind.i64.wrap ((v : Int) + j) = (u : Int) := by rw [IntWalk.i64_in _ (by omega)]; omega
          have r2 : IntKind.i64.wrap (P - cc) = P - cc := IntWalk.i64_in _ (by omega)
          have r3 : IntKind.i64.wrap ((P - cc) * nth low j) = (P - cc) * nth low j := IntWalk.i64_in _ (by omega)
          have r4 : IntKind.i64.wrap (nth T u + (P - cc) * nth low j) = nth T u + (P - cc) * nth low j := IntWalk.i64_in _ (by omega)
          have r5 : (nth T u + (P - cc) * nth low j).tmod P = Z := by rw [← hZ]; exact IntWalk.rem_in _ _ (by omega)
          have q1 : (0 : Int) ≤ u := by omega
          have q2 : (u : Int) < n := by omega
          have q4 : (j : Int) < d := by omega
          clear hZ hu hv Hcj
          go_wp2_with fail
          go_still_tail 26, (by kernel_rfl)
          change wpList _ _ _ _ _ wr.drew
          generalize hwd : wr.drew = wd
          have fd : wd.frozen? ⟨ablk a1, aoff a1 + u, none⟩ = false := by rw [← hwd]; exact ft
          have cd : wd.cell? ⟨ablk a1, aoff a1 + u, none⟩ = some (.int .i64 (nth T u)) := by rw [← hwd]; exact ct
          have Hwd := Lib.hid hwd
          clear hwd r0' r1 r2 r3 r4 r5
          go_wp2_with fail
          go_roundw
          case rel =>
            obtain rfl := Hwd.out
            have hdr : Drawn wr wr.drew := (Drawn.refl wr).drew
            refine ⟨j + 1, by omega, by go_num, ?_, honly2.trans ((Only.drawn hdr).trans (Only.set _ u _ (by intro e; have := hplt (by omega); rw [e] at this; cases this)))⟩
            have h1 := own_set (w := wr.drew) hown2 u hun (.int .i64 Z)
            rw [← List.map_set, ← Hcj2.out] at h1
            exact h1
          case measure => simp [intOf] <;> omega
        · obtain rfl : j = d := by omega
          obtain ⟨it, mt⟩ := Ints.own hown2
          have ct := it.cell t htn
          have ft := (mt (by omega)).2 t htn
          have hplt := it.pl
          go_wp2_with fail
          go_roundw
          case rel =>
            have h1 := own_set hown2 t htn (.int .i64 0)
            rw [← List.map_set, ← Hrk.out] at h1
            exact ⟨k + 1, t - 1, by have := Htk.out; omega, by omega, by congr 1; omega, h1, honly2.trans (Only.set _ t _ (by intro e; have := hplt (by omega); rw [e] at this; cases this))⟩
          case measure => simp [intOf] <;> omega
    · have hkf : k = n - d := by omega
      have Hfin : Hid (dvB P low mod = (dvT P low n r0 k).all fun x => x == 0) := by show _ = _; rw [HDB.out, hkf]
      have HlT : Hid ((dvT P low n r0 k).length = n) := by show _ = _; rw [dvT_len]; exact HL0.out
      obtain ⟨C2, hC2⟩ : ∃ C2, dvT P low n r0 k = C2 := ⟨_, rfl⟩
      rw [hC2] at hownk Hfin HlT
      have iC := (Ints.own hownk).1
      have hpC := iC.pl
      clear hC2 htk hkf hownk
      go_wp2_with fail
      go_loop [12] (fun iv => ∃ j : Nat, j ≤ n ∧ iv = .int .i64 j ∧ Hid ((C2.take j).all (fun x => x == 0) = true)) (fun iv => n - (intOf iv).toNat)
      case atStart => exact ⟨0, Nat.zero_le _, rfl, by show _ = _; simp⟩
      case round =>
        obtain ⟨j, hj, rfl, hall⟩ := hrel
        by_cases hlt : j < n
        · have cj := iC.cell j hlt
          have hjl : j < C2.length := by rw [HlT.out]; exact hlt
          by_cases hz : nth C2 j = 0
          · have hz' : (nth C2 j != 0) = false := by simpa using hz
            have Hs : Hid ((C2.take (j + 1)).all (fun x => x == 0) = true) := all_take_succ hjl hall.out (by rw [← nth_getElem hjl, hz]; rfl)
            clear hz
            go_wp2_with fail
            go_round
            case rel => exact ⟨j + 1, by omega, by go_num, Hs.out⟩
            case measure => simp [intOf] <;> omega
          · have hz' : (nth C2 j != 0) = true := by simpa using hz
            have Hs : Hid (dvB P low mod = false) := by show _ = _; rw [Hfin.out]; exact all_false_at hjl (by rw [← nth_getElem hjl]; simpa using hz)
            clear hz
            go_wp2_with fail
            go_ret
            exact ⟨ret_bool Hs.out.symm, hbk⟩
        · obtain rfl : j = n := by omega
          have Hs : Hid (dvB P low mod = true) := by
            have := hall.out
            rw [List.take_of_length_le (by rw [HlT.out]; exact Nat.le_refl _)] at this
            show _ = _; rw [Hfin.out, this]
          go_wp2_with fail
          go_ret
          exact ⟨ret_bool Hs.out.symm, hbk⟩

/-- no monic polynomial of a degree from 1 to half of its own divides the one with the low coefficients mod -/
def irD (P : Int) (mod : List Int) (d q : Nat) : Bool := (List.range q).all fun v => !dvB P (digs v P d) mod
def irTo (P : Int) (mod : List Int) (k : Nat) : Bool := (List.range k).all fun d => irD P mod (d + 1) (P ^ (d + 1)).toNat
def irrB (P : Int) (mod : List Int) : Bool := irTo P mod (mod.length / 2)

theorem range_all_succ {p : Nat → Bool} {k : Nat} (h : (List.range k).all p = true) (hk : p k = true) : (List.range (k + 1)).all p = true := by
  rw [List.range_succ, List.all_append, h]; simp [hk]
theorem range_all_no {p : Nat → Bool} {k n : Nat} (hk : k < n) (h : p k = false) : (List.range n).all p = false := by
  rw [List.all_eq_false]; exact ⟨k, List.mem_range.2 hk, by simp [h]⟩

set_option maxRecDepth 100000 in
set_option maxHeartbeats 4000000 in
theorem rIrreducible_any (am : Option Addr) (mn cm : Nat) (mod : List Int) (P : Int) (w : World) (hm : Ints w am mn mod) (hp2 : 2 ≤ P) (hp256 : P ≤ 256) (hdm : Dig P mod) (hmn : mn ≤ 8) (hpw : P ^ mn ≤ 256) :
    Calls Tryz.prog 127 #[.slice am mn cm, .int .i64 P] w fun e w' => e = .returned (.bool (irrB P mod)) ∧ Below w.heap.size w w' := by
  have Hml := Lib.hid hm.len
  have Hdm := Lib.hid hdm
  have HP : Hid (∀ k, k ≤ mn → 1 ≤ P ^ k ∧ P ^ k ≤ 256) := fun k hk => ⟨by have := pow_mono (show 1 ≤ P by omega) (Nat.zero_le k); rwa [Int.pow_zero] at this, Int.le_trans (pow_mono (show 1 ≤ P by omega) hk) hpw⟩
  have HI : Hid (irrB P mod = irTo P mod (mn / 2)) := by show _ = _; rw [irrB, hm.len]
  clear hdm hpw
  go_enter Tryz.func127, Tryz.ntmps127
  go_wp2_with fail
  go_loopw [5, 6] (fun cv dv wr => ∃ d : Nat, 1 ≤ d ∧ 2 * d ≤ mn + 2 ∧ dv = .int .i64 d ∧ cv = .int .i64 (P ^ (d - 1)) ∧ Hid (irTo P mod (d - 1) = true) ∧ Below w.heap.size w wr) (fun _ dv _ => mn + 2 - (intOf dv).toNat)
  case atStart => exact ⟨1, by omega, by omega, rfl, by simp, by show _ = _; simp [irTo], Below.refl _ _⟩
  case round =>
    obtain ⟨d, hd1, hd2, rfl, rfl, hir, hbr⟩ := hrel
    by_cases hlt : 2 * d ≤ mn
    · have hpe := HP.out (d - 1) (by omega)
      have hpe1 := HP.out d (by omega)
      have hps : P ^ d = P ^ (d - 1) * P := by
        have h1 := Int.pow_succ P (d - 1)
        have h2 : (d - 1).succ = d := Nat.sub_add_cancel hd1
        rwa [h2] at h1
      obtain ⟨q, hq⟩ : ∃ q : Nat, P ^ d = q := ⟨(P ^ d).toNat, by omega⟩
      have HQ : Hid (irTo P mod d = (irTo P mod (d - 1) && irD P mod d q)) := by
        have e1 : irTo P mod d = (List.range ((d - 1) + 1)).all fun d => irD P mod (d + 1) (P ^ (d + 1)).toNat := by rw [Nat.sub_add_cancel hd1]; rfl
        show _ = _; rw [e1, List.range_succ, List.all_append]
        simp only [List.all_cons, List.all_nil, Bool.and_true]
        rw [Nat.sub_add_cancel hd1, hq]; rfl
      have Hps : Hid (P ^ (d - 1) * P = (q : Int)) := by show _ = _; rw [← hps, hq]
      have hq256 : q ≤ 256 := by omega
      have Hq := Lib.hid hq
      have Hlen : Hid (∀ v : Nat, (digs v P d).length = d) := fun v => digs_length _ _ _
      have Hdd : Hid (∀ v : Nat, Dig P (digs v P d)) := fun v => Dig.digs (by omega) _ _
      have Hf0 : Hid (∀ v : Nat, v < q → dvB P (digs v P d) mod = true → irrB P mod = false) := fun v hv hd => by
        rw [HI.out]
        refine range_all_no (k := d - 1) (by omega) ?_
        rw [Nat.sub_add_cancel hd1, hq, Int.toNat_natCast]
        exact range_all_no hv (by rw [hd]; rfl)
      clear hps hpe1 hq
      obtain ⟨pe, hpe'⟩ : ∃ pe, P ^ (d - 1) = pe := ⟨_, rfl⟩
      rw [hpe'] at Hps hpe
      rw [hpe']
      have hps2 := Hps.out
      have hltd : decide (2 * (d : Int) ≤ mn) = true := by simp; omega
      have hltn : decide (2 * d ≤ mn) = true := by simp; omega
      clear hpe'
      go_wp2_with fail
      clear hps2
      go_loopw [7] (fun vv wx => ∃ v : Nat, v ≤ q ∧ vv = .int .i64 v ∧ Hid ((List.range v).all (fun v => !dvB P (digs v P d) mod) = true) ∧ Below w.heap.size w wx) (fun vv _ => q - (intOf vv).toNat)
      case atStart => exact ⟨0, Nat.zero_le _, rfl, by show _ = _; simp, hbr⟩
      case round =>
        obtain ⟨v, hv, rfl, hall, hbx⟩ := hrel
        by_cases hvq : v < q
        · obtain ⟨D, hD⟩ : ∃ D, digs v P d = D := ⟨_, rfl⟩
          have Hl := Lib.hid (Hlen.out v)
          have Hg := Lib.hid (Hdd.out v)
          have Hf := Lib.hid (Hf0.out v hvq)
          have HDg := Lib.hid (rdigits_any v P d wr (by omega) (by omega) (by omega) (by omega))
          rw [hD] at Hl Hg Hf HDg
          have HD := Lib.hid hD
          clear hD
          go_wp2_with fail
          refine HDg.out.mono ?_
          rintro e1 w1 ⟨a1, c1, rfl, hown1, hb1⟩
          rw [Hl.out] at hown1 ⊢
          have hi1 := (Ints.own hown1).1
          have hbx1 := Below.next hbx hb1
          clear hown1
          go_wp2_with fail
          refine (rDivides_any a1 d c1 D am mn cm mod P w1 hi1 (hm.keep hbx1) hp2 hp256 Hg.out Hdm.out hd1 (by omega) hmn).mono ?_
          rintro e2 w2 ⟨rfl, hb2⟩
          have hbx2 := Below.next hbx1 hb2
          by_cases hdv : dvB P D mod = true
          · have Hf2 := Lib.hid (Hf.out hdv)
            rw [hdv]
            clear hdv
            go_wp2_with fail
            go_ret
            exact ⟨ret_bool Hf2.out.symm, hbx2⟩
          · have hdv' : dvB P D mod = false := by simpa using hdv
            have Hs : Hid ((List.range (v + 1)).all (fun v => !dvB P (digs v P d) mod) = true) := range_all_succ hall.out (by rw [HD.out, hdv']; rfl)
            rw [hdv']
            clear hdv hdv'
            go_wp2_with fail
            go_roundw
            case rel => exact ⟨v + 1, by omega, by go_num, Hs.out, hbx2⟩
            case measure => simp [intOf] <;> omega
        · obtain rfl : v = q := by omega
          have Hs : Hid (irTo P mod d = true) := by show _ = _; rw [HQ.out, hir.out, irD, hall.out]; rfl
          go_wp2_with fail
          go_roundw
          case rel => exact ⟨d + 1, by omega, by omega, by go_num, by rw [Nat.add_sub_cancel, Hq.out], Hs.out, hbx⟩
          case measure => simp [intOf] <;> omega
    · have Hs : Hid (irrB P mod = true) := by show _ = _; rw [HI.out, show mn / 2 = d - 1 by omega]; exact hir.out
      go_wp2_with fail
      go_ret
      exact ⟨ret_bool Hs.out.symm, hbr⟩
end

/- The walk of the reference of layer 4: Check. -/
section
open Go.RowKit

/-- what the reference takes for a field -/
def fieldRB (P M : Int) (mod : List Int) : Bool := shapeB P M mod && (M == 1 || irrB P mod)

theorem shapeB_no0 {P M : Int} {mod : List Int} (h : orderS P M = 0) : shapeB P M mod = false := by simp [shapeB, h]
theorem shapeB_noP {P M : Int} {mod : List Int} (h : primeB P.toNat = false) : shapeB P M mod = false := by simp [shapeB, h]

set_option maxRecDepth 100000 in
set_option maxHeartbeats 4000000 in
theorem rFieldCheck_any (P M : Int) (am : Option Addr) (mn cm : Nat) (mod : List Int) (w : World) (hmod : Ints w am mn mod) :
    Calls Tryz.prog 87 #[.agg #[.int .i64 P, .int .i64 M, .slice am mn cm]] w fun e w' => e = .returned (.int .i64 (errField (fieldRB P M mod))) ∧ Below w.heap.size w w' := by
  have Hml := Lib.hid hmod.len
  have hplm := hmod.pl
  have hmax := hmod.max
  unfold maxLen at hmax
  go_enter Tryz.func87, Tryz.ntmps87
  go_wp2_with fail
  obtain ⟨W, hW⟩ : ∃ W : World, W = w.alloc (.cells #[.int .i64 P, .int .i64 M, .slice am mn cm] 24) := ⟨_, rfl⟩
  rw [← hW]
  have hbW : Below w.heap.size w W := by rw [hW]; exact below1 _ _
  have x0 : Box W w.heap.size [.int .i64 P, .int .i64 M, .slice am mn cm] := by rw [hW]; exact Box.new _ _ _ rfl
  have HX := Lib.hid x0
  clear hW x0
  refine (rOrder_any P M am mn cm W).mono ?_
  rintro e w1 ⟨rfl, hb1⟩
  have hbw1 := Below.next hbW hb1
  have xU := HX.out.keep hb1
  have d0 := xU.cell 0 rfl
  have d1 := xU.cell 1 rfl
  have d2 := xU.cell 2 rfl
  have hm1 := (hmod.keep hbW).keep hb1
  clear xU
  by_cases ho : orderS P M = 0
  · have Hf : Hid (errField (fieldRB P M mod) = 1) := by show _ = _; rw [fieldRB, shapeB_no0 ho]; rfl
    rw [ho]
    clear ho
    go_wp2_with fail
    go_ret
    exact ⟨ret_int Hf.out.symm, hbw1⟩
  · obtain ⟨m, rfl, hrf⟩ := RF.of ho
    have hp2 := hrf.p2
    have hp256 := hrf.p256
    have hm1' := hrf.m1
    have hm8 := hrf.m8
    have hoo : (orderS P m == 0) = false := by simpa using ho
    have Ho := Lib.hid ho
    obtain ⟨p, rfl⟩ : ∃ p : Nat, P = p := ⟨P.toNat, by omega⟩
    clear ho
    by_cases hpr : primeB p = true
    · have Hpr := Lib.hid hpr
      have Hc := Lib.hid (rPrime_any p w1 (by omega) (by omega))
      rw [hpr] at Hc
      clear hpr
      have hsh : shapeB p m mod = (if (m : Int) = 1 then mod.length == 0 else decide ((mod.length : Int) = m) && mod.all fun c => decide (0 ≤ c) && decide (c < p)) := by
        have h1 : (orderS p m != 0) = true := by have := Ho.out; simpa using this
        rw [shapeB, h1, Int.toNat_natCast, Hpr.out]; rfl
      have Hsh := Lib.hid hsh
      clear hsh
      by_cases hM : m = 1
      · have hM' : ((m : Int) == 1) = true := by simp [hM]
        have hMi : (m : Int) = 1 := by omega
        have HfR : Hid (fieldRB p m mod = (mod.length == 0)) := by show _ = _; rw [fieldRB, Hsh.out, if_pos hMi, hM']; simp
        clear hM hMi
        by_cases hl : mn = 0
        · have hl' : ((mn : Int) != 0) = false := by simp [hl]
          have Hf : Hid (errField (fieldRB p m mod) = 0) := by show _ = _; rw [HfR.out, Hml.out, hl]; rfl
          clear hl
          go_wp2_with (go_at_call 126; refine Hc.out.mono ?_; rintro e w2 ⟨rfl, rfl⟩)
          go_ret
          exact ⟨ret_int Hf.out.symm, hbw1⟩
        · have hl' : ((mn : Int) != 0) = true := by simp; omega
          have Hf : Hid (errField (fieldRB p m mod) = 1) := by
            show _ = _; rw [HfR.out, Hml.out]
            have : (mn == 0) = false := by simpa using hl
            rw [this]; rfl
          clear hl
          go_wp2_with (go_at_call 126; refine Hc.out.mono ?_; rintro e w2 ⟨rfl, rfl⟩)
          go_ret
          exact ⟨ret_int Hf.out.symm, hbw1⟩
      · have hM' : ((m : Int) == 1) = false := by simp; omega
        have hMi : ¬ (m : Int) = 1 := by omega
        have HfR : Hid (fieldRB p m mod = (decide ((mod.length : Int) = m) && (mod.all fun c => decide (0 ≤ c) && decide (c < p)) && irrB p mod)) := by
          show _ = _; rw [fieldRB, Hsh.out, if_neg hMi, hM']; simp
        clear hM hMi
        by_cases hl : mn = m
        · have hl' : ((mn : Int) != m) = false := by simp [hl]
          have HfR2 : Hid (fieldRB p m mod = ((mod.all fun c => decide (0 ≤ c) && decide (c < p)) && irrB p mod)) := by show _ = _; rw [HfR.out, Hml.out, hl]; simp
          have Hmn : Hid (mn = m) := hl
          have hmnm : (mn : Int) = m := by omega
          clear hl hmnm
          go_wp2_with (go_at_call 126; refine Hc.out.mono ?_; rintro e w2 ⟨rfl, rfl⟩)
          go_loopw [3] (fun iv wr => ∃ k : Nat, k ≤ m ∧ iv = .int .i64 k ∧ Hid ((mod.take k).all (fun c => decide (0 ≤ c) && decide (c < p)) = true) ∧ Drawn w1 wr) (fun iv _ => m - (intOf iv).toNat)
          case atStart => exact ⟨0, Nat.zero_le _, rfl, by show _ = _; simp, Drawn.refl _⟩
          case round =>
            obtain ⟨k, hk, rfl, hall, hd⟩ := hrel
            have e0 := hd.cell d0
            have e1 := hd.cell d1
            have e2 := hd.cell d2
            have hmr := hm1.drawn hd
            by_cases hlt : k < m
            · have hkmn : k < mn := by rw [Hmn.out]; exact hlt
              have ck := hmr.cell k hkmn
              have hkl : k < mod.length := by rw [Hml.out]; exact hkmn
              have hkmn' : (k : Int) < mn := by omega
              by_cases h0 : 0 ≤ nth mod k
              · have t0 : decide (nth mod k < 0) = false := by simp; omega
                by_cases h1 : nth mod k < p
                · have t1 : decide ((p : Int) ≤ nth mod k) = false := by simp; omega
                  have Hs : Hid ((mod.take (k + 1)).all (fun c => decide (0 ≤ c) && decide (c < p)) = true) := all_take_succ hkl hall.out (by rw [← nth_getElem hkl]; simp [h0, h1])
                  go_wp2_with fail
                  go_quiet (fail)
                  go_wp2
                  go_roundw
                  case rel => exact ⟨k + 1, by omega, by go_num, Hs.out, hd.drewN _⟩
                  case measure => simp [intOf] <;> omega
                · have t1 : decide ((p : Int) ≤ nth mod k) = true := by simp; omega
                  have Hf : Hid (errField (fieldRB p m mod) = 1) := by show _ = _; rw [HfR2.out, all_false_at hkl (by rw [← nth_getElem hkl]; simp [h1])]; rfl
                  go_wp2_with fail
                  go_quiet (fail)
                  go_wp2
                  go_ret
                  exact ⟨ret_int Hf.out.symm, Below.next hbw1 (hd.drewN _).below⟩
              · have t0 : decide (nth mod k < 0) = true := by simp; omega
                have Hf : Hid (errField (fieldRB p m mod) = 1) := by show _ = _; rw [HfR2.out, all_false_at hkl (by rw [← nth_getElem hkl]; simp [h0])]; rfl
                go_wp2_with fail
                go_quiet (fail)
                go_wp2
                go_ret
                exact ⟨ret_int Hf.out.symm, Below.next hbw1 (hd.drewN _).below⟩
            · obtain rfl : k = m := by omega
              have Hall : Hid ((mod.all fun c => decide (0 ≤ c) && decide (c < p)) = true) := by
                have := hall.out
                rwa [List.take_of_length_le (by rw [Hml.out, Hmn.out]; exact Nat.le_refl _)] at this
              have HfR3 : Hid (fieldRB p k mod = irrB p mod) := by show _ = _; rw [HfR2.out, Hall.out]; simp
              have hdig : Dig (p : Int) mod := Dig.of_mem (by omega) fun x hx => by
                have := List.all_eq_true.1 Hall.out x hx
                simpa using this
              have hpw : (p : Int) ^ mn ≤ 256 := by rw [Hmn.out]; exact hrf.pw
              have hmn8 : mn ≤ 8 := by rw [Hmn.out]; exact hm8
              go_wp2_with fail
              refine (rIrreducible_any am mn cm mod p wr hmr hp2 hp256 hdig hmn8 hpw).mono ?_
              rintro e w4 ⟨rfl, hb4⟩
              have hbw4 := Below.next (Below.next hbw1 hd.below) hb4
              by_cases hir : irrB p mod = true
              · have Hf : Hid (errField (fieldRB p k mod) = 0) := by show _ = _; rw [HfR3.out, hir]; rfl
                rw [hir]
                clear hir
                go_wp2_with fail
                go_ret
                exact ⟨ret_int Hf.out.symm, hbw4⟩
              · have hir' : irrB p mod = false := by simpa using hir
                have Hf : Hid (errField (fieldRB p k mod) = 1) := by show _ = _; rw [HfR3.out, hir']; rfl
                rw [hir']
                clear hir hir'
                go_wp2_with fail
                go_ret
                exact ⟨ret_int Hf.out.symm, hbw4⟩
        · have hl' : ((mn : Int) != m) = true := by simp; omega
          have Hf : Hid (errField (fieldRB p m mod) = 1) := by
            show _ = _; rw [HfR.out, Hml.out]
            have : decide ((mn : Int) = m) = false := by simp; omega
            rw [this]; rfl
          clear hl
          go_wp2_with (go_at_call 126; refine Hc.out.mono ?_; rintro e w2 ⟨rfl, rfl⟩)
          go_ret
          exact ⟨ret_int Hf.out.symm, hbw1⟩
    · have hpr' : primeB p = false := by simpa using hpr
      have Hf : Hid (errField (fieldRB p m mod) = 1) := by show _ = _; rw [fieldRB, shapeB_noP (by simpa using hpr')]; rfl
      have Hc := Lib.hid (rPrime_any p w1 (by omega) (by omega))
      rw [hpr'] at Hc
      clear hpr hpr'
      go_wp2_with (go_at_call 126; refine Hc.out.mono ?_; rintro e w2 ⟨rfl, rfl⟩)
      go_ret
      exact ⟨ret_int Hf.out.symm, hbw1⟩
end

/- The walks of the references: Check of layer 9. -/
section
open Go.RowKit

def rmatE (P M : Int) (mod : List Int) (cols : Int) (L : List (List Int)) : Int := if fieldRB P M mod = true then matE (orderS P M) cols L else 1

set_option maxRecDepth 100000 in
set_option maxHeartbeats 4000000 in
theorem rMatCheck_any (P M : Int) (am : Option Addr) (mn cm : Nat) (mod : List Int) (cols : Int) (a : Option Addr) (n c : Nat) (L : List (List Int)) (w : World) (hmod : Ints w am mn mod) (hi : Mat w a n L) :
    Calls Tryz.prog 128 #[.agg #[.int .i64 P, .int .i64 M, .slice am mn cm], .agg #[.int .i64 cols, .slice a n c]] w fun e w' => e = .returned (.int .i64 (rmatE P M mod cols L)) ∧ Below w.heap.size w w' := by
  have Hlen := Lib.hid hi.len
  have hpl := hi.pl
  have hmax := hi.max
  unfold maxLen at hmax
  go_enter Tryz.func128, Tryz.ntmps128
  go_wp2_with fail
  obtain ⟨W, hW⟩ : ∃ W : World, W = (w.alloc (.cells #[.int .i64 P, .int .i64 M, .slice am mn cm] 24)).alloc (.cells #[.int .i64 cols, .slice a n c] 62) := ⟨_, rfl⟩
  rw [← hW]
  have hbW : Below w.heap.size w W := by rw [hW]; exact below2 _ _ _
  have x0 : Box W w.heap.size [.int .i64 P, .int .i64 M, .slice am mn cm] := by rw [hW]; exact (Box.new _ _ _ rfl).alloc _
  have y0 : Box W (w.heap.size + 1) [.int .i64 cols, .slice a n c] := by rw [hW]; exact Box.new _ _ _ (by simp)
  have hS : ∀ V, Below W.heap.size W V → V.cell? ⟨w.heap.size, 0, none⟩ = some (.int .i64 P) ∧ V.cell? ⟨w.heap.size, 1, none⟩ = some (.int .i64 M) ∧ V.cell? ⟨w.heap.size, 2, none⟩ = some (.slice am mn cm) ∧
      V.cell? ⟨w.heap.size + 1, 0, none⟩ = some (.int .i64 cols) ∧ V.cell? ⟨w.heap.size + 1, 1, none⟩ = some (.slice a n c) ∧ Below W.heap.size W V := by
    intro V hV
    have x1 := x0.keep hV
    have y1 := y0.keep hV
    exact ⟨x1.cell 0 rfl, x1.cell 1 rfl, x1.cell 2 rfl, y1.cell 0 rfl, y1.cell 1 rfl, hV⟩
  have HS := Lib.hid hS
  have hiW := hi.keep hbW
  clear hW x0 y0 hS
  refine (rFieldCheck_any P M am mn cm mod W (hmod.keep hbW)).mono ?_
  rintro e w1 ⟨rfl, hb1⟩
  have hbw1 := Below.next hbW hb1
  by_cases hB : fieldRB P M mod = true
  · have HB : Hid (rmatE P M mod cols L = matE (orderS P M) cols L) := by show _ = _; rw [rmatE, if_pos hB]
    have hE : errField (fieldRB P M mod) = 0 := by rw [hB]; rfl
    rw [hE]
    obtain ⟨q, hq⟩ : ∃ q, orderS P M = q := ⟨_, rfl⟩
    have Hq := Lib.hid hq
    rw [hq] at HB
    obtain ⟨d0, d1, d2, d3, d4, _⟩ := HS.out w1 hb1
    clear hB hE hq
    by_cases b1 : cols < 0
    · have Hf : Hid (rmatE P M mod cols L = 3) := by show _ = _; rw [HB.out, matE, if_pos (.inl b1)]
      have t1 : decide (cols < 0) = true := by simpa using b1
      go_wp2_with fail
      go_ret
      exact ⟨ret_int Hf.out.symm, hbw1⟩
    have t1 : decide (cols < 0) = false := by simpa using b1
    by_cases b2 : 256 < cols
    · have Hf : Hid (rmatE P M mod cols L = 3) := by show _ = _; rw [HB.out, matE, if_pos (.inr (.inl b2))]
      have t2 : decide (256 < cols) = true := by simpa using b2
      go_wp2_with fail
      go_ret
      exact ⟨ret_int Hf.out.symm, hbw1⟩
    have t2 : decide (256 < cols) = false := by simpa using b2
    by_cases b3 : 256 < n
    · have Hf : Hid (rmatE P M mod cols L = 3) := by show _ = _; rw [HB.out, matE, if_pos (.inr (.inr (by rw [Hlen.out]; exact b3)))]
      have t3 : decide (256 < (n : Int)) = true := by simp; omega
      go_wp2_with fail
      go_ret
      exact ⟨ret_int Hf.out.symm, hbw1⟩
    have t3 : decide (256 < (n : Int)) = false := by simp; omega
    have Hm : Hid (rmatE P M mod cols L = if shapeQ cols L = false then 3 else if L.all (elsQ q) then 0 else 2) := by
      show _ = _; rw [HB.out, matE, if_neg (by rw [Hlen.out]; omega)]
    have hi1 := hiW.keep hb1
    clear b1 b2
    go_wp2_with fail
    go_loopw [6] (fun iv wr => ∃ k : Nat, k ≤ n ∧ iv = .int .i64 k ∧ Hid ((L.take k).all (fun r => decide ((r.length : Int) = cols)) = true) ∧ Drawn w1 wr) (fun iv _ => n - (intOf iv).toNat)
    case atStart => exact ⟨0, Nat.zero_le _, rfl, by show _ = _; simp, Drawn.refl _⟩
    case round =>
      obtain ⟨k, hk, rfl, hall, hd⟩ := hrel
      have hir := hi1.drawn hd
      have e3 := hd.cell d3
      have e4 := hd.cell d4
      by_cases hlt : k < n
      · obtain ⟨ra, rn, rc, hcell, hrow⟩ := hir.cell k hlt
        have hkL : k < L.length := by rw [Hlen.out]; exact hlt
        have hrl := hrow.len
        rw [nthR_getElem hkL] at hrl
        have Hrl := Lib.hid hrl
        clear hrl
        by_cases he : (rn : Int) = cols
        · have he' : ((rn : Int) != cols) = false := by simpa using he
          have Hs : Hid ((L.take (k + 1)).all (fun r => decide ((r.length : Int) = cols)) = true) := all_take_succ hkL hall.out (by rw [Hrl.out]; simpa using he)
          clear he
          go_wp2_with fail
          go_quiet (fail)
          go_wp2
          go_roundw
          case rel => exact ⟨k + 1, by omega, by go_num, Hs.out, hd.drewN _⟩
          case measure => simp [intOf] <;> omega
        · have he' : ((rn : Int) != cols) = true := by simpa using he
          have Hs : Hid (rmatE P M mod cols L = 3) := by
            show _ = _; rw [Hm.out, if_pos]
            exact all_false_at hkL (by simp only [Hrl.out]; simpa using he)
          clear he
          go_wp2_with fail
          go_quiet (fail)
          go_wp2
          go_ret
          exact ⟨ret_int Hs.out.symm, Below.next hbw1 (hd.drewN _).below⟩
      · obtain rfl : k = n := by omega
        have Hm2 : Hid (rmatE P M mod cols L = if L.all (elsQ q) then 0 else 2) := by
          have := hall.out; rw [List.take_of_length_le (by rw [Hlen.out]; exact Nat.le_refl _)] at this
          show _ = _; rw [Hm.out, if_neg (by rw [shapeQ, this]; simp)]
        have hbr : Below W.heap.size W wr := Below.next hb1 hd.below
        have hir2 := hir
        clear d0 d1 d2 d3 d4 hall
        go_wp2_with fail
        clear e3 e4
        go_loopw [7] (fun iv wx => ∃ j : Nat, j ≤ k ∧ iv = .int .i64 j ∧ Hid ((L.take j).all (elsQ q) = true) ∧ Below W.heap.size W wx) (fun iv _ => k - (intOf iv).toNat)
        case atStart => exact ⟨0, Nat.zero_le _, rfl, by show _ = _; simp, hbr⟩
        case round =>
          obtain ⟨j, hj, rfl, hall2, hbx⟩ := hrel
          obtain ⟨d0, d1, d2, d3, d4, _⟩ := HS.out _ hbx
          by_cases hlt : j < k
          · have hiX := hiW.keep hbx
            obtain ⟨ra, rn, rc, hcell, hrow⟩ := hiX.cell j hlt
            have hjL : j < L.length := by rw [Hlen.out]; exact hlt
            have HC := Lib.hid (rEntries_any P M am mn cm ra rn rc (nthR L j) _ (hrow.keep (Below.refl _ _).drew))
            have hSj : ∀ V, Below wr.heap.size wr V → V.cell? ⟨w.heap.size, 0, none⟩ = some (.int .i64 P) ∧ V.cell? ⟨w.heap.size, 1, none⟩ = some (.int .i64 M) ∧ V.cell? ⟨w.heap.size, 2, none⟩ = some (.slice am mn cm) ∧
                V.cell? ⟨w.heap.size + 1, 1, none⟩ = some (.slice a k c) ∧ V.cell? ⟨ablk a, aoff a + j, none⟩ = some (.slice ra rn rc) := fun V hV => by
              obtain ⟨f0, f1, f2, f3, f4, _⟩ := HS.out V (Below.next hbx hV)
              exact ⟨f0, f1, f2, f4, cell_keep hV hcell⟩
            have HSj := Lib.hid hSj
            have Hbx := Lib.hid hbx
            rw [Hq.out] at HC
            clear hSj hbx
            by_cases he : elsQ q (nthR L j) = true
            · have he2 : elsE q (nthR L j) = 0 := by rw [elsE, he]; rfl
              rw [he2] at HC
              rw [nthR_getElem hjL] at he
              have Hs : Hid ((L.take (j + 1)).all (elsQ q) = true) := all_take_succ hjL hall2.out he
              clear he he2
              go_wp2_with fail
              go_region_held3 (fun V => V.cell? ⟨w.heap.size, 0, none⟩ = some (.int .i64 P) ∧ V.cell? ⟨w.heap.size, 1, none⟩ = some (.int .i64 M) ∧ V.cell? ⟨w.heap.size, 2, none⟩ = some (.slice am mn cm) ∧
                  V.cell? ⟨w.heap.size + 1, 1, none⟩ = some (.slice a k c) ∧ V.cell? ⟨ablk a, aoff a + j, none⟩ = some (.slice ra rn rc))
                ((refine HSj.out _ ?_; first | exact (Below.refl _ _).drew | exact Below.next (Below.refl _ _).drew hb4))
                (first | (go_at_call 99; ((with_reducible refine HC.out.mono ?_); rintro e w4 ⟨rfl, hb4⟩)))
              go_wp2_with fail
              go_roundw
              case rel => exact ⟨j + 1, by omega, by go_num, Hs.out, Below.next Hbx.out (Below.next (Below.refl _ _).drew hb4)⟩
              case measure => simp [intOf] <;> omega
            · have he2 : elsE q (nthR L j) = 2 := by rw [elsE, if_neg he]
              rw [he2] at HC
              rw [nthR_getElem hjL] at he
              have Hs : Hid (rmatE P M mod cols L = 2) := by
                show _ = _; rw [Hm2.out, all_false_at hjL (by simpa using he)]; rfl
              clear he he2
              go_wp2_with fail
              go_region_held3 (fun V => V.cell? ⟨w.heap.size, 0, none⟩ = some (.int .i64 P) ∧ V.cell? ⟨w.heap.size, 1, none⟩ = some (.int .i64 M) ∧ V.cell? ⟨w.heap.size, 2, none⟩ = some (.slice am mn cm) ∧
                  V.cell? ⟨w.heap.size + 1, 1, none⟩ = some (.slice a k c) ∧ V.cell? ⟨ablk a, aoff a + j, none⟩ = some (.slice ra rn rc))
                ((refine HSj.out _ ?_; first | exact (Below.refl _ _).drew | exact Below.next (Below.refl _ _).drew hb4))
                (first | (go_at_call 99; ((with_reducible refine HC.out.mono ?_); rintro e w4 ⟨rfl, hb4⟩)))
              go_wp2_with fail
              go_ret
              exact ⟨ret_int Hs.out.symm, Below.next hbW (Below.next Hbx.out (Below.next (Below.refl _ _).drew hb4))⟩
          · obtain rfl : j = k := by omega
            have Hs : Hid (rmatE P M mod cols L = 0) := by
              have := hall2.out; rw [List.take_of_length_le (by rw [Hlen.out]; exact Nat.le_refl _)] at this
              show _ = _; rw [Hm2.out, this]; rfl
            go_wp2_with fail
            go_ret
            exact ⟨ret_int Hs.out.symm, Below.next hbW hbx⟩
  · have hB' : fieldRB P M mod = false := by simpa using hB
    have Hf : Hid (rmatE P M mod cols L = 1) := by show _ = _; rw [rmatE, if_neg hB]
    have hE : errField (fieldRB P M mod) = 1 := by rw [hB']; rfl
    rw [hE]
    clear hB hB' hE
    go_wp2_with fail
    go_ret
    exact ⟨ret_int Hf.out.symm, hbw1⟩
end

/- The walks of the references: Canon of layer 9, Check of layers 10 and 12. -/
section
open Go.RowKit

def canR (O : FOps) (L : List (List Int)) (cols : Nat) : List (List Int) := (elimTo O L cols).1.take (elimTo O L cols).2.length
def RCanonPost (O : FOps) (L : List (List Int)) (cols : Nat) (w : World) (e : Ending) (w' : World) : Prop :=
  ∃ a c ap cp, e = .returned (.tuple #[.slice a (elimTo O L cols).2.length c, .slice ap (elimTo O L cols).2.length cp]) ∧ MatN w.heap.size w' a (elimTo O L cols).2.length (canR O L cols) ∧
    IntsN w.heap.size w' ap (elimTo O L cols).2.length (elimTo O L cols).2 ∧ Below w.heap.size w w'

set_option maxRecDepth 100000 in
set_option maxHeartbeats 1600000 in
theorem rCanon_any (P : Int) (m : Nat) (am : Option Addr) (mn cm : Nat) (mod : List Int) (a : Option Addr) (n c cols : Nat) (L : List (List Int)) (w : World) (hf : RFld w P m am mn mod) (hi : Mat w a n L)
    (hR : Rws (ElP P m) cols L) (hlen : cols ≤ 1000000) (hn : n ≤ 1000000) (hinv : ∀ p, ElP P m p → p ≠ 0 → (invR P m mod p = 1 ↔ p = 1)) :
    Calls Tryz.prog 111 #[.agg #[.int .i64 P, .int .i64 m, .slice am mn cm], .slice a n c, .int .i64 cols] w (RCanonPost (rops P m mod) L cols w) := by
  have Hlen := Lib.hid hi.len
  have Hc : Hid (∀ V, Below w.heap.size w V → Calls Tryz.prog 149 #[.agg #[.int .i64 P, .int .i64 m, .slice am mn cm], .slice a n c, .int .i64 cols] V (RElimPost (rops P m mod) L cols V)) :=
    fun V hV => rElim_any P m am mn cm mod a n c cols cols L V (hf.keep hV) (hi.keep hV) hR (Nat.le_refl _) hlen hn hinv
  obtain ⟨O, hO⟩ : ∃ O, rops P m mod = O := ⟨_, rfl⟩
  rw [hO] at Hc ⊢
  clear hO hinv hR
  go_enter Tryz.func111, Tryz.ntmps111
  go_wp2_with fail
  obtain ⟨W, hW⟩ : ∃ W : World, W = w.alloc (.cells #[.int .i64 P, .int .i64 m, .slice am mn cm] 24) := ⟨_, rfl⟩
  rw [← hW]
  have hbW : Below w.heap.size w W := by rw [hW]; exact below1 _ _
  clear hW
  refine (Hc.out W hbW).mono ?_
  rintro e w1 ⟨a1, c1, R1, ap, cp, rfl, hO1, hp1, hb1⟩
  have hpl := elimTo_piv O L cols
  have hcap := own_cap hO1.own
  have hpv := (IntsN.own hp1).mono hbW.size
  have hmt := ((MatN.own hO1).take (k := (elimTo O L cols).2.length) hpl.2).mono hbW.size
  have hF : RCanonPost O L cols w (.returned (.tuple #[.slice a1 (elimTo O L cols).2.length c1, .slice ap (elimTo O L cols).2.length cp])) w1 := ⟨a1, _, ap, cp, rfl, hmt, hpv, Below.next hbW hb1⟩
  have HF := Lib.hid hF
  have hle : (elimTo O L cols).2.length ≤ c1 := Nat.le_trans hpl.2 hcap
  clear hF hpv hmt hp1 hcap hpl
  generalize (elimTo O L cols).2.length = k at *
  go_wp2_with fail
  go_ret2
  simpa using HF.out

def rspaceE (P M : Int) (mod : List Int) (cols : Int) (L : List (List Int)) : Int :=
  if rmatE P M mod cols L = 0 then (if canR (rops P M.toNat mod) L cols.toNat = L then 0 else 5) else rmatE P M mod cols L

theorem fieldRB_rf {P M : Int} {mod : List Int} (h : fieldRB P M mod = true) : ∃ m : Nat, M = m ∧ RF P m ∧ (∀ (w : World) am mn, Ints w am mn mod → Mods w P m am mn mod) := by
  unfold fieldRB shapeB at h
  simp only [Bool.and_eq_true, bne_iff_ne, ne_eq] at h
  obtain ⟨⟨⟨h1, h2⟩, h3⟩, h4⟩ := h
  obtain ⟨m, rfl, hrf⟩ := RF.of h1
  refine ⟨m, rfl, hrf, fun w am mn hi => ⟨hi, fun hm => ?_, ?_⟩⟩
  · rw [if_neg (by omega)] at h3
    simp only [Bool.and_eq_true, decide_eq_true_eq] at h3
    have := hi.len
    omega
  · by_cases hm : (m : Int) = 1
    · rw [if_pos hm] at h3
      have : mod = [] := List.eq_nil_of_length_eq_zero (by simpa using h3)
      subst this
      exact Dig.of_mem (by have := hrf.p2; omega) (by simp)
    · rw [if_neg hm] at h3
      simp only [Bool.and_eq_true] at h3
      refine Dig.of_mem (by have := hrf.p2; omega) fun x hx => ?_
      have := List.all_eq_true.1 h3.2 x hx
      simpa using this
theorem rmatE_zero {P M : Int} {mod : List Int} {cols : Int} {L : List (List Int)} (h : rmatE P M mod cols L = 0) : fieldRB P M mod = true ∧ matE (orderS P M) cols L = 0 := by
  unfold rmatE at h
  split at h
  · rename_i h1; exact ⟨h1, h⟩
  · omega

set_option maxRecDepth 100000 in
set_option maxHeartbeats 1600000 in
theorem rSpaceCheck_any (P M : Int) (am : Option Addr) (mn cm : Nat) (mod : List Int) (cols : Int) (a : Option Addr) (n c : Nat) (L : List (List Int)) (w : World) (hmod : Ints w am mn mod) (hi : Mat w a n L)
    (hinv : fieldRB P M mod = true → ∀ p, ElP P M.toNat p → p ≠ 0 → (invR P M.toNat mod p = 1 ↔ p = 1)) :
    Calls Tryz.prog 88 #[.agg #[.int .i64 P, .int .i64 M, .slice am mn cm], .agg #[.int .i64 cols, .slice a n c]] w fun e w' => e = .returned (.int .i64 (rspaceE P M mod cols L)) ∧ Below w.heap.size w w' := by
  have Hlen := Lib.hid hi.len
  have Hinv := Lib.hid hinv
  clear hinv
  go_enter Tryz.func88, Tryz.ntmps88
  go_wp2_with fail
  obtain ⟨W, hW⟩ : ∃ W : World, W = (w.alloc (.cells #[.int .i64 P, .int .i64 M, .slice am mn cm] 24)).alloc (.cells #[.int .i64 cols, .slice a n c] 62) := ⟨_, rfl⟩
  rw [← hW]
  have hbW : Below w.heap.size w W := by rw [hW]; exact below2 _ _ _
  have x0 : Box W w.heap.size [.int .i64 P, .int .i64 M, .slice am mn cm] := by rw [hW]; exact (Box.new _ _ _ rfl).alloc _
  have y0 : Box W (w.heap.size + 1) [.int .i64 cols, .slice a n c] := by rw [hW]; exact Box.new _ _ _ (by simp)
  have HX := Lib.hid (And.intro x0 y0)
  have hiW := hi.keep hbW
  have hmW := hmod.keep hbW
  clear hW x0 y0
  refine (rMatCheck_any P M am mn cm mod cols a n c L W hmW hiW).mono ?_
  rintro e w1 ⟨rfl, hb1⟩
  have hbw1 := Below.next hbW hb1
  by_cases hE : rmatE P M mod cols L = 0
  · obtain ⟨hB, hm⟩ := rmatE_zero hE
    obtain ⟨m, rfl, hrf, hmods⟩ := fieldRB_rf hB
    obtain ⟨k, rfl, hk, hl, hR⟩ := matE_zero hm
    have HE : Hid (rspaceE P m mod k L = if canR (rops P m mod) L k = L then 0 else 5) := by show _ = _; rw [rspaceE, if_pos hE, Int.toNat_natCast, Int.toNat_natCast]
    rw [hE]
    have hinv := Hinv.out hB
    rw [Int.toNat_natCast] at hinv
    have hRw : Rws (ElP P m) k L := fun r hr => ⟨(hR r hr).1, fun x hx => by have := (hR r hr).2 x hx; rw [hrf.order] at this; exact this⟩
    have x1 := HX.out.1.keep hb1
    have y1 := HX.out.2.keep hb1
    have d0 := x1.cell 0 rfl
    have d1 := x1.cell 1 rfl
    have d2 := x1.cell 2 rfl
    have d3 := y1.cell 0 rfl
    have d4 := y1.cell 1 rfl
    have hm1 := hmW.keep hb1
    have hi1 := hiW.keep hb1
    have hn : n ≤ 1000000 := by rw [← Hlen.out]; omega
    have HC := Lib.hid (rCanon_any P m am mn cm mod a n c k L w1 ⟨hrf, hmods w1 am mn hm1⟩ hi1 hRw (by omega) hn hinv)
    clear hE hB hm hmods hR hinv hRw x1 y1
    obtain ⟨O, hO⟩ : ∃ O, rops P m mod = O := ⟨_, rfl⟩
    rw [hO] at HC HE
    clear hO
    go_wp2_with fail
    refine HC.out.mono ?_
    rintro e w2 ⟨a2, c2, ap, cp, rfl, hM2, hp2, hb2⟩
    have hbw2 := Below.next hbw1 hb2
    have y2 := (HX.out.2.keep hb1).keep hb2
    have d3 := y2.cell 0 rfl
    have d4 := y2.cell 1 rfl
    have hi2 := hi1.keep hb2
    have hM3 := hM2.mat
    have HS := Lib.hid (rSameRows_any a2 (elimTo O L k).2.length c2 (canR O L k) a n c L hM3 hi2)
    clear hM2 hp2 y2
    generalize (elimTo O L k).2.length = kk at *
    by_cases hc : canR O L k = L
    · have hc' : decide (canR O L k = L) = true := by simpa using hc
      have HF : Hid (rspaceE P m mod k L = 0) := by show _ = _; rw [HE.out, if_pos hc]
      rw [hc'] at HS
      clear hc hc'
      go_wp2_with fail
      refine HS.out.mono ?_
      rintro e w3 ⟨rfl, hd3⟩
      go_wp2_with fail
      go_ret
      exact ⟨ret_int HF.out.symm, Below.next hbw2 hd3.below⟩
    · have hc' : decide (canR O L k = L) = false := by simpa using hc
      have HF : Hid (rspaceE P m mod k L = 5) := by show _ = _; rw [HE.out, if_neg hc]
      rw [hc'] at HS
      clear hc hc'
      go_wp2_with fail
      refine HS.out.mono ?_
      rintro e w3 ⟨rfl, hd3⟩
      go_wp2_with fail
      go_ret
      exact ⟨ret_int HF.out.symm, Below.next hbw2 hd3.below⟩
  · have HE : Hid (rspaceE P M mod cols L = rmatE P M mod cols L) := by show _ = _; rw [rspaceE, if_neg hE]
    have hE' : (rmatE P M mod cols L != 0) = true := by simpa using hE
    clear hE
    go_wp2_with fail
    go_ret
    exact ⟨ret_int HE.out.symm, hbw1⟩

theorem lenE_lo {N : Int} (h : N < 1) : lenE N = 4 := by rw [lenE, if_pos (.inl h)]
theorem lenE_hi {N : Int} (h : 64 < N) : lenE N = 4 := by rw [lenE, if_pos (.inr h)]
theorem lenE_in {N : Int} (h1 : ¬ N < 1) (h2 : ¬ 64 < N) : lenE N = 0 := by rw [lenE, if_neg (by omega)]
def rcodeE (P M : Int) (mod : List Int) (N : Int) (L : List (List Int)) : Int :=
  if fieldRB P M mod = true then (if lenE N = 0 then rspaceE P M mod N L else 4) else 1

set_option maxRecDepth 100000 in
set_option maxHeartbeats 1600000 in
theorem rCodeCheck_any (P M : Int) (am : Option Addr) (mn cm : Nat) (mod : List Int) (N : Int) (a : Option Addr) (n c : Nat) (L : List (List Int)) (w : World) (hmod : Ints w am mn mod) (hi : Mat w a n L)
    (hinv : fieldRB P M mod = true → ∀ p, ElP P M.toNat p → p ≠ 0 → (invR P M.toNat mod p = 1 ↔ p = 1)) :
    Calls Tryz.prog 35 #[.agg #[.int .i64 P, .int .i64 M, .slice am mn cm, .int .i64 N, .slice a n c]] w fun e w' => e = .returned (.int .i64 (rcodeE P M mod N L)) ∧ Below w.heap.size w w' := by
  have Hinv := Lib.hid hinv
  clear hinv
  go_enter Tryz.func35, Tryz.ntmps35
  go_wp2_with fail
  obtain ⟨W, hW⟩ : ∃ W : World, W = w.alloc (.cells #[.int .i64 P, .int .i64 M, .slice am mn cm, .int .i64 N, .slice a n c] 27) := ⟨_, rfl⟩
  rw [← hW]
  have hbW : Below w.heap.size w W := by rw [hW]; exact below1 _ _
  have x0 : Box W w.heap.size [.int .i64 P, .int .i64 M, .slice am mn cm, .int .i64 N, .slice a n c] := by rw [hW]; exact Box.new _ _ _ rfl
  have HX := Lib.hid x0
  clear hW x0
  refine (rFieldCheck_any P M am mn cm mod W (hmod.keep hbW)).mono ?_
  rintro e w1 ⟨rfl, hb1⟩
  have hbw1 := Below.next hbW hb1
  by_cases hB : fieldRB P M mod = true
  · have hE : errField (fieldRB P M mod) = 0 := by rw [hB]; rfl
    rw [hE]
    have HB : Hid (rcodeE P M mod N L = if lenE N = 0 then rspaceE P M mod N L else 4) := by show _ = _; rw [rcodeE, if_pos hB]
    have x1 := HX.out.keep hb1
    have c0 := x1.cell 0 rfl
    have c1 := x1.cell 1 rfl
    have c2 := x1.cell 2 rfl
    have c3 := x1.cell 3 rfl
    have c4 := x1.cell 4 rfl
    have hm1 := (hmod.keep hbW).keep hb1
    have hi1 := (hi.keep hbW).keep hb1
    clear hE hB x1
    by_cases h1 : N < 1
    · have Hf : Hid (rcodeE P M mod N L = 4) := by show _ = _; rw [HB.out, lenE_lo h1]; rfl
      have t1 : decide (N < 1) = true := by simpa using h1
      go_wp2_with fail
      go_ret
      exact ⟨ret_int Hf.out.symm, hbw1⟩
    · have t1 : decide (N < 1) = false := by simpa using h1
      by_cases h2 : 64 < N
      · have Hf : Hid (rcodeE P M mod N L = 4) := by show _ = _; rw [HB.out, lenE_hi h2]; rfl
        have t2 : decide (64 < N) = true := by simpa using h2
        go_wp2_with fail
        go_ret
        exact ⟨ret_int Hf.out.symm, hbw1⟩
      · have t2 : decide (64 < N) = false := by simpa using h2
        have Hf : Hid (rcodeE P M mod N L = rspaceE P M mod N L) := by show _ = _; rw [HB.out, lenE_in h1 h2, if_pos rfl]
        clear h1 h2
        go_wp2_with fail
        refine (rSpaceCheck_any P M am mn cm mod N a n c L w1 hm1 hi1 Hinv.out).mono ?_
        rintro e w2 ⟨rfl, hb2⟩
        go_wp2_with fail
        go_ret
        exact ⟨ret_int Hf.out.symm, Below.next hbw1 hb2⟩
  · have hB' : fieldRB P M mod = false := by simpa using hB
    have Hf : Hid (rcodeE P M mod N L = 1) := by show _ = _; rw [rcodeE, if_neg hB]
    have hE : errField (fieldRB P M mod) = 1 := by rw [hB']; rfl
    rw [hE]
    clear hB hB' hE
    go_wp2_with fail
    go_ret
    exact ⟨ret_int Hf.out.symm, hbw1⟩
end

end Go.Proofs.YtakmnncmeefceaaGreat
