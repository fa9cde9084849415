/- The walk of matrix.add. -/
import Derived.Test.YtcflcogbpnmjeaaGreatK4
namespace Go.Proofs.YtcflcogbpnmjeaaGreat
set_option linter.unusedVariables false
set_option linter.unusedSimpArgs false
set_option linter.unusedSectionVars false

/- The walks of matrix.entries, check. -/
section
open Go.RowKit

def isQ (q x : Int) : Bool := decide (0 ≤ x) && decide (x < q)
def elsQ (q : Int) (l : List Int) : Bool := l.all (isQ q)
def elsE (q : Int) (l : List Int) : Int := if elsQ q l then 0 else 2
def shapeQ (cols : Int) (L : List (List Int)) : Bool := L.all fun r => decide ((r.length : Int) = cols)
/-- the error of a matrix over a field of q elements -/
def matE (q cols : Int) (L : List (List Int)) : Int :=
  if cols < 0 ∨ 256 < cols ∨ 256 < L.length then 3 else if shapeQ cols L = false then 3 else if L.all (elsQ q) then 0 else 2

theorem all_take_succ {α : Type} {p : α → Bool} {l : List α} {k : Nat} (hk : k < l.length) (h : (l.take k).all p = true) (hp : p l[k] = true) : (l.take (k + 1)).all p = true := by
  rw [List.take_succ_eq_append_getElem hk, List.all_append, h]; simp [hp]
theorem all_false_at {α : Type} {p : α → Bool} {l : List α} {k : Nat} (hk : k < l.length) (hp : p l[k] = false) : l.all p = false := by
  rw [List.all_eq_false]; exact ⟨_, List.getElem_mem hk, by simp [hp]⟩

variable {w : World} {b : Nat} {G : Tbl}

set_option maxHeartbeats 400000 in
theorem entries_any (a : Option Addr) (n c : Nat) (l : List Int) (h : GFw w b G) (hi : Ints w a n l) :
    Calls Tryz.prog 149 #[.pointer (some ⟨b, 0, none⟩), .slice a n c] w fun e w' => e = .returned (.int .i64 (elsE G.q l)) ∧ w = w' := by
  have hpl := hi.pl
  have hlen := hi.len
  have hmax := hi.max
  unfold maxLen at hmax
  have Hlen := Lib.hid hlen
  clear hlen
  go_enter Tryz.func149, Tryz.ntmps149
  go_wp2
  go_loop [9] (fun iv => ∃ k : Nat, k ≤ n ∧ iv = .int .i64 k ∧ Hid ((l.take k).all (isQ G.q) = true)) (fun iv => n - (intOf iv).toNat)
  case atStart => exact ⟨0, Nat.zero_le _, rfl, by show _ = _; simp⟩
  case round =>
    obtain ⟨k, hk, rfl, hall⟩ := hrel
    by_cases hlt : k < n
    · have hc := hi.cell k hlt
      by_cases hq : isQ G.q (nth l k) = true
      · have hq' := hq
        unfold isQ at hq'
        have Hq := Lib.hid hq
        clear hq
        go_wp2_with (first | (go_at_call 119; refine (gIs (nth l k) h).mono ?_; rintro e w' ⟨rfl, rfl⟩))
        go_round
        case rel => exact ⟨k + 1, by omega, by go_num, all_take_succ (by rw [Hlen.out]; exact hlt) hall.out (by rw [← nth_getElem (by rw [Hlen.out]; exact hlt)]; exact Hq.out)⟩
        case measure => simp [intOf] <;> omega
      · have hq : isQ G.q (nth l k) = false := by simpa using hq
        have hq' := hq
        unfold isQ at hq'
        have Hf : Hid (elsQ G.q l = false) := all_false_at (k := k) (by rw [Hlen.out]; exact hlt) (by rw [← nth_getElem (by rw [Hlen.out]; exact hlt)]; exact hq)
        clear hq
        go_wp2_with (first | (go_at_call 119; refine (gIs (nth l k) h).mono ?_; rintro e w' ⟨rfl, rfl⟩))
        go_ret
        exact ⟨ret_int (by rw [elsE, Hf.out]; rfl), rfl⟩
    · obtain rfl : k = n := by omega
      have Hf : Hid (elsQ G.q l = true) := by have := hall.out; rw [List.take_of_length_le (by rw [Hlen.out]; exact Nat.le_refl _)] at this; exact this
      go_wp2
      go_ret
      exact ⟨ret_int (by rw [elsE, Hf.out]; rfl), rfl⟩


set_option maxHeartbeats 1600000 in
theorem check_any (cols : Int) (a : Option Addr) (n c : Nat) (L : List (List Int)) (h : GFw w b G) (hi : Mat w a n L) :
    Calls Tryz.prog 187 #[.pointer (some ⟨b, 0, none⟩), .agg #[.int .i64 cols, .slice a n c]] w fun e w' => e = .returned (.int .i64 (matE G.q cols L)) ∧ Below w.heap.size w w' := by
  have hpl := hi.pl
  have hlen := hi.len
  have hmax := hi.max
  unfold maxLen at hmax
  have Hlen := Lib.hid hlen
  clear hlen
  have hbox : ∀ w' : World, Below (w.heap.size + 1) (w.alloc (.cells #[.int .i64 cols, .slice a n c] 73)) w' →
      w'.cell? ⟨w.heap.size, 0, none⟩ = some (.int .i64 cols) ∧ w'.cell? ⟨w.heap.size, 1, none⟩ = some (.slice a n c) ∧ Below w.heap.size w w' := by
    intro w' h
    refine ⟨(h.cell (by simp)).trans (by simp), (h.cell (by simp)).trans (by simp), ((Below.refl _ _).alloc (Nat.le_refl _) _).trans (h.mono (by omega))⟩
  have Hbox := Lib.hid hbox
  clear hbox
  have Hal := Lib.hid ((Below.refl w.heap.size w).alloc (Nat.le_refl _) (.cells #[.int .i64 cols, .slice a n c] 73))
  by_cases b1 : cols < 0
  · have Hf : Hid (matE G.q cols L = 3) := by show _ = _; rw [matE, if_pos (.inl b1)]
    go_enter Tryz.func187, Tryz.ntmps187
    go_wp2_with fail
    go_ret
    exact ⟨ret_int Hf.out.symm, Hal.out⟩
  by_cases b2 : 256 < cols
  · have Hf : Hid (matE G.q cols L = 3) := by show _ = _; rw [matE, if_pos (.inr (.inl b2))]
    go_enter Tryz.func187, Tryz.ntmps187
    go_wp2_with fail
    go_ret
    exact ⟨ret_int Hf.out.symm, Hal.out⟩
  by_cases b3 : 256 < n
  · have Hf : Hid (matE G.q cols L = 3) := by show _ = _; rw [matE, if_pos (.inr (.inr (by rw [Hlen.out]; exact b3)))]
    have t1 : decide (cols < 0) = false := by simpa using b1
    have t2 : decide (256 < cols) = false := by simpa using b2
    have t3 : decide (256 < (n : Int)) = true := by simp; omega
    go_enter Tryz.func187, Tryz.ntmps187
    go_wp2_with fail
    go_ret
    exact ⟨ret_int Hf.out.symm, Hal.out⟩
  have Hm : Hid (matE G.q cols L = if shapeQ cols L = false then 3 else if L.all (elsQ G.q) then 0 else 2) := by
    show _ = _; rw [matE, if_neg (by rw [Hlen.out]; omega)]
  have t1 : decide (cols < 0) = false := by simpa using b1
  have t2 : decide (256 < cols) = false := by simpa using b2
  have t3 : decide (256 < (n : Int)) = false := by simp; omega
  clear b1 b2
  go_enter Tryz.func187, Tryz.ntmps187
  go_wp2_with fail
  generalize hW0 : w.alloc (.cells #[.int .i64 cols, .slice a n c] 73) = W0 at *
  have hW0s : W0.heap.size = w.heap.size + 1 := by rw [← hW0]; simp
  obtain ⟨q0, q1, hbw⟩ := Hbox.out W0 (Below.refl _ _)
  have hiW := hi.keep hbw
  clear hW0
  go_loop [27] (fun iv => ∃ k : Nat, k ≤ n ∧ iv = .int .i64 k ∧ Hid ((L.take k).all (fun r => decide ((r.length : Int) = cols)) = true)) (fun iv => n - (intOf iv).toNat)
  case atStart => exact ⟨0, Nat.zero_le _, rfl, by show _ = _; simp⟩
  case round =>
    obtain ⟨k, hk, rfl, hall⟩ := hrel
    by_cases hlt : k < n
    · obtain ⟨ra, rn, rc, hcell, hrow⟩ := hiW.cell k hlt
      have hrl := hrow.len
      have hkL : k < L.length := by rw [Hlen.out]; exact hlt
      rw [nthR_getElem hkL] at hrl
      have Hrl := Lib.hid hrl
      clear hrl
      by_cases he : (rn : Int) = cols
      · have he' : ((rn : Int) != cols) = false := by simpa using he
        have Hq : Hid (decide ((L[k].length : Int) = cols) = true) := by show _ = _; rw [Hrl.out]; simpa using he
        clear he
        go_wp2_with fail
        go_round
        case rel => exact ⟨k + 1, by omega, by go_num, all_take_succ hkL hall.out Hq.out⟩
        case measure => simp [intOf] <;> omega
      · have he' : ((rn : Int) != cols) = true := by simpa using he
        have Hq : Hid (matE G.q cols L = 3) := by
          show _ = _; rw [Hm.out, if_pos]
          exact all_false_at hkL (by simp only [Hrl.out]; simpa using he)
        clear he
        go_wp2_with fail
        go_ret
        exact ⟨ret_int Hq.out.symm, hbw⟩
    · obtain rfl : k = n := by omega
      have Hm2 : Hid (matE G.q cols L = if L.all (elsQ G.q) then 0 else 2) := by
        have := hall.out; rw [List.take_of_length_le (by rw [Hlen.out]; exact Nat.le_refl _)] at this
        show _ = _; rw [Hm.out, if_neg (by rw [shapeQ, this]; simp)]
      have hG := h.keep hbw
      go_wp2_with fail
      go_loop [40] (fun iv => ∃ j : Nat, j ≤ k ∧ iv = .int .i64 j ∧ Hid ((L.take j).all (elsQ G.q) = true)) (fun iv => k - (intOf iv).toNat)
      case atStart => exact ⟨0, Nat.zero_le _, rfl, by show _ = _; simp⟩
      case round =>
        obtain ⟨j, hj, rfl, hall2⟩ := hrel
        by_cases hlt : j < k
        · obtain ⟨ra, rn, rc, hcell, hrow⟩ := hiW.cell j hlt
          have hjL : j < L.length := by rw [Hlen.out]; exact hlt
          go_wp2_with fail
          refine (entries_any ra rn rc _ hG hrow).mono ?_
          rintro e w' ⟨rfl, rfl⟩
          by_cases he : elsQ G.q (nthR L j) = true
          · have he2 : elsE G.q (nthR L j) = 0 := by rw [elsE, he]; rfl
            rw [he2]
            rw [nthR_getElem hjL] at he
            have He := Lib.hid he
            clear he he2
            go_wp2_with fail
            go_round
            case rel => exact ⟨j + 1, by omega, by go_num, all_take_succ hjL hall2.out He.out⟩
            case measure => simp [intOf] <;> omega
          · have he2 : elsE G.q (nthR L j) = 2 := by rw [elsE, if_neg he]
            rw [he2]
            rw [nthR_getElem hjL] at he
            have Hq : Hid (matE G.q cols L = 2) := by
              show _ = _; rw [Hm2.out, all_false_at hjL (by simpa using he)]; rfl
            clear he he2
            go_wp2_with fail
            go_ret
            exact ⟨ret_int Hq.out.symm, hbw⟩
        · obtain rfl : j = k := by omega
          have Hq : Hid (matE G.q cols L = 0) := by
            have := hall2.out; rw [List.take_of_length_le (by rw [Hlen.out]; exact Nat.le_refl _)] at this
            show _ = _; rw [Hm2.out, this]; rfl
          go_wp2_with fail
          go_ret
          exact ⟨ret_int Hq.out.symm, hbw⟩
end

/- The walks of matrix.open, clone. -/
section
open Go.RowKit

/-- a slice of matrices -/
structure Mats (w : World) (a : Option Addr) (n : Nat) (l : List (Int × List (List Int))) : Prop where
  len : l.length = n
  pl : Pl a n
  max : n ≤ maxLen
  cell : ∀ i (hi : i < l.length), ∃ b m c, w.cell? ⟨ablk a, aoff a + i * 2, none⟩ = some (.int .i64 l[i].1) ∧ w.cell? ⟨ablk a, aoff a + i * 2 + 1, none⟩ = some (.slice b m c) ∧ Mat w b m l[i].2
theorem Mats.keep {w w' : World} {a : Option Addr} {n : Nat} {l : List (Int × List (List Int))} (h : Mats w a n l) (hb : Below w.heap.size w w') : Mats w' a n l := by
  refine ⟨h.len, h.pl, h.max, fun i hi => ?_⟩
  obtain ⟨b, m, c, h1, h2, h3⟩ := h.cell i hi
  exact ⟨b, m, c, cell_keep hb h1, cell_keep hb h2, h3.keep hb⟩

/-- the first error -/
def matsE (q : Int) : List (Int × List (List Int)) → Int
  | [] => 0
  | m :: l => if matE q m.1 m.2 = 0 then matsE q l else matE q m.1 m.2
theorem matsE_drop {q : Int} {l : List (Int × List (List Int))} {k : Nat} (hk : k < l.length) : matsE q (l.drop k) = if matE q l[k].1 l[k].2 = 0 then matsE q (l.drop (k + 1)) else matE q l[k].1 l[k].2 := by
  rw [List.drop_eq_getElem_cons hk, matsE]

/-- what open returns: a field whose tables these are, or an error -/
def OpenPost (P M : Int) (mod : List Int) (l : List (Int × List (List Int))) (w : World) (e : Ending) (w' : World) : Prop :=
  Below w.heap.size w w' ∧ (
  (fieldB P M mod = false ∧ e = .returned (.tuple #[.pointer none, .int .i64 1])) ∨
  (fieldB P M mod = true ∧ ∃ er, er ≠ 0 ∧ matsE (tblOf P M.toNat mod).q l = er ∧ e = .returned (.tuple #[.pointer none, .int .i64 er])) ∨
  (fieldB P M mod = true ∧ matsE (tblOf P M.toNat mod).q l = 0 ∧ ∃ b, e = .returned (.tuple #[.pointer (some ⟨b, 0, none⟩), .int .i64 0]) ∧ GFw w' b (tblOf P M.toNat mod) ∧ w.heap.size ≤ b))

set_option maxHeartbeats 1600000 in
theorem open_any (P M : Int) (am : Option Addr) (mn cm : Nat) (mod : List Int) (a : Option Addr) (n c : Nat) (l : List (Int × List (List Int))) (w : World) (hmod : Ints w am mn mod) (hl : Mats w a n l) :
    Calls Tryz.prog 144 #[.agg #[.int .i64 P, .int .i64 M, .slice am mn cm], .slice a n c] w (OpenPost P M mod l w) := by
  have hpl := hl.pl
  have hlen := hl.len
  have hmax := hl.max
  unfold maxLen at hmax
  have Hlen := Lib.hid hlen
  clear hlen
  have Hal := Lib.hid ((Below.refl w.heap.size w).alloc (Nat.le_refl _) (.cells #[.int .i64 P, .int .i64 M, .slice am mn cm] 24))
  go_enter Tryz.func144, Tryz.ntmps144
  go_wp2_with fail
  have hbw := Hal.out
  generalize w.alloc (.cells #[.int .i64 P, .int .i64 M, .slice am mn cm] 24) = W0 at *
  refine (fieldNew_any P M am mn cm mod W0 (hmod.keep hbw)).mono ?_
  rintro e w1 (⟨hB, rfl, hb1⟩ | ⟨hB, b, rfl, hGs, hbl, hb1⟩)
  · have HB := Lib.hid hB
    clear hB
    have hbw1 := Below.next hbw hb1
    go_wp2_with fail
    go_ret2
    exact ⟨hbw1, .inl ⟨HB.out, rfl⟩⟩
  · have HB := Lib.hid hB
    clear hB
    have hbw1 := Below.next hbw hb1
    have hbb : w.heap.size ≤ b := Nat.le_trans hbw.size hbl
    have hG := hGs.gf
    clear hGs
    generalize hT : tblOf P M.toNat mod = G at *
    have HT := Lib.hid hT
    clear hT
    go_wp2_with fail
    go_loopw [20] (fun iv wr => ∃ k : Nat, k ≤ n ∧ iv = .int .i64 k ∧ Hid (matsE G.q l = matsE G.q (l.drop k)) ∧ Below w1.heap.size w1 wr) (fun iv _ => n - (intOf iv).toNat)
    case atStart => exact ⟨0, Nat.zero_le _, rfl, by show _ = _; simp, Below.refl _ _⟩
    case round =>
      obtain ⟨k, hk, rfl, hall, hbr⟩ := hrel
      have hbwr := Below.next hbw1 hbr
      by_cases hlt : k < n
      · have hkl : k < l.length := by rw [Hlen.out]; exact hlt
        have hlr := hl.keep hbwr
        obtain ⟨rb, rm, rc, c1, c2, hM⟩ := hlr.cell k hkl
        have hstep := matsE_drop (q := G.q) hkl
        have Hstep := Lib.hid hstep
        clear hstep
        generalize l[k].1 = cols at *
        generalize l[k].2 = L at *
        have Hal2 := Lib.hid ((Below.refl wr.heap.size wr).alloc (Nat.le_refl _) (.cells #[.int .i64 cols, .slice rb rm rc] 73))
        go_wp2_with fail
        have hbx := Hal2.out
        generalize wr.alloc (.cells #[.int .i64 cols, .slice rb rm rc] 73) = W2 at *
        have hB2 : Below w1.heap.size w1 W2 := Below.next hbr hbx
        refine (check_any cols rb rm rc L (hG.keep hB2) (hM.keep hbx)).mono ?_
        rintro e w3 ⟨rfl, hb3⟩
        have hB3 : Below w1.heap.size w1 w3 := Below.next hB2 hb3
        by_cases he : matE G.q cols L = 0
        · have Hs : Hid (matsE G.q l = matsE G.q (l.drop (k + 1))) := by show _ = _; rw [hall.out, Hstep.out, if_pos he]
          rw [he]
          clear he
          go_wp2_with fail
          go_roundw
          case rel => exact ⟨k + 1, by omega, by go_num, Hs.out, hB3⟩
          case measure => simp [intOf] <;> omega
        · have Hs : Hid (matsE G.q l = matE G.q cols L) := by show _ = _; rw [hall.out, Hstep.out, if_neg he]
          generalize matE G.q cols L = er at *
          have he' : (er != 0) = true := by simpa using he
          have He : Hid (er ≠ 0) := he
          clear he
          go_wp2_with fail
          go_ret2
          exact ⟨Below.next hbw1 hB3, .inr (.inl ⟨HB.out, er, He.out, by rw [HT.out]; exact Hs.out, rfl⟩)⟩
      · obtain rfl : k = n := by omega
        have Hs : Hid (matsE G.q l = 0) := by show _ = _; rw [hall.out, List.drop_eq_nil_of_le (by rw [Hlen.out]; exact Nat.le_refl _)]; rfl
        go_wp2_with fail
        go_ret2
        exact ⟨hbwr, .inr (.inr ⟨HB.out, by rw [HT.out]; exact Hs.out, b, rfl, by rw [HT.out]; exact hG.keep hbr, hbb⟩)⟩
end

/- A matrix of the call's own: a slice of slices, each in a block of its own. -/
section
open Go.RowKit

def rowV (r : Option Addr × Nat) (l : List Int) : Value := .slice r.1 l.length r.2
def nthA (R : List (Option Addr × Nat)) (i : Nat) : Option Addr × Nat := R.getD i (none, 0)
theorem nthA_getElem {l : List (Option Addr × Nat)} {i : Nat} (h : i < l.length) : nthA l i = l[i] := by simp [nthA, h]
theorem nthA_set (l : List (Option Addr × Nat)) (i j : Nat) (x : Option Addr × Nat) (hi : i < l.length) : nthA (l.set i x) j = if j = i then x else nthA l j := by
  unfold nthA
  simp only [List.getD_eq_getElem?_getD, List.getElem?_set]
  by_cases h : i = j
  · subst h; simp [hi]
  · rw [if_neg h, if_neg (by omega)]
theorem nthR_set (l : List (List Int)) (i j : Nat) (x : List Int) (hi : i < l.length) : nthR (l.set i x) j = if j = i then x else nthR l j := by
  unfold nthR
  simp only [List.getD_eq_getElem?_getD, List.getElem?_set]
  by_cases h : i = j
  · subst h; simp [hi]
  · rw [if_neg h, if_neg (by omega)]
theorem nthR_replicate (n i : Nat) : nthR (List.replicate n []) i = [] := by
  simp only [nthR, List.getD_eq_getElem?_getD, List.getElem?_replicate]; split <;> rfl
theorem nthA_replicate (n i : Nat) : nthA (List.replicate n (none, 0)) i = (none, 0) := by
  simp only [nthA, List.getD_eq_getElem?_getD, List.getElem?_replicate]; split <;> rfl

theorem zip_set (R : List (Option Addr × Nat)) (L : List (List Int)) (i : Nat) (r : Option Addr × Nat) (l : List Int) :
    (List.zipWith rowV R L).set i (rowV r l) = List.zipWith rowV (R.set i r) (L.set i l) := by
  apply List.ext_getElem?
  intro j
  simp only [List.getElem?_set, List.getElem?_zipWith, List.length_zipWith]
  by_cases h : i = j
  · subst h
    by_cases h1 : i < R.length <;> by_cases h2 : i < L.length <;> simp [h1, h2, show ¬ (i < R.length ∧ i < L.length) → ¬ i < min R.length L.length from by omega]
    exact Nat.lt_min.2 ⟨h1, h2⟩
  · simp [h]

/-- an own matrix: rows R (address, capacity) with the entries L -/
structure OMat (w : World) (B : Nat) (a : Option Addr) (n c : Nat) (R : List (Option Addr × Nat)) (L : List (List Int)) : Prop where
  rl : R.length = n
  ll : L.length = n
  own : w.ownsRow B 22 1 (.slice a n c) n (List.zipWith rowV R L)
  row : ∀ i, i < n → w.ownsRow B 3 1 (.slice (nthA R i).1 (nthR L i).length (nthA R i).2) (nthR L i).length ((nthR L i).map (Value.int .i64))
  apt : ∀ i, i < n → Apt (nthA R i).1 (ablk a)
  sep : ∀ i j, i < n → j < n → i ≠ j → (nthA R i).1 = none ∨ Apt (nthA R j).1 (ablk (nthA R i).1)

/-- its blocks -/
def OIn (a : Option Addr) (R : List (Option Addr × Nat)) (b : Nat) : Prop := (a ≠ none ∧ b = ablk a) ∨ ∃ i, i < R.length ∧ (nthA R i).1 ≠ none ∧ b = ablk (nthA R i).1

/-- only the blocks of I have changed, and those of I' are these or new -/
structure Moves (w w' : World) (I I' : Nat → Prop) : Prop where
  os : w'.os = w.os
  tape : w'.tape = w.tape
  output : w'.output = w.output
  size : w.heap.size ≤ w'.heap.size
  block : ∀ b, b < w.heap.size → ¬ I b → w'.heap[b]? = w.heap[b]?
  grow : ∀ b, I' b → I b ∨ w.heap.size ≤ b

variable {w w' w'' : World} {B : Nat} {a : Option Addr} {n c : Nat} {R : List (Option Addr × Nat)} {L : List (List Int)} {I I' I'' : Nat → Prop}

theorem Moves.refl (w : World) (I : Nat → Prop) : Moves w w I I := ⟨rfl, rfl, rfl, Nat.le_refl _, fun _ _ _ => rfl, fun _ h => .inl h⟩
theorem Moves.trans (h : Moves w w' I I') (k : Moves w' w'' I' I'') : Moves w w'' I I'' := by
  refine ⟨k.os.trans h.os, k.tape.trans h.tape, k.output.trans h.output, Nat.le_trans h.size k.size, fun b hb hI => ?_, fun b hb => ?_⟩
  · refine (k.block b (Nat.lt_of_lt_of_le hb h.size) fun h' => ?_).trans (h.block b hb hI)
    rcases h.grow b h' with h2 | h2
    · exact hI h2
    · omega
  · rcases k.grow b hb with h2 | h2
    · exact h.grow b h2
    · exact .inr (Nat.le_trans h.size h2)
theorem Moves.of_below (h : Below w.heap.size w w') (I : Nat → Prop) : Moves w w' I I := ⟨h.os, h.tape, h.output, h.size, fun b hb _ => h.block b hb, fun _ h => .inl h⟩
theorem Moves.below (h : Moves w w' I I') (hI : ∀ b, I b → B ≤ b) (hB : B ≤ w.heap.size) : Below B w w' :=
  ⟨h.os, h.tape, h.output, h.size, fun b hb => h.block b (Nat.lt_of_lt_of_le hb hB) fun hi => by have := hI b hi; omega⟩
theorem Moves.cell (h : Moves w w' I I') {p : Addr} {v : Value} (hc : w.cell? p = some v) (hI : ¬ I p.block) : w'.cell? p = some v :=
  (World.cell?_of_block (w := w) (a := p) (h.block _ (World.block_lt_of_cell? w _ hc) hI)).trans hc
theorem Moves.not (h : Moves w w' I I') {b : Nat} (hb : b < w.heap.size) (hI : ¬ I b) : ¬ I' b := fun h' => by
  rcases h.grow b h' with h2 | h2
  · exact hI h2
  · omega
theorem Moves.own (h : Moves w w' I I') {e : TypeId} {a : Option Addr} {c n : Nat} {xs : List Value} (ho : w.ownsRow B e 1 (.slice a n c) n xs) (hI : a ≠ none → ¬ I (ablk a)) : w'.ownsRow B e 1 (.slice a n c) n xs := by
  rcases own_lt ho with ⟨rfl, rfl, rfl⟩ | ⟨_, hlt⟩
  · have hx := own_len ho
    obtain rfl : xs = [] := List.eq_nil_of_length_eq_zero hx
    exact own_none
  · by_cases ha : a = none
    · subst ha
      refine ⟨ho.1, ?_⟩
      rcases ho.2 with h2 | ⟨g, cap, cur, hv, _⟩
      · exact .inl h2
      · cases hv
    · exact own_block ho (h.block _ hlt (hI ha))
theorem own_ne {w : World} {e : TypeId} {a : Option Addr} {c n : Nat} {xs : List Value} (ho : w.ownsRow B e 1 (.slice a n c) n xs) (ha : a ≠ none) : B ≤ ablk a ∧ ablk a < w.heap.size := by
  rcases own_lt ho with ⟨rfl, _⟩ | h
  · exact absurd rfl ha
  · exact h

namespace OMat
theorem lt (h : OMat w B a n c R L) (b : Nat) (hb : OIn a R b) : B ≤ b ∧ b < w.heap.size := by
  rcases hb with ⟨h1, rfl⟩ | ⟨i, hi, h1, rfl⟩
  · exact own_ne h.own h1
  · exact own_ne (h.row i (by rw [h.rl] at hi; exact hi)) h1
theorem new (h : OMat w B a n c R L) {b : Nat} (hb : w.heap.size ≤ b) : ¬ OIn a R b := fun h' => by have := h.lt b h'; omega
theorem old (h : OMat w B a n c R L) {b : Nat} (hb : b < B) : ¬ OIn a R b := fun h' => by have := h.lt b h'; omega
theorem inRow {i : Nat} (h : i < R.length) (h1 : (nthA R i).1 ≠ none) : OIn a R (ablk (nthA R i).1) := .inr ⟨i, h, h1, rfl⟩

theorem of_blocks (h : OMat w B a n c R L) (hb : ∀ b, OIn a R b → w'.heap[b]? = w.heap[b]?) : OMat w' B a n c R L := by
  have key : ∀ {e : TypeId} {a' : Option Addr} {c m : Nat} {xs : List Value}, w.ownsRow B e 1 (.slice a' m c) m xs → (a' ≠ none → w'.heap[ablk a']? = w.heap[ablk a']?) → w'.ownsRow B e 1 (.slice a' m c) m xs := by
    intro e a' c m xs ho hk
    by_cases ha : a' = none
    · subst ha
      refine ⟨ho.1, ?_⟩
      rcases ho.2 with h2 | ⟨g, cap, cur, hv, _⟩
      · exact .inl h2
      · cases hv
    · exact own_block ho (hk ha)
  exact ⟨h.rl, h.ll, key h.own fun ha => hb _ (.inl ⟨ha, rfl⟩), fun i hi => key (h.row i hi) fun ha => hb _ (inRow (by rw [h.rl]; exact hi) ha), h.apt, h.sep⟩
theorem keep (h : OMat w B a n c R L) (hb : Below w.heap.size w w') : OMat w' B a n c R L := h.of_blocks fun b hi => hb.block b (h.lt b hi).2
theorem mono {B' : Nat} (h : OMat w B a n c R L) (hB : B' ≤ B) : OMat w B' a n c R L := ⟨h.rl, h.ll, own_mono h.own hB, fun i hi => own_mono (h.row i hi) hB, h.apt, h.sep⟩

theorem ints (h : OMat w B a n c R L) {i : Nat} (hi : i < n) : Ints w (nthA R i).1 (nthR L i).length (nthR L i) := (Ints.own (h.row i hi)).1
theorem cell (h : OMat w B a n c R L) {i : Nat} (hi : i < n) : w.cell? ⟨ablk a, aoff a + i, none⟩ = some (.slice (nthA R i).1 (nthR L i).length (nthA R i).2) := by
  rw [(ownsRow_cell h.own i hi).1, List.getElem?_zipWith, List.getElem?_eq_getElem (show i < R.length by rw [h.rl]; exact hi), List.getElem?_eq_getElem (show i < L.length by rw [h.ll]; exact hi),
    nthA_getElem (by rw [h.rl]; exact hi), nthR_getElem (by rw [h.ll]; exact hi)]
  rfl
theorem frozen (h : OMat w B a n c R L) {i : Nat} (hi : i < n) : w.frozen? ⟨ablk a, aoff a + i, none⟩ = false := (ownsRow_cell h.own i hi).2.1
theorem pl (h : OMat w B a n c R L) : Pl a n := by obtain ⟨a', c', hv, hp⟩ := Pl.own h.own; cases hv; exact hp
theorem ne (h : OMat w B a n c R L) (hn : 0 < n) : a ≠ none := by
  intro ha; have := h.pl hn; rw [ha] at this; cases this
theorem max (h : OMat w B a n c R L) : n ≤ maxLen := by
  rcases Nat.eq_zero_or_pos n with h0 | h0
  · subst h0; unfold maxLen; omega
  · exact (ownsRow_cell h.own 0 h0).2.2.2.2
theorem mat (h : OMat w B a n c R L) : Mat w a n L := ⟨h.ll, h.pl, h.max, fun _ hi => ⟨_, _, _, h.cell hi, h.ints hi⟩⟩

/-- another row is put at i -/
theorem setRow (h : OMat w B a n c R L) {i : Nat} (hi : i < n) {r : Option Addr} {rc : Nat} {l : List Int} (hr : w.ownsRow B 3 1 (.slice r l.length rc) l.length (l.map (Value.int .i64)))
    (ha : Apt r (ablk a)) (hs : ∀ j, j < n → j ≠ i → (nthA R j).1 = none ∨ Apt r (ablk (nthA R j).1)) :
    OMat (w.setCell ⟨ablk a, aoff a + i, none⟩ (.slice r l.length rc)) B a n c (R.set i (r, rc)) (L.set i l) := by
  have hRi : i < R.length := by rw [h.rl]; exact hi
  have hLi : i < L.length := by rw [h.ll]; exact hi
  have flip : ∀ {x y : Option Addr}, (x = none ∨ Apt y (ablk x)) → (y = none ∨ Apt x (ablk y)) := by
    intro x y hxy
    rcases hxy with rfl | rfl | h2
    · exact .inr (.inl rfl)
    · exact .inl rfl
    · exact .inr (.inr fun e => h2 e.symm)
  refine ⟨by simp [h.rl], by simp [h.ll], ?_, fun j hj => ?_, fun j hj => ?_, fun j k hj hk hjk => ?_⟩
  · have := own_set h.own i hi (.slice r l.length rc)
    rwa [show (List.zipWith rowV R L).set i (.slice r l.length rc) = _ from zip_set R L i (r, rc) l] at this
  · rw [nthA_set _ _ _ _ hRi, nthR_set _ _ _ _ hLi]
    by_cases e : j = i
    · simp only [if_pos e]
      exact own_setOther hr _ ha
    · simp only [if_neg e]
      exact own_setOther (h.row j hj) _ (h.apt j hj)
  · rw [nthA_set _ _ _ _ hRi]
    by_cases e : j = i
    · simp only [if_pos e]; exact ha
    · simp only [if_neg e]; exact h.apt j hj
  · rw [nthA_set _ _ _ _ hRi, nthA_set _ _ _ _ hRi]
    by_cases e : j = i
    · simp only [if_pos e, if_neg (show ¬ k = i by omega)]
      exact flip (hs k hk (by omega))
    · simp only [if_neg e]
      by_cases e2 : k = i
      · simp only [if_pos e2]; exact hs j hj e
      · simp only [if_neg e2]; exact h.sep j k hj hk hjk

theorem setRow_moves' (h : OMat w B a n c R L) {w' : World} (hb' : Below w.heap.size w w') {i : Nat} (hi : i < n) {r : Option Addr} {rc : Nat} (v : Value) (hr : r ≠ none → OIn a R (ablk r) ∨ w.heap.size ≤ ablk r) :
    Moves w (w'.setCell ⟨ablk a, aoff a + i, none⟩ v) (OIn a R) (OIn a (R.set i (r, rc))) := by
  have hRi : i < R.length := by rw [h.rl]; exact hi
  have hb0 : Below 0 w (w'.setCell ⟨ablk a, aoff a + i, none⟩ v) := (hb'.mono (Nat.zero_le _)).setCell (Nat.zero_le _) v
  refine ⟨hb0.os, hb0.tape, hb0.output, hb0.size, fun b hb hI => (Below.heap_setCell _ _ _ _ fun e => hI (.inl ⟨h.ne (by omega), e⟩)).trans (hb'.block b hb), fun b hb => ?_⟩
  rcases hb with hb | ⟨j, hj, h1, rfl⟩
  · exact .inl (.inl hb)
  · rw [List.length_set] at hj
    rw [nthA_set _ _ _ _ hRi] at h1 ⊢
    by_cases e : j = i
    · simp only [if_pos e] at h1 ⊢; exact hr h1
    · simp only [if_neg e] at h1 ⊢; exact .inl (.inr ⟨j, hj, h1, rfl⟩)

/-- the entries of one row have changed -/
theorem rowTo (h : OMat w B a n c R L) {i : Nat} (hi : i < n) {l : List Int} (hl : l.length = (nthR L i).length)
    (ho : w'.ownsRow B 3 1 (.slice (nthA R i).1 (nthR L i).length (nthA R i).2) (nthR L i).length (l.map (Value.int .i64)))
    (hg : ∀ b, b < w.heap.size → ((nthA R i).1 = none ∨ b ≠ ablk (nthA R i).1) → w'.heap[b]? = w.heap[b]?) : OMat w' B a n c R (L.set i l) := by
  have hRi : i < R.length := by rw [h.rl]; exact hi
  have hLi : i < L.length := by rw [h.ll]; exact hi
  have key : ∀ {e : TypeId} {a' : Option Addr} {c m : Nat} {xs : List Value}, w.ownsRow B e 1 (.slice a' m c) m xs → ((nthA R i).1 = none ∨ a' = none ∨ ablk a' ≠ ablk (nthA R i).1) → w'.ownsRow B e 1 (.slice a' m c) m xs := by
    intro e a' c m xs ho hk
    by_cases ha : a' = none
    · subst ha
      refine ⟨ho.1, ?_⟩
      rcases ho.2 with h2 | ⟨g, cap, cur, hv, _⟩
      · exact .inl h2
      · cases hv
    · exact own_block ho (hg _ (own_ne ho ha).2 (by rcases hk with hk | hk | hk; exact .inl hk; exact absurd hk ha; exact .inr hk))
  refine ⟨h.rl, by simp [h.ll], ?_, fun j hj => ?_, h.apt, h.sep⟩
  · have e : List.zipWith rowV R (L.set i l) = List.zipWith rowV R L := by
      apply List.ext_getElem?
      intro j
      simp only [List.getElem?_zipWith, List.getElem?_set]
      by_cases e : i = j
      · subst e
        simp only [hLi, if_true, List.getElem?_eq_getElem hRi, List.getElem?_eq_getElem hLi]
        rw [nthR_getElem hLi] at hl
        simp [rowV, hl]
      · simp [e]
    rw [e]
    exact key h.own (by rcases h.apt i hi with h2 | h2; exact .inl h2; exact .inr (.inr fun e => h2 e.symm))
  · rw [nthR_set _ _ _ _ hLi]
    by_cases e : j = i
    · subst e; simp only [if_true, hl]; exact ho
    · simp only [if_neg e]
      refine key (h.row j hj) ?_
      rcases h.sep i j hi hj (by omega) with h2 | h2 | h2
      · exact .inl h2
      · exact .inr (.inl h2)
      · exact .inr (.inr h2)
end OMat

/-- a matrix whose rows are nil -/
theorem omat_made {w : World} {B : Nat} {a : Option Addr} {n c : Nat} (h : w.ownsRow B 22 1 (.slice a n c) n (List.replicate n (.slice none 0 0))) :
    OMat w B a n c (List.replicate n (none, 0)) (List.replicate n []) := by
  refine ⟨by simp, by simp, ?_, fun i hi => ?_, fun i hi => ?_, fun i j hi hj hij => ?_⟩
  · simpa [rowV] using h
  · rw [nthR_replicate, nthA_replicate]; exact own_none
  · rw [nthA_replicate]; exact .inl rfl
  · rw [nthA_replicate]; exact .inl rfl
end

/- The walks of slices.Clone, matrix.clone, matrix.add. -/
section
open Go.RowKit

variable {w : World} {b : Nat} {G : Tbl}

theorem Ints.none_nil {w : World} {n : Nat} {l : List Int} (h : Ints w none n l) : n = 0 ∧ l = [] := by
  have h0 : n = 0 := by
    rcases Nat.eq_zero_or_pos n with h0 | h0
    · exact h0
    · have := h.pl h0; cases this
  exact ⟨h0, List.eq_nil_of_length_eq_zero (by rw [h.len]; exact h0)⟩

set_option maxRecDepth 100000 in
set_option maxHeartbeats 800000 in
theorem clone1_any (a : Option Addr) (n c : Nat) (l : List Int) (hi : Ints w a n l) (hn : n ≤ 1000000) :
    Calls Tryz.prog 110 #[.slice a n c] w (NewInts w l) := by
  have heq := fun (w : World) (a : Option Addr) (l c : Nat) => Go.run_eql_slice_nil (P := Tryz.prog) w 22 3 a l c Tryz.underlying22
  by_cases ha : a = none
  · subst ha
    obtain ⟨rfl, rfl⟩ := hi.none_nil
    have hin : (none : Option Addr).isNone = true := rfl
    go_enter Tryz.func110, Tryz.ntmps110
    go_wp2_with fail
    go_ret
    exact ⟨none, 0, rfl, own_none, Below.refl _ _⟩
  · have hin : a.isNone = false := by cases a with | none => exact absurd rfl ha | some x => rfl
    have hlen := hi.len
    have Hlen := Lib.hid hlen
    have hO := own_emp w 3
    have hal := Lib.hid ((Below.refl w.heap.size w).alloc (Nat.le_refl _) (.cells #[] 3))
    clear ha hlen
    go_enter Tryz.func110, Tryz.ntmps110
    go_upto_region 3 with fail
    iterate 7 go_step
    have hbal := hal.out
    generalize w.alloc (.cells #[] 3) = W0 at *
    have hiW := hi.keep hbal
    refine wpList_appAll (by rfl) (.tmp 5) (.tmp 6) 22 3 (by rfl) (.int .i64 0) 8 Tryz.underlying22 infoInt (by rfl) w.heap.size _ 0 0 [] (by rfl) hO a n c (l.map (Value.int .i64)) (by rfl) hiW.pl (by simp [Hlen.out]) (Ints.news hiW) (ints_oneCell _ _) (by omega) (by unfold maxLen; omega) (Below.size hbal) ?_
    intro a3 c3 w3 hown3 hgr3 hap3
    have hb3 : Below w.heap.size w w3 := Below.app (B := w.heap.size) (e := 3) (xs := []) hbal hO hgr3 (Nat.le_refl _) (Below.size hbal)
    rw [Nat.zero_add] at hown3 ⊢
    rw [List.nil_append] at hown3
    go_wp2_with fail
    go_ret
    exact ⟨a3, c3, by rw [Hlen.out]; rfl, by rw [Hlen.out]; exact hown3, hb3⟩

/-- new rows, all of the call's own -/
def NewMat (w : World) (L : List (List Int)) (e : Ending) (w' : World) : Prop :=
  ∃ a c R, e = .returned (.slice a L.length c) ∧ OMat w' w.heap.size a L.length c R L ∧ Below w.heap.size w w'

theorem infoInts : (Tryz.prog.info? 22).map (fun i => (i.zero, i.size, i.bytes)) = some (some (.slice none 0 0), 1, 24) := by kernel_rfl
def rowsTo (n k : Nat) (L : List (List Int)) : List (List Int) := L.take k ++ List.replicate (n - k) []
theorem rowsTo_set {n k : Nat} {L : List (List Int)} (hk : k < n) (hL : L.length = n) : (rowsTo n k L).set k (nthR L k) = rowsTo n (k + 1) L := by
  unfold rowsTo
  have e1 : (L.take k).length = k := by simp; omega
  rw [List.take_succ_eq_append_getElem (by omega), List.set_append_right (h := by omega), e1, show n - k = (n - (k + 1)) + 1 by omega, List.replicate_succ, Nat.sub_self, List.set_cons_zero, List.append_assoc, nthR_getElem (by omega)]
  rfl
theorem rowsTo_all {n : Nat} {L : List (List Int)} (hL : L.length = n) : rowsTo n n L = L := by
  simp [rowsTo, List.take_of_length_le (show L.length ≤ n by omega)]

set_option maxRecDepth 100000 in
set_option maxHeartbeats 800000 in
theorem clone_any (a : Option Addr) (n c : Nat) (L : List (List Int)) (hi : Mat w a n L) (hn : n ≤ 1000000) (hL : ∀ l ∈ L, l.length ≤ 1000000) :
    Calls Tryz.prog 188 #[.slice a n c] w (NewMat w L) := by
  have hpl := hi.pl
  have Hlen := Lib.hid hi.len
  have HL := Lib.hid hL
  clear hL
  go_enter Tryz.func188, Tryz.ntmps188
  go_wp2_with (at_make; refine wpList_mk rfl _ _ 25 22 rfl (.slice none 0 0) 24 Tryz.underlying25 infoInts rfl n rfl rfl (by omega) (by unfold maxLen; omega) ?_; intro a1 w1 hown hbel hge hlt)
  have hO := omat_made hown
  have hO1 : ∃ R, OMat w1 w.heap.size a1 n n R (rowsTo n 0 L) := ⟨_, by simpa [rowsTo] using hO⟩
  clear hO hown
  go_loopw [11] (fun iv wr => ∃ k : Nat, k ≤ n ∧ iv = .int .i64 k ∧ (∃ R, OMat wr w.heap.size a1 n n R (rowsTo n k L)) ∧ Below w.heap.size w wr) (fun iv _ => n - (intOf iv).toNat)
  case atStart => exact ⟨0, Nat.zero_le _, rfl, hO1, hbel⟩
  case round =>
    obtain ⟨k, hk, rfl, ⟨R, hO⟩, hbr⟩ := hrel
    by_cases hlt : k < n
    · have hiW := hi.keep hbr
      obtain ⟨ra, rn, rc, hcell, hrow⟩ := hiW.cell k hlt
      have hkL : k < L.length := by rw [Hlen.out]; exact hlt
      have hrl : rn ≤ 1000000 := by rw [← hrow.len, nthR_getElem hkL]; exact HL.out _ (List.getElem_mem hkL)
      have hset := rowsTo_set hlt Hlen.out
      have Hset := Lib.hid hset
      clear hset
      have hpl1 := hO.pl
      generalize nthR L k = l at *
      go_wp2_with fail
      refine (clone1_any ra rn rc l hrow hrl).mono ?_
      rintro e w3 ⟨a3, c3, rfl, hown3, hb3⟩
      have hO3 := hO.keep hb3
      have hf := hO3.frozen hlt
      have hc := hO3.cell hlt
      have hB := (OMat.lt hO3 (ablk a1) (.inl ⟨hO3.ne (by omega), rfl⟩)).1
      have hbr3 := Below.next hbr hb3
      have hsz := hbr.size
      have hnew := OMat.setRow hO3 hlt (own_mono hown3 hsz) (own_apt hown3 (OMat.lt hO (ablk a1) (.inl ⟨hO.ne (by omega), rfl⟩)).2) (fun j hj _ => by
        by_cases hn : (nthA R j).1 = none
        · exact .inl hn
        · exact .inr (own_apt hown3 (OMat.lt hO _ (OMat.inRow (by rw [hO.rl]; exact hj) hn)).2))
      rw [Hset.out] at hnew
      have Hnew := Lib.hid hnew
      clear hnew
      go_wp2_with fail
      go_roundw
      case rel => exact ⟨k + 1, by omega, by go_num, ⟨_, Hnew.out⟩, hbr3.setCell hB _⟩
      case measure => simp [intOf] <;> omega
    · obtain rfl : k = n := by omega
      rw [rowsTo_all Hlen.out] at hO
      go_wp2_with fail
      go_ret
      exact ⟨a1, k, R, by rw [Hlen.out]; rfl, by rw [Hlen.out]; exact hO, hbr⟩
end

/- Gauss-Jordan elimination over the operations of a field, as plain Lean functions. -/
section
structure FOps where
  add : Int → Int → Int
  mul : Int → Int → Int
  neg : Int → Int
  inv : Int → Int

def addRow (O : FOps) (v : List Int) (s : Int) (u : List Int) : List Int := List.zipWith (fun p q => if q = 0 then p else O.add p (O.mul s q)) v u
theorem addRow_length (O : FOps) (v : List Int) (s : Int) (u : List Int) (h : u.length = v.length) : (addRow O v s u).length = v.length := by simp [addRow, h]
theorem nth_addRow (O : FOps) (v : List Int) (s : Int) (u : List Int) (i : Nat) (h : u.length = v.length) (hi : i < v.length) :
    nth (addRow O v s u) i = if nth u i = 0 then nth v i else O.add (nth v i) (O.mul s (nth u i)) := by
  rw [nth_getElem (show i < (addRow O v s u).length by rw [addRow_length _ _ _ _ h]; exact hi), nth_getElem (show i < u.length by omega), nth_getElem hi]
  simp [addRow]
theorem mixTo_same (new old : List Int) (j : Nat) (h : new.length = old.length) (hj : j < old.length) (e : nth new j = nth old j) : mixTo new old (j + 1) = mixTo new old j := by
  rw [← mixTo_set new old j h hj, e]
  refine nth_ext (by simp) fun i hi => ?_
  have hl := mixTo_length new old j h (by omega)
  rw [nth_set _ _ _ _ (by omega)]
  by_cases e2 : i = j
  · subst e2; rw [if_pos rfl, nth_mixTo _ _ _ _ h (by omega), if_neg (by omega)]
  · rw [if_neg e2]

/-- the first row from k on that is not 0 in column c -/
def findTo (L : List (List Int)) (c : Nat) : Nat → Nat → Nat
  | k, 0 => k
  | k, f + 1 => if nth (nthR L k) c = 0 then findTo L c (k + 1) f else k
def findRow (L : List (List Int)) (c k : Nat) : Nat := findTo L c k (L.length - k)
theorem findTo_bd (L : List (List Int)) (c : Nat) : ∀ f k, k ≤ findTo L c k f ∧ findTo L c k f ≤ k + f
  | 0, k => by simp [findTo]
  | f + 1, k => by
    have := findTo_bd L c f (k + 1)
    unfold findTo
    split <;> omega
theorem findTo_stop (L : List (List Int)) (c : Nat) : ∀ f k, findTo L c k f < k + f → nth (nthR L (findTo L c k f)) c ≠ 0
  | 0, k, h => by simp [findTo] at h
  | f + 1, k, h => by
    unfold findTo at h ⊢
    split
    · rename_i h0
      rw [if_pos h0] at h
      exact findTo_stop L c f (k + 1) (by omega)
    · assumption
theorem findTo_zero (L : List (List Int)) (c : Nat) : ∀ f k i, k ≤ i → i < findTo L c k f → nth (nthR L i) c = 0
  | 0, k, i, h1, h2 => by simp [findTo] at h2; omega
  | f + 1, k, i, h1, h2 => by
    unfold findTo at h2
    split at h2
    · rename_i h0
      rcases Nat.eq_or_lt_of_le h1 with h3 | h3
      · rw [← h3]; exact h0
      · exact findTo_zero L c f (k + 1) i h3 h2
    · omega
theorem findRow_step {L : List (List Int)} {c k : Nat} (hk : k < L.length) : findRow L c k = if nth (nthR L k) c = 0 then findRow L c (k + 1) else k := by
  unfold findRow
  rw [show L.length - k = (L.length - (k + 1)) + 1 by omega, findTo]
theorem findRow_end {L : List (List Int)} {c k : Nat} (hk : L.length ≤ k) : findRow L c k = k := by
  unfold findRow
  rw [show L.length - k = 0 by omega, findTo]
theorem findRow_bd {L : List (List Int)} {c k : Nat} (hk : k ≤ L.length) : k ≤ findRow L c k ∧ findRow L c k ≤ L.length := by
  have := findTo_bd L c (L.length - k) k
  unfold findRow; omega

def swapRow (L : List (List Int)) (i j : Nat) : List (List Int) := (L.set i (nthR L j)).set j (nthR L i)
/-- the rows ahead of i are cleared in column c by row at -/
def clearRow (O : FOps) (pv : List Int) (c : Nat) (r : List Int) : List Int := if nth r c = 0 then r else addRow O r (O.neg (nth r c)) pv
def clearTo (O : FOps) (t c : Nat) (L : List (List Int)) : Nat → List (List Int)
  | 0 => L
  | i + 1 => if i = t then clearTo O t c L i else (clearTo O t c L i).set i (clearRow O (nthR (clearTo O t c L i) t) c (nthR (clearTo O t c L i) i))
/-- what is done in a column, where its pivot stands in row k -/
def normRow (O : FOps) (L : List (List Int)) (t c : Nat) : List (List Int) := if O.inv (nth (nthR L t) c) = 1 then L else L.set t ((nthR L t).map (O.mul (O.inv (nth (nthR L t) c))))
def pivotS (O : FOps) (L : List (List Int)) (t k c : Nat) : List (List Int) :=
  let L1 := if k = t then L else swapRow L t k
  let L2 := normRow O L1 t c
  clearTo O t c L2 L2.length
/-- the rows and the pivots behind c columns -/
def elimTo (O : FOps) (L : List (List Int)) : Nat → List (List Int) × List Int
  | 0 => (L, [])
  | c + 1 =>
    let s := elimTo O L c
    if s.2.length < s.1.length then
      if findRow s.1 c s.2.length = s.1.length then s
      else (pivotS O s.1 s.2.length (findRow s.1 c s.2.length) c, s.2 ++ [(c : Int)])
    else s

theorem swapRow_length (L : List (List Int)) (i j : Nat) : (swapRow L i j).length = L.length := by simp [swapRow]
theorem clearTo_length (O : FOps) (t c : Nat) (L : List (List Int)) : ∀ i, (clearTo O t c L i).length = L.length
  | 0 => rfl
  | i + 1 => by unfold clearTo; split <;> simp [clearTo_length O t c L i]
theorem normRow_length (O : FOps) (L : List (List Int)) (t c : Nat) : (normRow O L t c).length = L.length := by unfold normRow; split <;> simp
theorem pivotS_length (O : FOps) (L : List (List Int)) (t k c : Nat) : (pivotS O L t k c).length = L.length := by
  unfold pivotS
  simp only [clearTo_length, normRow_length]
  split <;> simp [swapRow_length]
theorem elimTo_length (O : FOps) (L : List (List Int)) : ∀ c, (elimTo O L c).1.length = L.length
  | 0 => rfl
  | c + 1 => by
    unfold elimTo
    simp only
    split
    · split <;> simp [pivotS_length, elimTo_length O L c]
    · exact elimTo_length O L c
theorem elimTo_piv (O : FOps) (L : List (List Int)) : ∀ c, (elimTo O L c).2.length ≤ c ∧ (elimTo O L c).2.length ≤ L.length
  | 0 => by simp [elimTo]
  | c + 1 => by
    have ih := elimTo_piv O L c
    have hl := elimTo_length O L c
    unfold elimTo
    simp only
    split
    · split
      · omega
      · simp only [List.length_append, List.length_singleton]; omega
    · omega

/-- every row has m entries, which are elements -/
def Rws (El : Int → Prop) (m : Nat) (L : List (List Int)) : Prop := ∀ r ∈ L, r.length = m ∧ ∀ x ∈ r, El x
theorem nthR_nil_of_le {L : List (List Int)} {i : Nat} (h : L.length ≤ i) : nthR L i = [] := by simp [nthR, List.getElem?_eq_none h]
theorem Rws.row {El : Int → Prop} {m : Nat} {L : List (List Int)} (h : Rws El m L) {i : Nat} (hi : i < L.length) : (nthR L i).length = m ∧ ∀ x ∈ nthR L i, El x := h _ (nthR_mem hi)
theorem Rws.set {El : Int → Prop} {m : Nat} {L : List (List Int)} (h : Rws El m L) (i : Nat) {r : List Int} (hr : r.length = m ∧ ∀ x ∈ r, El x) : Rws El m (L.set i r) := by
  intro x hx
  rcases List.mem_or_eq_of_mem_set hx with h1 | rfl
  · exact h x h1
  · exact hr

structure FCl (O : FOps) (El : Int → Prop) : Prop where
  add : ∀ x y, El x → El y → El (O.add x y)
  mul : ∀ x y, El x → El y → El (O.mul x y)
  neg : ∀ x, El x → El (O.neg x)
  inv : ∀ x, El x → x ≠ 0 → El (O.inv x)

theorem addRow_el {O : FOps} {El : Int → Prop} (hO : FCl O El) {v u : List Int} {s : Int} (hv : ∀ x ∈ v, El x) (hu : ∀ x ∈ u, El x) (hs : El s) : ∀ x ∈ addRow O v s u, El x := by
  intro x hx
  unfold addRow at hx
  rw [List.mem_iff_getElem] at hx
  obtain ⟨i, hi, rfl⟩ := hx
  rw [List.getElem_zipWith]
  simp only [List.length_zipWith] at hi
  split
  · exact hv _ (List.getElem_mem _)
  · exact hO.add _ _ (hv _ (List.getElem_mem _)) (hO.mul _ _ hs (hu _ (List.getElem_mem _)))
theorem Rws.swap {El : Int → Prop} {m : Nat} {L : List (List Int)} (h : Rws El m L) {i j : Nat} (hi : i < L.length) (hj : j < L.length) : Rws El m (swapRow L i j) :=
  (h.set i (h.row hj)).set j (h.row hi)
theorem Rws.clearRow {O : FOps} {El : Int → Prop} {m : Nat} (hO : FCl O El) {r pv : List Int} {c : Nat} (hc : c < m) (hr : r.length = m ∧ ∀ x ∈ r, El x) (hp : pv.length = m ∧ ∀ x ∈ pv, El x) :
    (clearRow O pv c r).length = m ∧ ∀ x ∈ clearRow O pv c r, El x := by
  unfold Proofs.YtcflcogbpnmjeaaGreat.clearRow
  split
  · exact hr
  · exact ⟨by rw [addRow_length _ _ _ _ (by omega)]; exact hr.1, addRow_el hO hr.2 hp.2 (hO.neg _ (hr.2 _ (nth_mem (by omega))))⟩
theorem Rws.clear {O : FOps} {El : Int → Prop} {m : Nat} {L : List (List Int)} (hO : FCl O El) (h : Rws El m L) {t c : Nat} (ht : t < L.length) (hc : c < m) : ∀ i, i ≤ L.length → Rws El m (clearTo O t c L i)
  | 0, _ => h
  | i + 1, hi => by
    have ih := Rws.clear hO h ht hc i (by omega)
    unfold clearTo
    split
    · exact ih
    · exact ih.set i (Rws.clearRow hO hc (ih.row (by rw [clearTo_length]; omega)) (ih.row (by rw [clearTo_length]; omega)))
theorem Rws.norm {O : FOps} {El : Int → Prop} {m : Nat} {L : List (List Int)} (hO : FCl O El) (h : Rws El m L) {t c : Nat} (ht : t < L.length) (hc : c < m) (h0 : nth (nthR L t) c ≠ 0) : Rws El m (normRow O L t c) := by
  unfold normRow
  split
  · exact h
  · refine h.set t ⟨by rw [List.length_map]; exact (h.row ht).1, fun x hx => ?_⟩
    obtain ⟨y, hy, rfl⟩ := List.mem_map.1 hx
    exact hO.mul _ _ (hO.inv _ ((h.row ht).2 _ (nth_mem (by rw [(h.row ht).1]; exact hc))) h0) ((h.row ht).2 y hy)

theorem elimTo_full {O : FOps} {L : List (List Int)} {k : Nat} (h : (elimTo O L k).2.length = L.length) : ∀ d, elimTo O L (k + d) = elimTo O L k
  | 0 => rfl
  | d + 1 => by
    have ih := elimTo_full h d
    show elimTo O L ((k + d) + 1) = _
    rw [elimTo]
    simp only [ih]
    rw [if_neg (by rw [elimTo_length]; omega)]
theorem elimTo_next {O : FOps} {L Lk : List (List Int)} {P : List Int} {k : Nat} (h : (Lk, P) = elimTo O L k) (hlt : P.length < Lk.length) :
    elimTo O L (k + 1) = if findRow Lk k P.length = Lk.length then (Lk, P) else (pivotS O Lk P.length (findRow Lk k P.length) k, P ++ [(k : Int)]) := by
  rw [elimTo]
  simp only [← h]
  rw [if_pos hlt]
theorem pivotS_eq (O : FOps) (L : List (List Int)) (t k c : Nat) : pivotS O L t k c = clearTo O t c (normRow O (if k = t then L else swapRow L t k) t c) L.length := by
  unfold pivotS
  simp only [normRow_length]
  split <;> simp [swapRow_length]
end

/- The walk of matrix.add. -/
section
open Go.RowKit

def Drawn (w w' : World) : Prop := ∃ n, w' = w.drewN n
theorem Drawn.refl (w : World) : Drawn w w := ⟨0, rfl⟩
theorem Drawn.drewN {w w' : World} (h : Drawn w w') (n : Nat) : Drawn w (w'.drewN n) := by obtain ⟨m, rfl⟩ := h; exact ⟨m + n, by rw [World.drewN_drewN]⟩
theorem Drawn.drew {w w' : World} (h : Drawn w w') : Drawn w w'.drew := h.drewN 1
theorem Drawn.below {w w' : World} (h : Drawn w w') : Below w.heap.size w w' := by obtain ⟨m, rfl⟩ := h; exact below_drewN (Below.refl _ _) m
theorem Drawn.heap {w w' : World} (h : Drawn w w') : w'.heap = w.heap := by obtain ⟨m, rfl⟩ := h; rfl
theorem Drawn.cell {w w' : World} (h : Drawn w w') {p : Addr} {v : Value} (hc : w.cell? p = some v) : w'.cell? p = some v := by obtain ⟨m, rfl⟩ := h; exact hc
theorem Drawn.frozen {w w' : World} (h : Drawn w w') {p : Addr} {v : Bool} (hc : w.frozen? p = v) : w'.frozen? p = v := by obtain ⟨m, rfl⟩ := h; exact hc
theorem Drawn.below' {w0 w w' : World} {B : Nat} (h : Drawn w w') (hb : Below B w0 w) : Below B w0 w' := by obtain ⟨m, rfl⟩ := h; exact below_drewN hb m

def Tbl.ops (G : Tbl) : FOps := ⟨G.add, G.mul, G.neg, G.inv⟩
theorem Tbl.cl {w : World} {b : Nat} {G : Tbl} (h : GFw w b G) : FCl G.ops G.El := ⟨fun x y _ _ => Tbl.add_el h x y, fun x y _ _ => Tbl.mul_el h x y, fun x _ => Tbl.neg_el h x, fun x _ _ => Tbl.inv_el h x⟩

/-- only the block of the slice a has changed -/
def Only (a : Option Addr) (w w' : World) : Prop := Moves w w' (fun b => a ≠ none ∧ b = ablk a) (fun b => a ≠ none ∧ b = ablk a)
theorem Only.refl (a : Option Addr) (w : World) : Only a w w := Moves.refl _ _
theorem Only.trans {a : Option Addr} {w w' w'' : World} (h : Only a w w') (k : Only a w' w'') : Only a w w'' := Moves.trans h k
theorem Only.drawn {a : Option Addr} {w w' : World} (h : Drawn w w') : Only a w w' := Moves.of_below h.below _
theorem Only.set {a : Option Addr} (w : World) (i : Nat) (v : Value) (ha : a ≠ none) : Only a w (w.setCell ⟨ablk a, aoff a + i, none⟩ v) := by
  have hb0 : Below 0 w (w.setCell ⟨ablk a, aoff a + i, none⟩ v) := (Below.refl 0 w).setCell (Nat.zero_le _) v
  exact ⟨hb0.os, hb0.tape, hb0.output, hb0.size, fun b hb hI => Below.heap_setCell _ _ _ _ fun e => hI ⟨ha, e⟩, fun b hb => .inl hb⟩
theorem Only.ints {a : Option Addr} {w w' : World} (h : Only a w w') {u : Option Addr} {n : Nat} {l : List Int} (hi : Ints w u n l) (hu : a = none ∨ u = none ∨ ablk u ≠ ablk a) : Ints w' u n l := by
  refine hi.of_block fun hn => h.block _ (hi.lt hn) ?_
  rintro ⟨h1, h2⟩
  rcases hu with hu | hu | hu
  · exact h1 hu
  · have := hi.pl hn; rw [hu] at this; cases this
  · exact hu h2
theorem Only.below {a : Option Addr} {w w' : World} {B : Nat} (h : Only a w w') (ha : a ≠ none → B ≤ ablk a) (hB : B ≤ w.heap.size) : Below B w w' := Moves.below h (fun _ hb => by rw [hb.2]; exact ha hb.1) hB

variable {w : World} {b : Nat} {G : Tbl}

set_option maxHeartbeats 1600000 in
theorem add_any (w0 : World) (av : Option Addr) (cv n : Nat) (v : List Int) (s : Int) (au : Option Addr) (cu : Nat) (u : List Int) (h : GFw w0 b G) (hb : Below w0.heap.size w0 w)
    (hv : w.ownsRow w0.heap.size 3 1 (.slice av n cv) n (v.map (Value.int .i64))) (hu : Ints w au n u) (hap : av = none ∨ au = none ∨ ablk au ≠ ablk av)
    (hve : ∀ x ∈ v, G.El x) (hue : ∀ x ∈ u, G.El x) (hs : G.El s) :
    Calls Tryz.prog 190 #[.pointer (some ⟨b, 0, none⟩), .slice av n cv, .int .i64 s, .slice au n cu] w
      fun e w' => e = .returned (.tuple #[]) ∧ w'.ownsRow w0.heap.size 3 1 (.slice av n cv) n ((addRow G.ops v s u).map (Value.int .i64)) ∧ Only av w w' := by
  have hul := hu.len
  have hvl : v.length = n := by simpa using own_len hv
  have hmax := hu.max
  unfold maxLen at hmax
  have hpu := hu.pl
  have hpv := (Ints.own hv).1.pl
  have hav : 0 < n → av ≠ none := fun hn e => by have := hpv hn; rw [e] at this; cases this
  have hll : (addRow G.ops v s u).length = v.length := addRow_length _ _ _ _ (by omega)
  have hnth := fun i => nth_addRow G.ops v s u i (by omega)
  have Hnth := Lib.hid hnth
  have Hul := Lib.hid hul
  have Hvl := Lib.hid hvl
  have Hll := Lib.hid hll
  have Hav := Lib.hid hav
  have Hve := Lib.hid hve
  have Hue := Lib.hid hue
  clear hnth hul hvl hll hav hve hue
  generalize addRow G.ops v s u = N at *
  go_enter Tryz.func190, Tryz.ntmps190
  go_wp2_with fail
  go_loopw [12] (fun iv wr => ∃ k : Nat, k ≤ n ∧ iv = .int .i64 k ∧ wr.ownsRow w0.heap.size 3 1 (.slice av n cv) n ((mixTo N v k).map (Value.int .i64)) ∧ Only av w wr) (fun iv _ => n - (intOf iv).toNat)
  case atStart => exact ⟨0, Nat.zero_le _, rfl, by rw [mixTo_zero]; exact hv, Only.refl _ _⟩
  case round =>
    obtain ⟨k, hk, rfl, hown, honly⟩ := hrel
    by_cases hlt : k < n
    · have hiu := honly.ints hu hap
      have cu1 := hiu.cell k hlt
      have hkN : N.length = v.length := Hll.out
      have hkv : k < v.length := by rw [Hvl.out]; exact hlt
      have hval := Hnth.out k hkv
      have hmix := nth_mixTo N v k k hkN (by omega)
      rw [if_neg (by omega)] at hmix
      by_cases hz : nth u k = 0
      · rw [if_pos hz] at hval
        have hsame := mixTo_same N v k hkN hkv hval
        have Hsame := Lib.hid hsame
        clear hval hmix hsame hkN hkv
        go_wp2_with fail
        go_roundw
        case rel => exact ⟨k + 1, by omega, by go_num, by rw [Hsame.out]; exact hown, honly⟩
        case measure => simp [intOf] <;> omega
      · rw [if_neg hz] at hval
        have hset := mixTo_set N v k hkN hkv
        obtain ⟨hiv, hmv⟩ := Ints.own hown
        have cv1 := hiv.cell k hlt
        have fv1 := (hmv (by omega)).2 k hlt
        rw [hmix] at cv1
        have elv : G.El (nth v k) := Hve.out _ (nth_mem hkv)
        have elu : G.El (nth u k) := Hue.out _ (nth_mem (by rw [Hul.out]; exact hlt))
        have hGr : GFw wr b G := h.keep (Below.trans hb (honly.below (fun ha => (own_ne hv ha).1) hb.size))
        have Hval := Lib.hid hval
        have Hset := Lib.hid hset
        have hS : ∀ W, Drawn wr W → W.cell? ⟨ablk av, aoff av + k, none⟩ = some (.int .i64 (nth v k)) ∧ W.frozen? ⟨ablk av, aoff av + k, none⟩ = false ∧ GFw W b G ∧ Drawn wr W :=
          fun W hW => ⟨hW.cell cv1, hW.frozen fv1, hGr.keep hW.below, hW⟩
        have HS := Lib.hid hS
        have elm : ∀ x y, G.El (G.mul x y) := fun x y => Tbl.mul_el h x y
        have hz' : (nth u k != 0) = true := by simpa using hz
        clear hval hmix hset hkN hkv hS hz
        go_wp2_with fail
        have HG : Hid (GFw wr.drew b G ∧ ∀ n, GFw (wr.drewN n) b G) := ⟨hGr.keep (Below.refl _ _).drew, fun n => hGr.drewN n⟩
        go_region_law ((first
          | (go_simp; go_at_call 112; ((with_reducible refine (gMul s (nth u k) HG.out.1 hs elu).mono ?_); rintro e w4 ⟨m4, rfl, rfl⟩))
          | (go_simp; go_at_call 112; ((with_reducible refine (gMul s (nth u k) (HG.out.2 _) hs elu).mono ?_); rintro e w4 ⟨m4, rfl, rfl⟩))
          | (go_simp; go_at_call 111; ((with_reducible refine (gAdd (nth v k) (G.mul s (nth u k)) (HG.out.2 _) elv (elm _ _)).mono ?_); rintro e w4 ⟨m5, rfl, rfl⟩))))
        all_goals (
          go_wp2_with fail
          go_roundw
          case rel =>
            have hdr : Drawn wr (wr.drewN (1 + m4 + m5)) := ⟨_, rfl⟩
            refine ⟨k + 1, by omega, by go_num, ?_, honly.trans ((Only.drawn hdr).trans (Only.set _ k _ (Hav.out (by omega))))⟩
            have h1 := own_set (w := wr.drewN (1 + m4 + m5)) hown k hlt (.int .i64 (nth N k))
            rw [← List.map_set, Hset.out, Hval.out] at h1
            exact h1
          case measure => simp [intOf] <;> omega)
    · obtain rfl : k = n := by omega
      rw [mixTo_all N v k (by rw [Hll.out, Hvl.out]) Hvl.out] at hown
      go_wp2_with fail
      go_end0
      exact ⟨rfl, hown, honly⟩
end

end Go.Proofs.YtcflcogbpnmjeaaGreat
