/- The walk of codewrightref25.SameSteps, at equal lists. -/
import Derived.Test.YtapjcccpokhhhaaGreatG24
import Derived.Test.YtapjcccpokhhhaaGreatG21
import Derived.Test.YtapjcccpokhhhaaGreatG26
import Derived.Test.YtapjcccpokhhhaaGreatG20
namespace Go.Proofs.YtapjcccpokhhhaaGreat
set_option linter.unusedVariables false
set_option linter.unusedSimpArgs false
set_option linter.unusedSectionVars false

/- The walks of codewrightref09.Few, codewrightref12.Few, codewrightlaw25.few: they end with some answer. -/
section
open Go.RowKit

def SomeBool (w : World) (e : Ending) (w' : World) : Prop := ∃ z, e = .returned (.bool z) ∧ Below w.heap.size w w'

set_option maxRecDepth 100000 in
set_option maxHeartbeats 3200000 in
theorem rFew9_any (a : Option Addr) (n c K : Nat) (L : List (List Int)) (w : World) (hi : Mat w a n L) (hK : K ≤ 100000) :
    Calls Tryz.prog 50 #[.agg #[.int .i64 0, .slice a n c], .int .i64 K] w (SomeBool w) := by
  have Hlen := Lib.hid hi.len
  have hpl := hi.pl
  have hmax := hi.max
  unfold maxLen at hmax
  go_enter Tryz.func50, Tryz.ntmps50
  go_upto_region 1 with fail
  obtain ⟨W, hW⟩ : ∃ W : World, W = w.alloc (.cells #[.int .i64 0, .slice a n c] 52) := ⟨_, rfl⟩
  rw [← hW]
  have hbW : Below w.heap.size w W := by rw [hW]; exact below1 _ _
  have x0 : Box W w.heap.size [.int .i64 0, .slice a n c] := by rw [hW]; exact Box.new _ _ _ rfl
  have c0 := x0.cell 0 rfl
  have c1 := x0.cell 1 rfl
  have hiW := hi.keep hbW
  have HbW := Lib.hid hbW
  clear hW x0 hi hbW
  by_cases h1 : K < n
  · have d1 : decide (K < n) = true := by simpa using h1
    have d1' : decide ((K : Int) < n) = true := by simp; omega
    go_wp2_with fail
    go_ret
    exact ⟨_, rfl, HbW.out⟩
  · have d1 : decide (K < n) = false := by simpa using h1
    have d1' : decide ((K : Int) < n) = false := by simp; omega
    go_wp2_with fail
    go_loopw [5, 6] (fun lv iv wr => ∃ k m : Nat, k ≤ n ∧ m ≤ K ∧ lv = .int .i64 m ∧ iv = .int .i64 k ∧ wr = W) (fun _ iv _ => n - (intOf iv).toNat)
    case atStart => exact ⟨0, K - n, Nat.zero_le _, by omega, by go_num, rfl, rfl⟩
    case round =>
      obtain ⟨k, m, hk, hm, rfl, rfl, rfl⟩ := hrel
      by_cases hlt : k < n
      · obtain ⟨ra, rn, rc, hcell, hrow⟩ := hiW.cell k hlt
        by_cases h2 : m < rn
        · have d2 : decide (m < rn) = true := by simpa using h2
          have d2' : decide ((m : Int) < rn) = true := by simp; omega
          go_wp2_with fail
          go_ret
          exact ⟨_, rfl, HbW.out⟩
        · have d2 : decide (m < rn) = false := by simpa using h2
          have d2' : decide ((m : Int) < rn) = false := by simp; omega
          have d3 : (rn : Int) ≤ m := by omega
          go_wp2_with fail
          go_roundw
          case rel => exact ⟨k + 1, m - rn, by omega, by omega, by go_num, by go_num, by first | rfl | trivial⟩
          case measure => simp [intOf] <;> omega
      · obtain rfl : k = n := by omega
        go_wp2_with fail
        go_ret
        exact ⟨_, rfl, HbW.out⟩

set_option maxRecDepth 100000 in
theorem rFew12_any (P M : Int) (am : Option Addr) (mn cm : Nat) (N : Int) (a : Option Addr) (n c K : Nat) (L : List (List Int)) (w : World) (hi : Mat w a n L) (hK : K ≤ 100000) :
    Calls Tryz.prog 49 #[.agg #[.int .i64 P, .int .i64 M, .slice am mn cm, .int .i64 N, .slice a n c], .int .i64 K] w (SomeBool w) := by
  have H := Lib.hid (fun V hV => rFew9_any a n c K L V (hi.keep hV) hK : ∀ V, Below w.heap.size w V → _)
  clear hi
  go_enter Tryz.func49, Tryz.ntmps49
  go_wp2_with fail
  have hbW := below1 w (.cells #[.int .i64 P, .int .i64 M, .slice am mn cm, .int .i64 N, .slice a n c] 27)
  refine (H.out _ hbW).mono ?_
  rintro e w1 ⟨z, rfl, hb1⟩
  have hF := Below.next hbW hb1
  go_wp2_with fail
  go_ret
  exact ⟨z, rfl, hF⟩

set_option maxRecDepth 100000 in
set_option maxHeartbeats 3200000 in
theorem few25_any (P M : Int) (am : Option Addr) (mn cm : Nat) (N : Int) (a : Option Addr) (n c : Nat) (L : List (List Int)) (w : World) (hi : Mat w a n L) :
    Calls Tryz.prog 32 #[.agg #[.int .i64 P, .int .i64 M, .slice am mn cm, .int .i64 N, .slice a n c]] w (SomeBool w) := by
  have H : Hid (∀ V, Below w.heap.size w V → Calls Tryz.prog 49 #[.agg #[.int .i64 P, .int .i64 M, .slice am mn cm, .int .i64 N, .slice a n c], .int .i64 120] V (SomeBool V)) := fun V hV => rFew12_any P M am mn cm N a n c 120 L V (hi.keep hV) (by omega)
  clear hi
  go_enter Tryz.func32, Tryz.ntmps32
  go_upto_region 1 with fail
  obtain ⟨W, hW⟩ : ∃ W : World, W = w.alloc (.cells #[.int .i64 P, .int .i64 M, .slice am mn cm, .int .i64 N, .slice a n c] 27) := ⟨_, rfl⟩
  rw [← hW]
  have hbW : Below w.heap.size w W := by rw [hW]; exact below1 _ _
  have x0 : Box W w.heap.size [.int .i64 P, .int .i64 M, .slice am mn cm, .int .i64 N, .slice a n c] := by rw [hW]; exact Box.new _ _ _ rfl
  have HX := Lib.hid x0
  have c0 := x0.cell 0 rfl
  have c1 := x0.cell 1 rfl
  have c2 := x0.cell 2 rfl
  have c3 := x0.cell 3 rfl
  have c4 := x0.cell 4 rfl
  clear hW x0
  have Hf := Lib.hid (H.out W hbW)
  clear H
  by_cases h1 : N ≤ 16
  · have d1 : decide (N ≤ 16) = true := by simpa using h1
    clear h1
    go_wp2_with (go_at_call 49; refine Hf.out.mono ?_; rintro e w1 ⟨z, rfl, hb1⟩; have q1 := (HX.out.keep hb1).cell 3 rfl; have hF := Below.next hbW hb1; cases z)
    all_goals (go_wp2_with fail; go_ret; exact ⟨_, rfl, hF⟩)
  · have d1 : decide (N ≤ 16) = false := by simpa using h1
    clear h1
    by_cases h2 : 64 < N
    · have d2 : decide (64 < N) = true := by simpa using h2
      clear h2
      go_wp2_with (go_at_call 49; refine Hf.out.mono ?_; rintro e w1 ⟨z, rfl, hb1⟩; have q1 := (HX.out.keep hb1).cell 3 rfl; have hF := Below.next hbW hb1; cases z)
      all_goals (go_wp2_with fail; go_ret; exact ⟨_, rfl, hF⟩)
    · have d2 : decide (64 < N) = false := by simpa using h2
      clear h2
      go_wp2_with (go_at_call 49; refine Hf.out.mono ?_; rintro e w1 ⟨z, rfl, hb1⟩; have q1 := (HX.out.keep hb1).cell 3 rfl; have hF := Below.next hbW hb1; cases z)
      all_goals (go_wp2_with fail; go_ret; exact ⟨_, rfl, hF⟩)
end

/- The walk of infoset.Floor. -/
section
open Go.RowKit

/-- whether the numbers are in their ranges -/
def flB (K : Int) (Q : List Int) (W : Int) : Bool := decide (0 ≤ K) && decide (K ≤ 64) && decide (0 ≤ W) && decide (W ≤ K) && decide (Q.length ≤ 64)
/-- the sum of the first k of them -/
def flTo (K W : Int) (Q : List Int) : Nat → Int
  | 0 => 0
  | k + 1 => flTo K W Q k + max 0 (W + 1 - (K - nth Q k))
def flQ (K : Int) (x : Int) : Bool := decide (0 ≤ x) && decide (x ≤ K)
def flV (K : Int) (Q : List Int) (W : Int) : Int × Int := if flB K Q W = true ∧ Q.all (flQ K) = true then (flTo K W Q Q.length, 0) else (0, 6)
theorem flTo_bd {K W : Int} {Q : List Int} (hK : 0 ≤ K ∧ K ≤ 64) (hW : 0 ≤ W ∧ W ≤ K) (hQ : Q.all (flQ K) = true) : ∀ k, k ≤ Q.length → 0 ≤ flTo K W Q k ∧ flTo K W Q k ≤ 200 * k
  | 0, _ => by simp [flTo]
  | k + 1, h => by
    have ih := flTo_bd hK hW hQ k (by omega)
    have hq := List.all_eq_true.1 hQ _ (nth_mem (i := k) (by omega))
    unfold flQ at hq
    simp only [Bool.and_eq_true, decide_eq_true_eq] at hq
    rw [flTo]
    omega

set_option maxRecDepth 100000 in
set_option maxHeartbeats 4000000 in
theorem floor_any (K : Int) (a : Option Addr) (n c : Nat) (Q : List Int) (X : Int) (w : World) (hi : Ints w a n Q) :
    Calls Tryz.prog 65 #[.int .i64 K, .slice a n c, .int .i64 X] w fun e w' => e = .returned (.tuple #[.int .i64 (flV K Q X).1, .int .i64 (flV K Q X).2]) ∧ w' = w := by
  have Hl := Lib.hid hi.len
  have hpl := hi.pl
  have hmax := hi.max
  unfold maxLen at hmax
  go_enter Tryz.func65, Tryz.ntmps65
  go_upto_region 1 with fail
  have bad : flB K Q X = false → flV K Q X = (0, 6) := fun h => by rw [flV, if_neg (by rw [h]; simp)]
  have Hbad := Lib.hid bad
  clear bad
  have hfl : flB K Q X = (decide (0 ≤ K) && decide (K ≤ 64) && decide (0 ≤ X) && decide (X ≤ K) && decide (n ≤ 64)) := by rw [flB, Hl.out]
  by_cases h1 : K < 0
  · have d1 : decide (K < 0) = true := by simpa using h1
    have HV := Lib.hid (Hbad.out (by rw [hfl]; simp; omega))
    clear h1 hfl
    go_wp2_with fail
    go_ret2
    exact ⟨by rw [HV.out]; rfl, rfl⟩
  have d1 : decide (K < 0) = false := by simpa using h1
  by_cases h2 : 64 < K
  · have d2 : decide (64 < K) = true := by simpa using h2
    have HV := Lib.hid (Hbad.out (by rw [hfl]; simp; omega))
    clear h1 h2 hfl
    go_wp2_with fail
    go_ret2
    exact ⟨by rw [HV.out]; rfl, rfl⟩
  have d2 : decide (64 < K) = false := by simpa using h2
  by_cases h3 : X < 0
  · have d3 : decide (X < 0) = true := by simpa using h3
    have HV := Lib.hid (Hbad.out (by rw [hfl]; simp; omega))
    clear h1 h2 h3 hfl
    go_wp2_with fail
    go_ret2
    exact ⟨by rw [HV.out]; rfl, rfl⟩
  have d3 : decide (X < 0) = false := by simpa using h3
  by_cases h4 : K < X
  · have d4 : decide (K < X) = true := by simpa using h4
    have HV := Lib.hid (Hbad.out (by rw [hfl]; simp; omega))
    clear h1 h2 h3 h4 hfl
    go_wp2_with fail
    go_ret2
    exact ⟨by rw [HV.out]; rfl, rfl⟩
  have d4 : decide (K < X) = false := by simpa using h4
  by_cases h5 : 64 < n
  · have d5 : decide ((64 : Int) < n) = true := by simp; omega
    have HV := Lib.hid (Hbad.out (by rw [hfl]; simp; omega))
    clear h1 h2 h3 h4 h5 hfl
    go_wp2_with fail
    go_ret2
    exact ⟨by rw [HV.out]; rfl, rfl⟩
  have d5 : decide ((64 : Int) < n) = false := by simp; omega
  have HB : Hid (flB K Q X = true) := by show _ = _; rw [hfl]; simp; omega
  have HV2 : Hid (flV K Q X = if Q.all (flQ K) = true then (flTo K X Q n, 0) else (0, 6)) := by
    show _ = _
    rw [flV, HB.out, Hl.out]
    simp
  clear hfl
  go_wp2_with fail
  go_loop [8, 33] (fun sv iv => ∃ k : Nat, k ≤ n ∧ iv = .int .i64 k ∧ sv = .int .i64 (flTo K X Q k) ∧ Hid (∀ j, j < k → flQ K (nth Q j) = true)) (fun _ iv => n - (intOf iv).toNat)
  case atStart => exact ⟨0, Nat.zero_le _, rfl, rfl, fun j hj => by omega⟩
  case round =>
    obtain ⟨k, hk, rfl, rfl, hall⟩ := hrel
    have hbd : 0 ≤ flTo K X Q k ∧ flTo K X Q k ≤ 200 * k := by
      have h := flTo_bd (K := K) (W := X) (Q := Q.take k) (by omega) (by omega) (by
        rw [List.all_eq_true]
        intro x hx
        obtain ⟨j, hj, rfl⟩ := List.mem_iff_getElem.1 hx
        rw [List.length_take] at hj
        have := hall.out j (by omega)
        rwa [List.getElem_take, ← nth_getElem (by omega)]) k (by rw [List.length_take]; have := Hl.out; omega)
      have he : ∀ j, j ≤ k → flTo K X (Q.take k) j = flTo K X Q j := fun j => by
        induction j with
        | zero => intro _; rfl
        | succ j ih =>
          intro hj
          have e : nth (Q.take k) j = nth Q j := by unfold nth; simp only [List.getD_eq_getElem?_getD, List.getElem?_take]; rw [if_pos (by omega)]
          rw [flTo, flTo, ih (by omega), e]
      rwa [he k (Nat.le_refl _)] at h
    by_cases hlt : k < n
    · have ck := hi.cell k hlt
      have Hst : Hid (flTo K X Q (k + 1) = flTo K X Q k + max 0 (X + 1 - (K - nth Q k))) := rfl
      have Hx : Hid (∀ y, nth Q k = y → flQ K y = true → ∀ j, j < k + 1 → flQ K (nth Q j) = true) := fun y hy h j hj => by
        by_cases e : j = k
        · subst e; rw [hy]; exact h
        · exact hall.out j (by omega)
      have Hno : Hid (flQ K (nth Q k) = false → flV K Q X = (0, 6)) := fun h => by
        rw [HV2.out, if_neg]
        intro h2
        have := List.all_eq_true.1 h2 _ (nth_mem (i := k) (by rw [Hl.out]; exact hlt))
        rw [h] at this
        exact absurd this (by decide)
      obtain ⟨y, hy⟩ : ∃ y, nth Q k = y := ⟨_, rfl⟩
      have Hx2 := fun h => Hx.out y hy h
      rw [hy] at ck Hno Hst
      clear hy Hx
      by_cases q1 : y < 0
      · have e1 : decide (y < 0) = true := by simpa using q1
        have HV := Lib.hid (Hno.out (by unfold flQ; simp; omega))
        clear q1 Hx2 hbd
        go_wp2_with fail
        go_ret2
        exact ⟨by rw [HV.out]; rfl, rfl⟩
      have e1 : decide (y < 0) = false := by simpa using q1
      by_cases q2 : K < y
      · have e2 : decide (K < y) = true := by simpa using q2
        have HV := Lib.hid (Hno.out (by unfold flQ; simp; omega))
        clear q1 q2 Hx2 hbd
        go_wp2_with fail
        go_ret2
        exact ⟨by rw [HV.out]; rfl, rfl⟩
      have e2 : decide (K < y) = false := by simpa using q2
      have Hx3 := Lib.hid (Hx2 (by unfold flQ; simp; omega))
      clear Hx2
      have k1 : IntKind.i64.wrap (X + 1) = X + 1 := IntWalk.i64_in _ (by omega)
      have k2 : IntKind.i64.wrap (K - y) = K - y := IntWalk.i64_in _ (by omega)
      have k3 : IntKind.i64.wrap (X + 1 - (K - y)) = X + 1 - (K - y) := IntWalk.i64_in _ (by omega)
      have k4 : IntKind.i64.wrap (flTo K X Q k + max 0 (X + 1 - (K - y))) = flTo K X Q k + max 0 (X + 1 - (K - y)) := IntWalk.i64_in _ (by omega)
      rw [← max_if] at k4
      rw [← max_if] at Hst
      clear hbd
      generalize flTo K X Q k = t at *
      go_wp2_with fail
      go_round
      case rel => exact ⟨k + 1, by omega, by go_num, by first | (rw [Hst.out, show (if K - y < X + 1 then X + 1 - (K - y) else 0) = (if 0 < X + 1 - (K - y) then X + 1 - (K - y) else 0) from by split <;> split <;> omega]; exact congrArg (Value.int .i64) ((IntWalk.i64_left _).symm.trans k4)) | (rw [Hst.out, ← max_if]; exact congrArg (Value.int .i64) ((IntWalk.i64_left _).symm.trans k4)) | (rw [Hst.out, show max 0 (X + 1 - (K - y)) = (if 0 < X + 1 - (K - y) then X + 1 - (K - y) else 0) from by omega]; exact congrArg (Value.int .i64) ((IntWalk.i64_left _).symm.trans k4)), Hx3.out⟩
      case measure => simp [intOf] <;> omega
    · obtain rfl : k = n := by omega
      have HV : Hid (flV K Q X = (flTo K X Q k, 0)) := by
        show _ = _
        rw [HV2.out, if_pos]
        rw [List.all_eq_true]
        intro x hx
        obtain ⟨j, hj, rfl⟩ := List.mem_iff_getElem.1 hx
        have := hall.out j (by have := Hl.out; omega)
        rwa [nth_getElem hj] at this
      clear hbd
      go_wp2_with fail
      go_ret2
      exact ⟨by rw [HV.out]; rfl, rfl⟩
end

/- A list of steps (a set and its rank) of the call's own. -/
section
open Go.RowKit

/-- the cells of steps whose sets lie in the slices R -/
def stV : List (Option Addr × Nat) → List (List Int × Int) → List Value
  | r :: R, t :: T => .slice r.1 t.1.length r.2 :: .int .i64 t.2 :: stV R T
  | _, _ => []
theorem stV_snoc (r : Option Addr × Nat) (t : List Int × Int) : ∀ (R : List (Option Addr × Nat)) (T : List (List Int × Int)), R.length = T.length → stV (R ++ [r]) (T ++ [t]) = stV R T ++ [.slice r.1 t.1.length r.2, .int .i64 t.2]
  | [], [], _ => rfl
  | [], _ :: _, h => by simp at h
  | _ :: _, [], h => by simp at h
  | x :: R, y :: T, h => by
    rw [List.cons_append, List.cons_append, stV, stV_snoc r t R T (by simpa using h)]
    rfl
/-- 'append(out, x)' of one element of two cells -/
theorem wpList_push2 {P : Program} {w : World} {ops : Array Oper} {rest : List Oper} {o : Oper} {ac : Act} {Q : Exit → Act → World → Prop}
    (hg : o.guard = none) (s x : Operand) (t e : TypeId) (hop : o.op = .call { callee := .builtin .append, args := #[s, x], argTypes := #[t, t] }) (z : Value) (bytes : Nat)
    (h1 : P.underlying t = some (.slice e)) (h2 : (P.info? e).map (fun i => (i.zero, i.size, i.bytes)) = some (some z, 2, bytes)) (hz : z.cells.size = 2)
    (B : Nat) (a : Option Addr) (n c : Nat) (xs : List Value) (hs : ac.eval s = .slice a n c) (hown : w.ownsRow B e 2 (.slice a n c) n xs)
    (g cc : Nat) (u v : Value) (hx : ac.eval x = .slice (some ⟨g, 0, none⟩) 1 cc) (hu : w.cell? ⟨g, 0, none⟩ = some u) (hv : w.cell? ⟨g, 1, none⟩ = some v) (h1c : u.oneCell' = true) (h1d : v.oneCell' = true)
    (b2 : (n + 1) * bytes ≤ 140737488355328) (b3 : n + 1 ≤ maxLen) (hB : B ≤ w.heap.size)
    (hK : ∀ a' c' w', w'.ownsRow B e 2 (.slice a' (n + 1) c') (n + 1) (xs ++ [u, v]) → w.grownBy w' (Value.slice a n c).ownBlock → (∀ b, b < w.heap.size → Apt a b → Apt a' b) → wpList P ops Q rest (ac.put o.dst (.slice a' (n + 1) c')) w') :
    wpList P ops Q (o :: rest) ac w := by
  obtain ⟨i, hi, hz0, hz1, hz2⟩ : ∃ i, P.info? e = some i ∧ i.zero = some z ∧ i.size = 2 ∧ i.bytes = bytes := by
    cases hp : P.info? e with
    | none => rw [hp] at h2; cases h2
    | some i => rw [hp] at h2; simp at h2; exact ⟨i, rfl, h2.1, h2.2.1, h2.2.2⟩
  refine wpList_append_own_at w hg s x t hop B e i z 2 bytes h1 hi hz0 hz1 hz2 hz (by decide) _ n xs hs hown ⟨g, 0, none⟩ 1 cc [u, v] hx rfl ?_ ?_ b3 b2 hB fun v' w' hown' hgr _ hat => ?_
  · intro j y hj
    match j, hj with
    | 0, hj => simp at hj; subst hj; simpa [Addr.add] using hu
    | 1, hj => simp at hj; subst hj; simpa [Addr.add] using hv
  · intro y hy
    simp at hy
    rcases hy with rfl | rfl
    · exact h1c
    · exact h1d
  · obtain ⟨a', c', rfl⟩ : ∃ a' c', v' = .slice a' (n + 1) c' := by
      rcases hown'.2 with ⟨_, h0⟩ | ⟨g', cap, cur, rfl, _⟩
      · omega
      · exact ⟨_, cap, rfl⟩
    refine hK a' c' w' hown' hgr fun b hb hapt => ?_
    have h := hapt.own n c
    rcases hat with h3 | h3
    · exact Apt.of_own (n := n + 1) (c := c') (by rw [h3]; exact h)
    · exact Apt.of_own (n := n + 1) (c := c') (by rw [h3]; intro h4; cases h4; omega)

/-- own steps -/
structure OSt (w : World) (B : Nat) (a : Option Addr) (k c : Nat) (R : List (Option Addr × Nat)) (T : List (List Int × Int)) : Prop where
  rl : R.length = k
  tl : T.length = k
  own : w.ownsRow B 105 2 (.slice a k c) k (stV R T)
  row : ∀ p ∈ R.zip T, Ints w p.1.1 p.2.1.length p.2.1 ∧ (p.1.1 ≠ none → B ≤ ablk p.1.1 ∧ ablk p.1.1 < w.heap.size) ∧ (p.1.1 ≠ none → Apt a (ablk p.1.1))
namespace OSt
variable {w w' w5 V : World} {B : Nat} {a : Option Addr} {k c : Nat} {R : List (Option Addr × Nat)} {T : List (List Int × Int)}
theorem start (w : World) (B : Nat) : OSt w B none 0 0 [] [] := ⟨rfl, rfl, ⟨rfl, .inl ⟨rfl, rfl⟩⟩, fun p hp => by simp at hp⟩
theorem blk (h : OSt w B a k c R T) (ha : a ≠ none) : B ≤ ablk a ∧ ablk a < w.heap.size := by
  rcases h.own.2 with ⟨hv, _⟩ | ⟨g, cap, cur, hv, hg, hh, _⟩
  · cases hv; exact absurd rfl ha
  · cases hv; exact ⟨hg, (Array.getElem?_eq_some_iff.1 hh).1⟩
/-- the blocks of the steps and of their sets are as they were -/
theorem of_blocks (h : OSt w B a k c R T) (hs : w.heap.size ≤ w'.heap.size) (h1 : a ≠ none → w'.heap[ablk a]? = w.heap[ablk a]?) (h2 : ∀ r ∈ R, r.1 ≠ none → w'.heap[ablk r.1]? = w.heap[ablk r.1]?) : OSt w' B a k c R T := by
  refine ⟨h.rl, h.tl, ⟨h.own.1, ?_⟩, fun p hp => ?_⟩
  · rcases h.own.2 with hn | ⟨g, cap, cur, hv, hg, hh, r⟩
    · exact .inl hn
    · cases hv
      exact .inr ⟨g, _, cur, rfl, hg, by rw [show w'.heap[g]? = w.heap[g]? from h1 (by simp)]; exact hh, r⟩
  · obtain ⟨g1, g2, g3⟩ := h.row p hp
    have hm : p.1 ∈ R := (List.of_mem_zip (a := p.1) (b := p.2) hp).1
    refine ⟨g1.of_block fun hn => h2 p.1 hm fun e => ?_, fun hn => ⟨(g2 hn).1, Nat.lt_of_lt_of_le (g2 hn).2 hs⟩, g3⟩
    have := g1.pl hn
    rw [e] at this; cases this
theorem keep (h : OSt w B a k c R T) (hb : Below w.heap.size w w') : OSt w' B a k c R T :=
  h.of_blocks hb.size (fun ha => hb.block _ (h.blk ha).2) fun r hr hn => by
    obtain ⟨i, hi, rfl⟩ := List.mem_iff_getElem.1 hr
    have hi2 : i < T.length := by rw [h.tl, ← h.rl]; exact hi
    exact hb.block _ ((h.row (R[i], T[i]) (List.mem_iff_getElem.2 ⟨i, by simp; omega, by simp⟩)).2.1 hn).2
theorem row_of (h : OSt w B a k c R T) {r : Option Addr × Nat} (hr : r ∈ R) (hn : r.1 ≠ none) : (B ≤ ablk r.1 ∧ ablk r.1 < w.heap.size) ∧ Apt a (ablk r.1) := by
  obtain ⟨i, hi, rfl⟩ := List.mem_iff_getElem.1 hr
  have hi2 : i < T.length := by rw [h.tl, ← h.rl]; exact hi
  have h1 := h.row (R[i], T[i]) (List.mem_iff_getElem.2 ⟨i, by simp; omega, by simp⟩)
  exact ⟨h1.2.1 hn, h1.2.2 hn⟩
/-- another slice has grown -/
theorem grown {au : Option Addr} {nu cu : Nat} (h : OSt w B a k c R T) (hg : w.grownBy w' (Value.slice au nu cu).ownBlock) (h1 : a ≠ none → Apt au (ablk a)) (h2 : ∀ r ∈ R, r.1 ≠ none → Apt au (ablk r.1)) : OSt w' B a k c R T :=
  h.of_blocks hg.size (fun ha => hg.block _ (h.blk ha).2 fun e => (h1 ha).own nu cu e.symm) fun r hr hn => hg.block _ (h.row_of hr hn).1.2 fun e => (h2 r hr hn).own nu cu e.symm
/-- a step is put behind them -/
theorem push {sa a5 : Option Addr} {sc c5 : Nat} {S : List Int} {rk : Int} (h : OSt V B a k c R T) (hS : Ints V sa S.length S) (hSB : sa ≠ none → B ≤ ablk sa ∧ ablk sa < V.heap.size) (hSa : sa ≠ none → Apt a (ablk sa))
    (hown5 : w5.ownsRow B 105 2 (.slice a5 (k + 1) c5) (k + 1) (stV R T ++ [.slice sa S.length sc, .int .i64 rk])) (hgr5 : V.grownBy w5 (Value.slice a k c).ownBlock)
    (hap5 : ∀ b, b < V.heap.size → Apt a b → Apt a5 b) : OSt w5 B a5 (k + 1) c5 (R ++ [(sa, sc)]) (T ++ [(S, rk)]) := by
  refine ⟨by simp [h.rl], by simp [h.tl], by rw [stV_snoc _ _ R T (by rw [h.rl, h.tl])]; exact hown5, fun p hp => ?_⟩
  rw [List.zip_append (by rw [h.rl, h.tl])] at hp
  rcases List.mem_append.1 hp with hp | hp
  · obtain ⟨g1, g2, g3⟩ := h.row p hp
    refine ⟨g1.of_block fun hn => ?_, fun hn => ⟨(g2 hn).1, Nat.lt_of_lt_of_le (g2 hn).2 hgr5.size⟩, fun hn => hap5 _ (g2 hn).2 (g3 hn)⟩
    have hne : p.1.1 ≠ none := fun e => by
      have := g1.pl hn
      rw [e] at this; cases this
    exact hgr5.block _ (g2 hne).2 fun e => (g3 hne).own k c e.symm
  · simp at hp
    subst hp
    refine ⟨hS.of_block fun hn => ?_, fun hn => ⟨(hSB hn).1, Nat.lt_of_lt_of_le (hSB hn).2 hgr5.size⟩, fun hn => hap5 _ (hSB hn).2 (hSa hn)⟩
    have hne : sa ≠ none := fun e => by
      have := hS.pl hn
      rw [e] at this; cases this
    exact hgr5.block _ (hSB hne).2 fun e => (hSa hne).own k c e.symm
end OSt
end

/- The walk of infoset.Family. -/
section
open Go.RowKit

def lenV : Value → Nat
  | .slice _ n _ => n
  | _ => 0
theorem infoStepI : (Tryz.prog.info? 105).map (fun i => (i.zero, i.size, i.bytes)) = some (some (.agg #[.slice none 0 0, .int .i64 0]), 2, 32) := by kernel_rfl
/-- the order behind r phases -/
def phF (m : Nat) (U : List Int) : Nat → List Int
  | 0 => []
  | 1 => frTo false U m
  | _ => ordF m U
theorem phF_succ (m : Nat) (U : List Int) {r : Nat} (hr : r < 2) : phF m U (r + 1) = phF m U r ++ frTo (decide (r = 1)) U m := by
  match r, hr with
  | 0, _ => simp [phF]
  | 1, _ => simp [phF, ordF]

theorem Box.set1 {w : World} {g : Nat} {x y : Value} (h : Box w g [x, y]) (v : Value) : Box (w.setCell ⟨g, 1, none⟩ v) g [x, v] := by
  have k0 := h.cell 0 rfl
  have k1 := h.cell 1 rfl
  refine ⟨by simp; exact h.1, fun i u hu => ?_, fun i => by rw [World.frozen?_setCell]; exact h.frozen i⟩
  match i, hu with
  | 0, hu =>
    obtain rfl : x = u := by simpa using hu
    rw [World.cell?_setCell_other _ _ _ _ (by simp)]
    exact k0
  | 1, hu =>
    obtain rfl : v = u := by simpa using hu
    exact World.cell?_setCell_same _ _ _ k1
  | i + 2, hu => simp at hu
theorem OSt.mono {w : World} {B B' : Nat} {a : Option Addr} {k c : Nat} {R : List (Option Addr × Nat)} {T : List (List Int × Int)} (h : OSt w B a k c R T) (hB : B' ≤ B) : OSt w B' a k c R T := by
  refine ⟨h.rl, h.tl, ⟨h.own.1, ?_⟩, fun p hp => ?_⟩
  · rcases h.own.2 with h2 | ⟨g, cap, cur, hv, hg, r⟩
    · exact .inl h2
    · exact .inr ⟨g, cap, cur, hv, Nat.le_trans hB hg, r⟩
  · obtain ⟨h1, h2, h3⟩ := h.row p hp
    exact ⟨h1, fun hn => ⟨Nat.le_trans hB (h2 hn).1, (h2 hn).2⟩, h3⟩

def FamPost (P M : Int) (mod : List Int) (N : Int) (L : List (List Int)) (w : World) (e : Ending) (w' : World) : Prop :=
  Below w.heap.size w w' ∧ ((codeE P M mod N L ≠ 0 ∧ e = .returned (.tuple #[.slice none 0 0, .int .i64 (codeE P M mod N L)])) ∨
    (codeE P M mod N L = 0 ∧ ∃ m : Nat, N = m ∧ ∃ k a c R T, T = famL (tblOf P M.toNat mod).ops L m ∧ e = .returned (.tuple #[.slice a k c, .int .i64 0]) ∧ OSt w' w.heap.size a k c R T))

set_option maxRecDepth 100000 in
set_option maxHeartbeats 16000000 in
theorem family_any (P M : Int) (am : Option Addr) (mn cm : Nat) (mod : List Int) (N : Int) (a : Option Addr) (n c : Nat) (L : List (List Int)) (w : World) (hmod : Ints w am mn mod) (hi : Mat w a n L) :
    Calls Tryz.prog 63 #[.agg #[.int .i64 P, .int .i64 M, .slice am mn cm, .int .i64 N, .slice a n c]] w (FamPost P M mod N L w) := by
  have Hil := Lib.hid hi.len
  go_enter Tryz.func63, Tryz.ntmps63
  go_wp2_with fail
  obtain ⟨W, hW⟩ : ∃ W : World, W = w.alloc (.cells #[.int .i64 P, .int .i64 M, .slice am mn cm, .int .i64 N, .slice a n c] 27) := ⟨_, rfl⟩
  rw [← hW]
  have hbW : Below w.heap.size w W := by rw [hW]; exact below1 _ _
  have x0 : Box W w.heap.size [.int .i64 P, .int .i64 M, .slice am mn cm, .int .i64 N, .slice a n c] := by rw [hW]; exact Box.new _ _ _ rfl
  have HX := Lib.hid x0
  have HbW := Lib.hid hbW
  clear hW x0
  refine (infOpen_any P M am mn cm mod N a n c L W (hmod.keep hbW) (hi.keep hbW)).mono ?_
  rintro e w1 ⟨hb1, ⟨hE, rfl⟩ | ⟨hE, b, rfl, hG⟩⟩
  · have hbw1 := Below.next hbW hb1
    have HP : Hid (FamPost P M mod N L w (.returned (.tuple #[.slice none 0 0, .int .i64 (codeE P M mod N L)])) w1) := ⟨hbw1, .inl ⟨hE, rfl⟩⟩
    have hE2 : (codeE P M mod N L != 0) = true := by simpa using hE
    clear hE
    generalize codeE P M mod N L = er at *
    go_wp2_with fail
    go_ret2
    exact HP.out
  have hbw1 := Below.next hbW hb1
  obtain ⟨m, hm, hm1, hm64, hL256, hR⟩ := codeE_rws hE
  subst hm
  have hn : n ≤ 256 := by rw [← Hil.out]; exact hL256
  have HP : Hid (∀ k a' c' R T w', T = famL (tblOf P M.toNat mod).ops L m → Below w.heap.size w w' → OSt w' w.heap.size a' k c' R T → FamPost P M mod m L w (.returned (.tuple #[.slice a' k c', .int .i64 0])) w') := fun k a' c' R T w' h1 h2 h3 =>
    ⟨h2, .inr ⟨hE, m, rfl, k, a', c', R, T, h1, rfl, h3⟩⟩
  have Hgr : Hid (∀ V aq nq cq U, Below w1.heap.size w1 V → nq = (ordF m U).length → Ints V aq nq (ordF m U) → Calls Tryz.prog 91 #[.pointer (some ⟨b, 0, none⟩), .agg #[.int .i64 P, .int .i64 M, .slice am mn cm, .int .i64 m, .slice a n c], .slice aq nq cq] V (NewInts V (choF (tblOf P M.toNat mod).ops L m U))) := fun V aq nq cq U hV hnq hq =>
    greedy_any P M am mn cm m a n c L m aq nq cq (ordF m U) (hG.keep hV) (hi.keep (Below.next hbw1 hV)) hR hq (fun k hk => ordF_in m U k (by omega)) (by omega) (by rw [hnq, ordF_len]; omega)
  have Hcl : Hid (∀ U, (choF (tblOf P M.toNat mod).ops L m U).length ≤ m) := fun U => by
    have := grS_len (tblOf P M.toNat mod).ops L (ordF m U)
    rw [ordF_len] at this
    exact this
  obtain ⟨O, hO⟩ : ∃ O, (tblOf P M.toNat mod).ops = O := ⟨_, rfl⟩
  rw [hO] at HP Hgr Hcl
  have HC : Hid (∀ V, Below w1.heap.size w1 V → V.cell? ⟨w.heap.size, 0, none⟩ = some (.int .i64 P) ∧ V.cell? ⟨w.heap.size, 1, none⟩ = some (.int .i64 M) ∧ V.cell? ⟨w.heap.size, 2, none⟩ = some (.slice am mn cm) ∧ V.cell? ⟨w.heap.size, 3, none⟩ = some (.int .i64 m) ∧ V.cell? ⟨w.heap.size, 4, none⟩ = some (.slice a n c)) := fun V hV => by
    have x1 := HX.out.keep (Below.next hb1 hV)
    exact ⟨x1.cell 0 rfl, x1.cell 1 rfl, x1.cell 2 rfl, x1.cell 3 rfl, x1.cell 4 rfl⟩
  have Hbw1 := Lib.hid hbw1
  have hO0 := OSt.start w1 w1.heap.size
  clear hE hG hR hO hL256 hmod hi hbw1 hb1 hbW
  go_wp2_with fail
  go_loopw [6, 7] (fun ov uv wr => ∃ (k : Nat) (T : List (List Int × Int)) (ao : Option Addr) (co : Nat) (R : List (Option Addr × Nat)) (U : List Int) (au : Option Addr) (cu : Nat), k ≤ m ∧ ov = .slice ao k co ∧ uv = .slice au U.length cu ∧ OSt wr w1.heap.size ao k co R T ∧
      wr.ownsRow w1.heap.size 3 1 (.slice au U.length cu) U.length (U.map (Value.int .i64)) ∧ Hid ((ao ≠ none → Apt au (ablk ao)) ∧ (∀ r ∈ R, r.1 ≠ none → Apt au (ablk r.1))) ∧ Below w1.heap.size w1 wr ∧ Hid (famL O L m = famGo O L m (m + 1 - k) U T) ∧
      k + (frTo false U m).length ≤ m ∧ U.length ≤ 64 * k) (fun ov _ _ => m + 1 - lenV ov)
  case atStart => exact ⟨0, [], none, 0, [], [], none, 0, Nat.zero_le _, rfl, rfl, hO0, own_none, ⟨fun h => absurd rfl h, fun r hr => by simp at hr⟩, Below.refl _ _, rfl, by have := frTo_len false [] m; omega, by simp⟩
  case round =>
    clear hO0
    obtain ⟨k, T, ao, co, R, U, au, cu, hk, rfl, rfl, hOS, hU, hsep, hbr, hfam, hfr, hUl⟩ := hrel
    generalize wr = V0 at *
    obtain ⟨Un, hUn⟩ : ∃ Un, U.length = Un := ⟨_, rfl⟩
    have HUn := Lib.hid hUn
    rw [hUn] at hU hUl ⊢
    clear hUn
    have hIU := (Ints.own hU).1
    obtain ⟨V1, hV1⟩ : ∃ V1 : World, V1 = V0.alloc (.cells #[.bool false, .bool true] 4) := ⟨_, rfl⟩
    have hbV1 : Below V0.heap.size V0 V1 := by rw [hV1]; exact below1 _ _
    have hsV1 : V1.heap.size = V0.heap.size + 1 := by rw [hV1]; simp
    have xb : Box V1 V0.heap.size [.bool false, .bool true] := by rw [hV1]; exact Box.new _ _ _ rfl
    have Hbl : Hid (∀ V, Below V1.heap.size V1 V → ∀ r, r < 2 → V.cell? ⟨V0.heap.size, r, none⟩ = some (.bool (decide (r = 1)))) := fun V hV r hr => by
      have h := xb.keep hV
      match r, hr with
      | 0, _ => exact h.cell 0 rfl
      | 1, _ => exact h.cell 1 rfl
    have HsV1 := Lib.hid hsV1
    clear xb hsV1
    go_upto_region 8 with fail
    rw [← hV1]
    clear hV1
    go_loopw [8, 25] (fun qv iv wx => ∃ (r : Nat) (aq : Option Addr) (cq : Nat), r ≤ 2 ∧ iv = .int .i64 r ∧ qv = .slice aq (phF m U r).length cq ∧ wx.ownsRow V1.heap.size 3 1 (.slice aq (phF m U r).length cq) (phF m U r).length ((phF m U r).map (Value.int .i64)) ∧ Below V1.heap.size V1 wx) (fun _ iv _ => 2 - (intOf iv).toNat)
    case atStart => exact ⟨0, none, 0, by omega, rfl, rfl, own_none, Below.refl _ _⟩
    case round =>
      obtain ⟨r, aq, cq, hr, rfl, rfl, hop, hbx⟩ := hrel
      by_cases hlr : r < 2
      · have cb := Hbl.out wr hbx r hlr
        obtain ⟨_, _, _, c3, _⟩ := HC.out wr (Below.next hbr (Below.next hbV1 hbx))
        have Hph := Lib.hid (phF_succ m U hlr)
        have hphl : (phF m U r).length ≤ m := by
          match r, hlr with
          | 0, _ => simp [phF]
          | 1, _ => exact frTo_len false U m
        obtain ⟨old, hold⟩ : ∃ old, decide (r = 1) = old := ⟨_, rfl⟩
        rw [hold] at cb Hph
        obtain ⟨Ph, hPh⟩ : ∃ Ph, phF m U r = Ph := ⟨_, rfl⟩
        rw [hPh] at hop Hph hphl
        rw [hPh]
        clear hold hPh
        have dr2 : decide ((r : Int) < 2) = true := by simp; omega
        generalize wr = X1 at *
        go_wp2_with fail
        clear cb c3
        go_loopw [8, 31] (fun qv iv wy => ∃ (i : Nat) (aq : Option Addr) (cq : Nat), i ≤ m ∧ iv = .int .i64 i ∧ qv = .slice aq (Ph ++ frTo old U i).length cq ∧ wy.ownsRow V1.heap.size 3 1 (.slice aq (Ph ++ frTo old U i).length cq) (Ph ++ frTo old U i).length ((Ph ++ frTo old U i).map (Value.int .i64)) ∧ Below V1.heap.size V1 wy) (fun _ iv _ => m - (intOf iv).toNat)
        case atStart => exact ⟨0, aq, cq, Nat.zero_le _, rfl, by simp [frTo], by simpa [frTo] using hop, hbx⟩
        case round =>
          clear hop hbx
          obtain ⟨i, aq, cq, hi, rfl, rfl, hop, hby⟩ := hrel
          by_cases hli : i < m
          · have hIr := hIU.keep (Below.next hbV1 hby)
            have hca := contains_any au Un cu U (i : Int) wr hIr
            have hql : (Ph ++ frTo old U i).length ≤ 200 := by
              have := frTo_len old U i
              rw [List.length_append]; omega
            have hsy := hby.size
            by_cases hd : decide ((i : Int) ∈ U) = old
            · have Hst : Hid (Ph ++ frTo old U (i + 1) = (Ph ++ frTo old U i) ++ [(i : Int)]) := by show _ = _; rw [frTo, if_pos hd, List.append_assoc]
              rw [hd] at hca
              have HcA := Lib.hid hca
              have hoo : (old == old) = true := by simp
              clear hd hca
              generalize Ph ++ frTo old U i = q at *
              have hcn := cell_new wr (.int .i64 i) 3
              have hbn := below1 wr (.cells #[.int .i64 i] 3)
              go_wp2_with fail
              refine HcA.out.mono ?_
              rintro e w5 ⟨rfl, rfl⟩
              go_wp2_with (at_builtin; refine wpList_push rfl _ _ 22 3 rfl (.int .i64 0) 8 Tryz.underlying22 infoInt rfl V1.heap.size aq q.length cq _ rfl (hop.alloc _) ⟨w5.heap.size, 0, none⟩ 1 (.int .i64 i) rfl hcn rfl (by omega) (by unfold maxLen; omega) (by simp; omega) ?_; intro a5 c5 w6 hown5 hgr5 hap5)
              go_roundw
              case rel =>
                refine ⟨i + 1, a5, c5, by omega, by go_num, by rw [Hst.out]; simp, ?_, Below.app (Below.trans hby (hbn.mono hsy)) (hop.alloc _) hgr5 (Nat.le_refl _) (Nat.le_trans hsy hbn.size)⟩
                rw [Hst.out]; simpa using hown5
              case measure => simp [intOf] <;> omega
            · have Hst : Hid (Ph ++ frTo old U (i + 1) = Ph ++ frTo old U i) := by show _ = _; rw [frTo, if_neg hd]
              have HcA := Lib.hid hca
              have hoo : (decide ((i : Int) ∈ U) == old) = false := by simpa using hd
              clear hd hca
              generalize Ph ++ frTo old U i = q at *
              go_wp2_with fail
              refine HcA.out.mono ?_
              rintro e w5 ⟨rfl, rfl⟩
              go_wp2_with fail
              go_roundw
              case rel =>
                exact ⟨i + 1, aq, cq, by omega, by go_num, by rw [Hst.out], by rw [Hst.out]; exact hop, hby⟩
              case measure => simp [intOf] <;> omega
          · obtain rfl : i = m := by omega
            go_wp2_with fail
            go_roundw
            case rel =>
              exact ⟨r + 1, aq, cq, by omega, by go_num, by rw [Hph.out], by rw [Hph.out]; exact hop, hby⟩
            case measure => simp [intOf] <;> omega
      · obtain rfl : r = 2 := by omega
        have h2o : phF m U 2 = ordF m U := rfl
        rw [h2o] at hop ⊢
        have dr3 : decide (((2 : Nat) : Int) < 2) = false := by decide
        generalize wr = V2 at *
        have hbV2 : Below V0.heap.size V0 V2 := Below.next hbV1 hbx
        have hb12 : Below w1.heap.size w1 V2 := Below.next hbr hbV2
        have Hg := Lib.hid (Hgr.out V2 aq (ordF m U).length cq U hb12 rfl (Ints.own hop).1)
        obtain ⟨c0, c1, c2, c3, c4⟩ := HC.out V2 hb12
        have hSl := Hcl.out U
        have Hfam : Hid (famL O L m = famGo O L m (m - k + 1) U T) := by show _ = _; rw [hfam.out, show m + 1 - k = m - k + 1 by omega]
        have Hless : Hid (newF U (choF O L m U) (choF O L m U).length ≠ 0 → (frTo false (U ++ sortL (choF O L m U)) m).length < (frTo false U m).length) := fun h => fam_less h
        have Hfam2 : Hid (newF U (choF O L m U) (choF O L m U).length = 0 → famL O L m = T) := fun h => by rw [Hfam.out, famGo, if_pos h]
        have Hfam3 : Hid (newF U (choF O L m U) (choF O L m U).length ≠ 0 → famL O L m = famGo O L m (m - k) (U ++ sortL (choF O L m U)) (T ++ [(sortL (choF O L m U), newF U (choF O L m U) (choF O L m U).length)])) := fun h => by rw [Hfam.out, famGo, if_neg h]
        obtain ⟨S, hS⟩ : ∃ S, choF O L m U = S := ⟨_, rfl⟩
        rw [hS] at Hg hSl Hless Hfam2 Hfam3
        clear hS hop Hgr Hfam hfam h2o
        go_wp2_with fail
        refine Hg.out.mono ?_
        rintro e V3 ⟨a4, c4', rfl, hown4, hb3⟩
        obtain ⟨Sn, hSn⟩ : ∃ Sn, S.length = Sn := ⟨_, rfl⟩
        rw [hSn] at hown4 hSl Hless Hfam2 Hfam3 ⊢
        have HSn := Lib.hid hSn
        have hbV3 : Below V0.heap.size V0 V3 := Below.next hbV2 hb3
        have hIS := (Ints.own hown4).1
        have hplS := hIS.pl
        clear c0 c1 c2 c3 c4 Hg hSn
        obtain ⟨V4, hV4⟩ : ∃ V4 : World, V4 = V3.alloc (.cells #[.slice a4 Sn c4', .int .i64 0] 105) := ⟨_, rfl⟩
        have x4 : Box V4 V3.heap.size [.slice a4 Sn c4', .int .i64 0] := by rw [hV4]; exact Box.new _ _ _ rfl
        have hb4 : Below V3.heap.size V3 V4 := by rw [hV4]; exact below1 _ _
        go_upto_region 18 with fail
        rw [← hV4]
        have y0 := x4.cell 0 rfl
        clear hV4
        go_wp2_with fail
        clear y0
        go_loopw [53] (fun iv wy => ∃ i : Nat, i ≤ Sn ∧ iv = .int .i64 i ∧ Box wy V3.heap.size [.slice a4 Sn c4', .int .i64 (newF U S i)] ∧ Below V3.heap.size V3 wy) (fun iv _ => Sn - (intOf iv).toNat)
        case atStart => exact ⟨0, Nat.zero_le _, rfl, x4, hb4⟩
        case round =>
          clear x4 hb4
          obtain ⟨i, hi, rfl, hx, hby⟩ := hrel
          by_cases hli : i < Sn
          · have cS := (hIS.keep hby).cell i hli
            have hca := contains_any au Un cu U (nth S i) wr (hIU.keep (Below.next hbV3 hby))
            by_cases hin : nth S i ∈ U
            · have Hn : Hid (newF U S (i + 1) = newF U S i) := by show _ = _; rw [newF, if_pos hin]
              have hd : decide (nth S i ∈ U) = true := by simpa using hin
              rw [hd] at hca
              have HcA := Lib.hid hca
              clear hca hd hin
              go_wp2_with fail
              refine HcA.out.mono ?_
              rintro e w5 ⟨rfl, rfl⟩
              go_wp2_with fail
              go_roundw
              case rel => exact ⟨i + 1, by omega, by go_num, by rw [Hn.out]; exact hx, hby⟩
              case measure => simp [intOf] <;> omega
            · have Hn : Hid (newF U S (i + 1) = newF U S i + 1) := by show _ = _; rw [newF, if_neg hin]
              have hd : decide (nth S i ∈ U) = false := by simpa using hin
              rw [hd] at hca
              have HcA := Lib.hid hca
              have hbd := newF_bd U S i
              have y1 := hx.cell 1 rfl
              have f1 := hx.frozen 1
              obtain ⟨z, hz⟩ : ∃ z, newF U S i = z := ⟨_, rfl⟩
              rw [hz] at Hn hbd y1 hx
              have kz : IntKind.i64.wrap (z + 1) = z + 1 := IntWalk.i64_in _ (by omega)
              have Hx := Lib.hid (hx.set1 (.int .i64 (z + 1)))
              clear hca hd hin hz hx
              go_wp2_with fail
              refine HcA.out.mono ?_
              rintro e w5 ⟨rfl, rfl⟩
              go_wp2_with fail
              go_roundw
              case rel => exact ⟨i + 1, by omega, by go_num, by rw [Hn.out]; exact Hx.out, hby.setCell (Nat.le_refl _) _⟩
              case measure => simp [intOf] <;> omega
          · obtain rfl : i = Sn := by omega
            generalize wr = V5 at *
            have hbV5 : Below V0.heap.size V0 V5 := Below.next hbV3 hby
            have y0 := hx.cell 0 rfl
            have y1 := hx.cell 1 rfl
            obtain ⟨rk, hrk⟩ : ∃ rk, newF U S i = rk := ⟨_, rfl⟩
            rw [hrk] at y1 hx Hless Hfam2 Hfam3
            by_cases hz : rk = 0
            · have hz' : (rk == 0) = true := by simpa using hz
              have HF := Lib.hid (HP.out k ao co R T V5 (Hfam2.out hz).symm (Below.next Hbw1.out (Below.next hbr hbV5)) ((hOS.keep hbV5).mono Hbw1.out.size))
              clear hz hrk hOS hU hown4 Hless Hfam2 Hfam3
              go_wp2_with fail
              go_ret2
              exact HF.out
            · have hz' : (rk == 0) = false := by simpa using hz
              have hls := Hless.out hz
              have hfam3 := Hfam3.out hz
              have hipos : 0 < i := by
                rcases Nat.eq_zero_or_pos i with h0 | h0
                · subst h0; exact absurd hrk.symm hz
                · exact h0
              have hown5 := own_keep hown4 hby
              have hsz02 := hbV2.size
              have hsz03 := hbV3.size
              have hsz25 : V2.heap.size ≤ V5.heap.size := by have := hb3.size; have := hby.size; omega
              have HSo := Lib.hid (sort_any V2.heap.size a4 i c4' S V5 hown5 hsz25 (by omega))
              have hsz12 := hb12.size
              have hsz35 := hby.size
              have ha4 : a4 ≠ none → V2.heap.size ≤ ablk a4 ∧ ablk a4 < V3.heap.size := fun h0 => own_ne hown4 h0
              have hau : au ≠ none → ablk au < V0.heap.size := fun h0 => (own_ne hU h0).2
              have hap4g : Apt a4 V3.heap.size := by
                by_cases h0 : a4 = none
                · exact .inl h0
                · exact .inr (by have := (ha4 h0).2; omega)
              have hapug : Apt au V3.heap.size := by
                by_cases h0 : au = none
                · exact .inl h0
                · exact .inr (by have := hau h0; omega)
              have hapu4 : a4 ≠ none → Apt au (ablk a4) := fun h4 => by
                by_cases h0 : au = none
                · exact .inl h0
                · exact .inr (by have := hau h0; have := (ha4 h4).1; omega)
              have hao : ao ≠ none → ablk ao < V0.heap.size := fun h0 => (hOS.blk h0).2
              have hapo4 : a4 ≠ none → Apt ao (ablk a4) := fun h4 => by
                by_cases h0 : ao = none
                · exact .inl h0
                · exact .inr (by have := hao h0; have := (ha4 h4).1; omega)
              clear hrk hz hown4 hown5 Hless Hfam2 Hfam3
              go_wp2_with fail
              refine HSo.out.mono ?_
              rintro e V6 ⟨rfl, hown6, hgr6, hb6⟩
              have z0 := cell_grownApt hgr6 y0 hap4g
              have z1 := cell_grownApt hgr6 y1 hap4g
              have hbV6 : Below V0.heap.size V0 V6 := hbV5.trans (hb6.mono hsz02)
              have hU6 := own_keep hU hbV6
              have hOS6 := hOS.keep hbV6
              have hIS6 := (Ints.own hown6).1
              have hSs : (sortL S).length = i := by rw [sortL_len]; exact HSn.out
              have hsz56 := hb6.size
              have hb16 := Below.next hbr hbV6
              have hsz16 := hb16.size
              clear y0 y1 hx hOS hU hown6 HSo
              go_wp2_with ((first
                | (at_builtin; refine wpList_appAll (by rfl) (.tmp 73) (.tmp 75) 22 3 (by rfl) (.int .i64 0) 8 Tryz.underlying22 infoInt (by rfl) w1.heap.size au Un cu (U.map (Value.int .i64)) (by rfl) hU6 a4 i c4' ((sortL S).map (Value.int .i64)) (by rfl) hplS (by simp [hSs]) (Ints.news hIS6) (ints_oneCell _ _) (by omega) (by unfold maxLen; omega) hsz16 ?_; intro a7 c7 V7 hown7 hgr7 hap7; have k0 := cell_grownApt hgr7 z0 hapug; have k1 := cell_grownApt hgr7 z1 hapug; have hOS8 := (hOS6.grown hgr7 hsep.out.1 hsep.out.2).keep (below1 V7 (.cells #[.slice a4 i c4', .int .i64 rk] 105)))
                | (at_builtin; refine wpList_push2 (by rfl) (.tmp 77) (.tmp 79) 97 105 (by rfl) (.agg #[.slice none 0 0, .int .i64 0]) 32 Tryz.underlying97 infoStepI (by rfl) w1.heap.size ao k co (stV R T) (by rfl) hOS8.own V7.heap.size 1 (.slice a4 i c4') (.int .i64 rk) (by rfl) (cell_alloc_at _ _ _ rfl 0) (cell_alloc_at _ _ _ rfl 1) (by rfl) (by rfl) (by omega) (by unfold maxLen; omega) (by have := hgr7.size; simp; omega) ?_; intro a9 c9 V9 hown9 hgr9 hap9)))
              go_roundw
              case rel =>
                have hUl2 : (U ++ sortL S).length = Un + i := by rw [List.length_append, HUn.out, hSs]
                have hne7 : a7 ≠ none := fun e => by
                  obtain ⟨a', c', hv, hp⟩ := Pl.own hown7
                  cases hv
                  have := hp (by omega)
                  rw [e] at this; cases this
                have hsz67 := hgr7.size
                have hb8 := below1 V7 (.cells #[.slice a4 i c4', .int .i64 rk] 105)
                have hsz78 := hb8.size
                have hapo7 : Apt ao (ablk a7) := by
                  by_cases h0 : ao = none
                  · exact .inl h0
                  · have h1 := hap7 (ablk ao) (by have := hao h0; omega) (hsep.out.1 h0)
                    rcases h1 with h1 | h1
                    · exact absurd h1 hne7
                    · exact .inr fun e => h1 e.symm
                have hown79 := own_grownApt (own_keep hown7 hb8) hgr9 hapo7
                have hI8 : Ints (V7.alloc (.cells #[.slice a4 i c4', .int .i64 rk] 105)) a4 (sortL S).length (sortL S) := by
                  rw [hSs]
                  exact (hIS6.grownApt hgr7 fun h => hapu4 fun e => by have := hplS h; rw [e] at this; cases this).keep hb8
                have hb17 : Below w1.heap.size w1 V7 := Below.app hb16 hU6 hgr7 (Nat.le_refl _) hsz16
                have hb18 := Below.next hb17 hb8
                have hOS9 := hOS8.push hI8 (fun h0 => ⟨by have := (ha4 h0).1; omega, by have := (ha4 h0).2; omega⟩) hapo4 (by rw [hSs]; exact hown9) hgr9 hap9
                have hb19 : Below w1.heap.size w1 V9 := hb18.grown hgr9 (by omega) fun j hj => by
                  cases ao with
                  | none => simp [Value.ownBlock] at hj
                  | some y => simp [Value.ownBlock] at hj; rw [← hj]; exact (hOS8.blk (by simp)).1
                refine ⟨k + 1, T ++ [(sortL S, rk)], a9, c9, R ++ [(a4, c4')], U ++ sortL S, a7, c7, by omega, rfl, by rw [hUl2], hOS9, by rw [hUl2, List.map_append]; exact hown79, ⟨fun h0 => ?_, fun r hr h0 => ?_⟩, hb19, by rw [show m + 1 - (k + 1) = m - k by omega]; exact hfam3, by omega, by rw [hUl2]; omega⟩
                · have h1 := hap9 (ablk a7) (by have := (own_ne hown7 hne7).2; omega) hapo7
                  rcases h1 with h1 | h1
                  · exact absurd h1 h0
                  · exact .inr fun e => h1 e.symm
                · rcases List.mem_append.1 hr with hr | hr
                  · exact hap7 _ (hOS6.row_of hr h0).1.2 (hsep.out.2 r hr h0)
                  · rw [List.mem_singleton] at hr
                    subst hr
                    have h4 : ablk a4 < V3.heap.size := (ha4 h0).2
                    exact hap7 (ablk a4) (by omega) (hapu4 h0)
              case measure => simp [lenV] <;> omega
end

/- The examples of the chapter on information sets, reckoned (plain law). -/
section
def awG : List (List Int) := [[1, 0, 1, 0], [0, 1, 1, 1]]
theorem aw_code : codeE 2 1 [] 4 awG = 0 := by decide +kernel
theorem aw_is1 : isV 2 1 [] 4 awG [0, 1] = true ∧ rankE 2 1 [] 4 awG [0, 1] = 0 := by decide +kernel
theorem aw_is2 : isV 2 1 [] 4 awG [1, 3] = false ∧ rankE 2 1 [] 4 awG [1, 3] = 0 := by decide +kernel
theorem aw_rank : (grS (tblOf 2 1 []).ops awG [1, 3]).length = 1 := by decide +kernel
theorem aw_s1 : sortL [1, 3, 2] = [1, 2, 3] := (sortL_unique (l := [1, 3, 2]) (by decide) (by decide)).symm
theorem aw_s2 : sortL [1, 2] = [1, 2] := (sortL_unique (l := [1, 2]) (by decide) (by decide)).symm
theorem aw_s3 : sortL [0, 1] = [0, 1] := (sortL_unique (l := [0, 1]) (by decide) (by decide)).symm
theorem aw_s4 : sortL [2, 3] = [2, 3] := (sortL_unique (l := [2, 3]) (by decide) (by decide)).symm
theorem aw_gre : greE 2 1 [] 4 awG [1, 3, 2] = 0 := by rw [greE, aw_s1]; decide +kernel
theorem aw_gr : grS (tblOf 2 1 []).ops awG [1, 3, 2] = [1, 2] := by decide +kernel
theorem aw_sys : sysE 2 1 [] 4 awG [2, 3] = 0 := by decide +kernel
theorem aw_sysl : sysL (tblOf 2 1 []).ops 4 awG [2, 3] = [[1, 0, 1, 0], [1, 1, 0, 1]] := by decide +kernel
theorem aw_ex : exV 2 1 [] 4 awG [0, 1] [2, 3] 0 = (2, 0) := by decide +kernel
theorem aw_fl : flV 2 [2, 2] 1 = (4, 0) := by decide +kernel
theorem aw_c1 : choF (tblOf 2 1 []).ops awG 4 [] = [0, 1] := by decide +kernel
theorem aw_c2 : choF (tblOf 2 1 []).ops awG 4 [0, 1] = [2, 3] := by decide +kernel
theorem aw_c3 : choF (tblOf 2 1 []).ops awG 4 [0, 1, 2, 3] = [0, 1] := by decide +kernel
theorem aw_fam : famL (tblOf 2 1 []).ops awG 4 = [([0, 1], 2), ([2, 3], 2)] := by
  rw [famL, famGo, aw_c1, aw_s3, if_neg (by decide)]
  rw [show ([] : List Int) ++ [0, 1] = [0, 1] from rfl, famGo, aw_c2, aw_s4, if_neg (by decide)]
  rw [show ([0, 1] : List Int) ++ [2, 3] = [0, 1, 2, 3] from rfl, famGo, aw_c3, if_pos (by decide)]
  decide +kernel
end

/- The walk of codewrightref25.SameSteps, at equal lists. -/
section
open Go.RowKit

/-- a slice that reads as steps -/
structure StR (w : World) (a : Option Addr) (n : Nat) (T : List (List Int × Int)) : Prop where
  len : T.length = n
  pl : Pl a n
  max : n ≤ maxLen
  cell : ∀ i (h : i < T.length), ∃ sa sc, w.cell? ⟨ablk a, aoff a + i * 2, none⟩ = some (.slice sa T[i].1.length sc) ∧ w.cell? ⟨ablk a, aoff a + i * 2 + 1, none⟩ = some (.int .i64 T[i].2) ∧ Ints w sa T[i].1.length T[i].1
theorem StR.keep {w w' : World} {a : Option Addr} {n : Nat} {T : List (List Int × Int)} (h : StR w a n T) (hb : Below w.heap.size w w') : StR w' a n T :=
  ⟨h.len, h.pl, h.max, fun i hi => by
    obtain ⟨sa, sc, h1, h2, h3⟩ := h.cell i hi
    exact ⟨sa, sc, cell_keep hb h1, cell_keep hb h2, h3.keep hb⟩⟩
theorem stV_at : ∀ (R : List (Option Addr × Nat)) (T : List (List Int × Int)), R.length = T.length → ∀ i (h : i < T.length) (h2 : i < R.length), (stV R T)[i * 2]? = some (.slice (R[i]).1 (T[i]).1.length (R[i]).2) ∧ (stV R T)[i * 2 + 1]? = some (.int .i64 (T[i]).2)
  | [], [], _, i, h, _ => by simp at h
  | [], _ :: _, h, _, _, _ => by simp at h
  | _ :: _, [], h, _, _, _ => by simp at h
  | r :: R, t :: T, h, 0, _, _ => by simp [stV]
  | r :: R, t :: T, h, i + 1, hi, hi2 => by
    have := stV_at R T (by simpa using h) i (by simpa using hi) (by simpa using hi2)
    rw [stV, show (i + 1) * 2 = i * 2 + 1 + 1 by omega]
    simpa using this
theorem OSt.str {w : World} {B : Nat} {a : Option Addr} {k c : Nat} {R : List (Option Addr × Nat)} {T : List (List Int × Int)} (h : OSt w B a k c R T) : StR w a k T := by
  have hRT : R.length = T.length := by rw [h.rl, h.tl]
  rcases h.own.2 with ⟨hv, h0⟩ | ⟨g, cap, cur, hv, hg, hh, hn, hm, hs, ht⟩
  · cases hv
    have hT : T = [] := List.eq_nil_of_length_eq_zero h.tl
    subst hT
    exact ⟨rfl, fun h => by omega, by unfold maxLen; omega, fun i hi => by simp at hi⟩
  · cases hv
    refine ⟨h.tl, fun _ => rfl, by omega, fun i hi => ?_⟩
    have hi2 : i < R.length := by omega
    obtain ⟨e1, e2⟩ := stV_at R T hRT i hi hi2
    have hc := World.ownsRow.cells h.own (g := g) rfl
    have h3 := h.row (R[i], T[i]) (List.mem_iff_getElem.2 ⟨i, by simp; omega, by simp⟩)
    have c1 := hc _ _ e1
    have c2 := hc _ _ e2
    rw [Addr.add_lit] at c1 c2
    refine ⟨(R[i]).1, (R[i]).2, ?_, ?_, h3.1⟩
    · simpa [ablk, aoff] using c1
    · simpa [ablk, aoff] using c2

set_option maxRecDepth 100000 in
set_option maxHeartbeats 4000000 in
theorem sameSteps_any (a : Option Addr) (n c : Nat) (a' : Option Addr) (n' c' : Nat) (T : List (List Int × Int)) (w : World) (h : StR w a n T) (h' : StR w a' n' T) :
    Calls Tryz.prog 67 #[.slice a n c, .slice a' n' c'] w (QuietBool w true) := by
  obtain rfl : n = n' := by rw [← h.len, ← h'.len]
  have Hl := Lib.hid h.len
  have hpl := h.pl
  have hpl' := h'.pl
  have hmax := h.max
  unfold maxLen at hmax
  have hnn : ((n : Int) != n) = false := by simp
  go_enter Tryz.func67, Tryz.ntmps67
  go_wp2_with fail
  go_loopw [5] (fun iv wr => ∃ k : Nat, k ≤ n ∧ iv = .int .i64 k ∧ Drawn w wr) (fun i _ => n - (intOf i).toNat)
  case atStart => exact ⟨0, Nat.zero_le _, rfl, Drawn.refl _⟩
  case round =>
    obtain ⟨k, hk, rfl, hd⟩ := hrel
    by_cases hlt : k < n
    · have hkT : k < T.length := by rw [Hl.out]; exact hlt
      obtain ⟨b1, d1, c1, r1, i1⟩ := (h.keep hd.below).cell k hkT
      obtain ⟨b2, d2, c2, r2, i2⟩ := (h'.keep hd.below).cell k hkT
      have hz : (T[k].2 != T[k].2) = false := by simp
      have hc := rSameInts_any b1 T[k].1.length d1 T[k].1 b2 T[k].1.length d2 T[k].1 (i1.drawn (Drawn.refl wr).drew) (i2.drawn (Drawn.refl wr).drew)
      rw [decide_eq_true (rfl : T[k].1 = T[k].1)] at hc
      have Hc := Lib.hid hc
      clear hc i1 i2
      generalize T[k].2 = z at *
      generalize T[k].1.length = ln at *
      go_wp2_with fail
      go_region_held3 (fun V => V.cell? ⟨ablk a, aoff a + k * 2, none⟩ = some (.slice b1 ln d1) ∧ V.cell? ⟨ablk a, aoff a + k * 2 + 1, none⟩ = some (.int .i64 z) ∧ V.cell? ⟨ablk a', aoff a' + k * 2, none⟩ = some (.slice b2 ln d2) ∧ V.cell? ⟨ablk a', aoff a' + k * 2 + 1, none⟩ = some (.int .i64 z)) (exact ⟨c1, r1, c2, r2⟩)
        (first | (go_at_call 66; ((with_reducible refine Hc.out.mono ?_); rintro e w4 ⟨rfl, m4, rfl⟩)))
      go_wp2_with fail
      go_roundw
      case rel => exact ⟨k + 1, by omega, by go_num, hd.drewN (1 + m4)⟩
      case measure => simp [intOf] <;> omega
    · obtain rfl : k = n := by omega
      go_wp2_with fail
      go_ret
      exact ⟨rfl, hd⟩
end

end Go.Proofs.YtapjcccpokhhhaaGreat
