/- Two matrices whose rows go together: 'each' of matrix.eliminate at both. -/
import Derived.Test.YtapjcccpokhhhaaG17
import Derived.Test.YtapjcccpokhhhaaG7
namespace Go.Proofs.Ytapjcccpokhhhaa
set_option linter.unusedVariables false
set_option linter.unusedSimpArgs false
set_option linter.unusedSectionVars false

/- The greedy order, as plain Lean functions. -/
section
/-- the first position below i, not in x, of least value, and its value -/
def bestTo (f : Nat → Int) (N x : Nat) : Nat → Int × Int
  | 0 => (-1, N + 1)
  | i + 1 => if x.testBit i = true then bestTo f N x i else if f (x ||| 2 ^ i) < (bestTo f N x i).2 then ((i : Int), f (x ||| 2 ^ i)) else bestTo f N x i
def greedyTo (f : Nat → Int) (N : Nat) : Nat → List Int
  | 0 => []
  | k + 1 => greedyTo f N k ++ [(bestTo f N (maskS (greedyTo f N k)) N).1]
/-- the same over a list of the positions that are left -/
def rbTo (f : Nat → Int) (N x : Nat) (left : List Int) : Nat → Int × Int
  | 0 => (nth left 0, N + 1)
  | i + 1 => if f (x ||| 2 ^ (nth left i).toNat) < (rbTo f N x left i).2 then (nth left i, f (x ||| 2 ^ (nth left i).toNat)) else rbTo f N x left i

theorem greedyTo_len (f : Nat → Int) (N : Nat) : ∀ k, (greedyTo f N k).length = k
  | 0 => rfl
  | k + 1 => by rw [greedyTo, List.length_append, greedyTo_len f N k]; rfl

section
variable {f : Nat → Int} {N : Nat} (hf : ∀ y, f y ≤ N)
include hf
theorem bestTo_spec (x : Nat) : ∀ i, (bestTo f N x i = (-1, (N : Int) + 1) ∧ ∀ j, j < i → x.testBit j = true) ∨ ((bestTo f N x i).2 ≤ N ∧ ∃ b : Nat, (bestTo f N x i).1 = b ∧ b < i ∧ x.testBit b = false)
  | 0 => .inl ⟨rfl, fun j hj => by omega⟩
  | i + 1 => by
    have ih := bestTo_spec x i
    unfold bestTo
    by_cases hx : x.testBit i = true
    · rw [if_pos hx]
      rcases ih with ⟨h1, h2⟩ | ⟨h1, b, h2, h3, h4⟩
      · exact .inl ⟨h1, fun j hj => by
          by_cases e : j = i
          · subst e; exact hx
          · exact h2 j (by omega)⟩
      · exact .inr ⟨h1, b, h2, by omega, h4⟩
    · rw [if_neg hx]
      have hx' : x.testBit i = false := by simpa using hx
      split
      · exact .inr ⟨hf _, i, rfl, by omega, hx'⟩
      · rename_i hlt
        rcases ih with ⟨h1, h2⟩ | ⟨h1, b, h2, h3, h4⟩
        · rw [h1] at hlt
          have := hf (x ||| 2 ^ i)
          exact absurd (show f (x ||| 2 ^ i) < (N : Int) + 1 by omega) hlt
        · exact .inr ⟨h1, b, h2, by omega, h4⟩
end

theorem bits_more {x b : Nat} (h : x.testBit b = false) : ∀ k, (bitsTo (x ||| 2 ^ b) k).length = (bitsTo x k).length + if b < k then 1 else 0
  | 0 => rfl
  | k + 1 => by
    have ih := bits_more h k
    have hb : (x ||| 2 ^ b).testBit k = (x.testBit k || decide (b = k)) := by rw [Nat.testBit_or, Nat.testBit_two_pow]
    rw [bitsTo, bitsTo, hb]
    by_cases e : b = k
    · subst e
      rw [h, if_pos (by simp), if_neg (by simp), List.length_append, ih, if_neg (by omega), if_pos (by omega)]; rfl
    · have : decide (b = k) = false := by simpa using e
      rw [this, Bool.or_false]
      split
      · rw [List.length_append, List.length_append, ih]
        simp only [List.length_singleton]
        by_cases h1 : b < k
        · rw [if_pos h1, if_pos (by omega)]
        · rw [if_neg h1, if_neg (by omega)]
      · rw [ih]
        by_cases h1 : b < k
        · rw [if_pos h1, if_pos (by omega)]
        · rw [if_neg h1, if_neg (by omega)]
theorem bits_full {x : Nat} : ∀ k, (∀ j, j < k → x.testBit j = true) → (bitsTo x k).length = k
  | 0, _ => rfl
  | k + 1, h => by rw [bitsTo, if_pos (h k (by omega)), List.length_append, bits_full k fun j hj => h j (by omega)]; rfl
theorem maskTo_append (Q R : List Int) : ∀ k, k ≤ Q.length → maskTo (Q ++ R) k = maskTo Q k
  | 0, _ => rfl
  | k + 1, h => by
    have e : nth (Q ++ R) k = nth Q k := by simp only [nth, List.getD_eq_getElem?_getD]; rw [List.getElem?_append_left (by omega)]
    rw [maskTo, maskTo, maskTo_append Q R k (by omega), e]
theorem maskS_snoc (Q : List Int) (b : Int) : maskS (Q ++ [b]) = maskS Q ||| 2 ^ b.toNat := by
  unfold maskS
  rw [List.length_append, List.length_singleton, maskTo, maskTo_append Q [b] _ (Nat.le_refl _)]
  congr 3
  rw [nth_push, if_neg (by omega), if_pos rfl]

/-- the first k positions: within N, different, and the next one -/
theorem greedy_inv {f : Nat → Int} {N : Nat} (hf : ∀ y, f y ≤ N) : ∀ k, k ≤ N → InN N (greedyTo f N k) ∧ (bitsTo (maskS (greedyTo f N k)) N).length = k
  | 0, _ => ⟨fun j hj => by simp [greedyTo] at hj, by
      have : ∀ n, bitsTo (maskS (greedyTo f N 0)) n = [] := fun n => by
        induction n with
        | zero => rfl
        | succ n ih => rw [bitsTo, if_neg (by simp [maskS, maskTo, greedyTo]), ih]
      rw [this]; rfl⟩
  | k + 1, hk => by
    obtain ⟨h1, h2⟩ := greedy_inv hf k (by omega)
    rcases bestTo_spec hf (maskS (greedyTo f N k)) N with ⟨_, h3⟩ | ⟨_, b, h4, h5, h6⟩
    · have := bits_full N h3; omega
    · refine ⟨fun j hj => ?_, ?_⟩
      · rw [greedyTo_len] at hj
        rw [greedyTo, nth_push, greedyTo_len, h4]
        by_cases e : j < k
        · rw [if_pos e]; exact h1 j (by rw [greedyTo_len]; exact e)
        · rw [if_neg e, if_pos (by omega)]; omega
      · rw [greedyTo, maskS_snoc, h4, Int.toNat_natCast, bits_more h6, h2, if_pos h5]
theorem greedy_next {f : Nat → Int} {N : Nat} (hf : ∀ y, f y ≤ N) {k : Nat} (hk : k < N) : ∃ b : Nat, (bestTo f N (maskS (greedyTo f N k)) N).1 = b ∧ b < N ∧ (maskS (greedyTo f N k)).testBit b = false := by
  obtain ⟨_, h2⟩ := greedy_inv hf k (by omega)
  rcases bestTo_spec hf (maskS (greedyTo f N k)) N with ⟨_, h3⟩ | ⟨_, b, h4, h5, h6⟩
  · have := bits_full N h3; omega
  · exact ⟨b, h4, h5, h6⟩

theorem bits_prefix (y : Nat) {k N : Nat} (h : k ≤ N) : ∃ r, bitsTo y N = bitsTo y k ++ r := by
  obtain ⟨d, rfl⟩ : ∃ d, N = k + d := ⟨N - k, by omega⟩
  clear h
  induction d with
  | zero => exact ⟨[], by simp⟩
  | succ d ih =>
    obtain ⟨r, hr⟩ := ih
    rw [← Nat.add_assoc, bitsTo]
    split
    · exact ⟨r ++ [((k + d : Nat) : Int)], by rw [hr, List.append_assoc]⟩
    · exact ⟨r, hr⟩
theorem nth_bits_at (y : Nat) {k N : Nat} (h : k < N) (hb : y.testBit k = true) : nth (bitsTo y N) (bitsTo y k).length = k := by
  obtain ⟨r, hr⟩ := bits_prefix y (k := k + 1) (N := N) (by omega)
  rw [hr, bitsTo, if_pos hb]
  simp [nth, List.getD_eq_getElem?_getD]

theorem rb_best {f : Nat → Int} {N : Nat} (hf : ∀ y, f y ≤ N) (hN : N ≤ 64) (x : Nat) : ∀ k, k ≤ N →
    (bitsTo (cplU x) k = [] ∧ bestTo f N x k = (-1, (N : Int) + 1)) ∨ (bitsTo (cplU x) k ≠ [] ∧ rbTo f N x (bitsTo (cplU x) N) (bitsTo (cplU x) k).length = bestTo f N x k)
  | 0, _ => .inl ⟨rfl, rfl⟩
  | k + 1, hk => by
    have ih := rb_best hf hN x k (by omega)
    have hc := cplU_test x k (by omega)
    by_cases hx : x.testBit k = true
    · rw [hx] at hc
      have e1 : bitsTo (cplU x) (k + 1) = bitsTo (cplU x) k := by rw [bitsTo, if_neg (by rw [hc]; simp)]
      have e2 : bestTo f N x (k + 1) = bestTo f N x k := by rw [bestTo, if_pos hx]
      rw [e1, e2]; exact ih
    · have hx' : x.testBit k = false := by simpa using hx
      rw [hx'] at hc
      have e1 : bitsTo (cplU x) (k + 1) = bitsTo (cplU x) k ++ [(k : Int)] := by rw [bitsTo, if_pos (by rw [hc]; rfl)]
      have e2 : bestTo f N x (k + 1) = if f (x ||| 2 ^ k) < (bestTo f N x k).2 then ((k : Int), f (x ||| 2 ^ k)) else bestTo f N x k := by rw [bestTo, if_neg hx]
      have e3 := nth_bits_at (cplU x) (k := k) (N := N) (by omega) (by rw [hc]; rfl)
      refine .inr ⟨by rw [e1]; simp, ?_⟩
      rw [e1, e2, List.length_append, List.length_singleton, rbTo, e3, Int.toNat_natCast]
      rcases ih with ⟨h1, h2⟩ | ⟨h1, h2⟩
      · have := hf (x ||| 2 ^ k)
        rw [h2, h1]
        show (if f (x ||| 2 ^ k) < (N : Int) + 1 then _ else _) = if f (x ||| 2 ^ k) < (N : Int) + 1 then _ else _
        rw [if_pos (by omega), if_pos (by omega)]
      · rw [h2]
theorem rb_all {f : Nat → Int} {N : Nat} (hf : ∀ y, f y ≤ N) (hN : N ≤ 64) {x : Nat} (h0 : 0 < (bitsTo (cplU x) N).length) : rbTo f N x (bitsTo (cplU x) N) (bitsTo (cplU x) N).length = bestTo f N x N := by
  rcases rb_best hf hN x N (Nat.le_refl _) with ⟨h1, _⟩ | ⟨_, h1⟩
  · rw [h1] at h0; exact absurd h0 (by decide)
  · exact h1
end

/- Orders, widths and the table over all sets, as plain Lean functions. -/
section
/-- the first k entries are different positions below N -/
def ordTo (N : Int) (Q : List Int) : Nat → Bool
  | 0 => true
  | k + 1 => ordTo N Q k && (decide (0 ≤ nth Q k) && decide (nth Q k < N) && !(maskTo Q k).testBit (nth Q k).toNat)
def ordB (N : Int) (Q : List Int) : Bool := decide ((Q.length : Int) = N) && ordTo N Q Q.length
theorem ordTo_at {N : Int} {Q : List Int} : ∀ {k}, ordTo N Q k = true → ∀ j, j < k → 0 ≤ nth Q j ∧ nth Q j < N ∧ (maskTo Q j).testBit (nth Q j).toNat = false
  | 0, _, j, hj => by omega
  | k + 1, h, j, hj => by
    unfold ordTo at h
    simp only [Bool.and_eq_true, decide_eq_true_eq, Bool.not_eq_true'] at h
    by_cases e : j = k
    · subst e; exact ⟨h.2.1.1, h.2.1.2, h.2.2⟩
    · exact ordTo_at h.1 j (by omega)
theorem ordTo_le {N : Int} {Q : List Int} {k : Nat} (h : ordTo N Q k = true) : ∀ j, j ≤ k → ordTo N Q j = true := by
  induction k with
  | zero => intro j hj; obtain rfl : j = 0 := by omega
            exact h
  | succ k ih =>
    intro j hj
    by_cases e : j = k + 1
    · subst e; exact h
    · unfold ordTo at h
      simp only [Bool.and_eq_true] at h
      exact ih h.1 j (by omega)
theorem ordTo_bad {N : Int} {Q : List Int} {k j : Nat} (hj : j < k) (h : ¬ (0 ≤ nth Q j ∧ nth Q j < N ∧ (maskTo Q j).testBit (nth Q j).toNat = false)) : ordTo N Q k = false := by
  apply Classical.byContradiction
  intro hn
  exact h (ordTo_at (by simpa using hn) j hj)
theorem ordB_in {n : Nat} {Q : List Int} (h : ordB n Q = true) : InN n Q ∧ Q.length = n := by
  unfold ordB at h
  simp only [Bool.and_eq_true, decide_eq_true_eq] at h
  exact ⟨fun j hj => ⟨(ordTo_at h.2 j hj).1, (ordTo_at h.2 j hj).2.1⟩, by omega⟩

/-- the width of the first k positions -/
def wdTo (f : Nat → Int) (Q : List Int) : Nat → Int
  | 0 => 0
  | k + 1 => max (wdTo f Q k) (f (maskTo Q (k + 1)))
/-- the same, from the empty set on -/
def wrTo (f : Nat → Int) (Q : List Int) : Nat → Int
  | 0 => 0
  | k + 1 => max (wrTo f Q k) (f (maskTo Q k))
theorem wdTo_nn (f : Nat → Int) (Q : List Int) : ∀ k, 0 ≤ wdTo f Q k
  | 0 => Int.le_refl _
  | k + 1 => Int.le_trans (wdTo_nn f Q k) (Int.le_max_left _ _)
theorem wrTo_eq {f : Nat → Int} (h0 : f 0 ≤ 0) (Q : List Int) : ∀ k, wrTo f Q (k + 1) = wdTo f Q k
  | 0 => by
    show max 0 (f 0) = 0
    omega
  | k + 1 => by rw [wrTo, wrTo_eq h0 Q k]; rfl
theorem wdTo_le {f : Nat → Int} {b : Int} (hb : 0 ≤ b) (hf : ∀ y, f y ≤ b) (Q : List Int) : ∀ k, wdTo f Q k ≤ b
  | 0 => hb
  | k + 1 => Int.max_le.2 ⟨wdTo_le hb hf Q k, hf _⟩
theorem wdTo_ge (f : Nat → Int) (Q : List Int) : ∀ k j, j < k → f (maskTo Q (j + 1)) ≤ wdTo f Q k
  | 0, j, hj => by omega
  | k + 1, j, hj => by
    by_cases e : j = k
    · subst e; exact Int.le_max_right _ _
    · exact Int.le_trans (wdTo_ge f Q k j (by omega)) (Int.le_max_left _ _)
theorem maskTo_take (Q : List Int) (i : Nat) : ∀ k, k ≤ i → k ≤ Q.length → maskTo (Q.take i) k = maskTo Q k
  | 0, _, _ => rfl
  | k + 1, h1, h2 => by
    have e : nth (Q.take i) k = nth Q k := by unfold nth; simp only [List.getD_eq_getElem?_getD, List.getElem?_take]; rw [if_pos (by omega)]
    rw [maskTo, maskTo, maskTo_take Q i k (by omega) (by omega), e]
theorem maskS_take (Q : List Int) {i : Nat} (h : i ≤ Q.length) : maskS (Q.take i) = maskTo Q i := by
  unfold maskS
  rw [List.length_take, Nat.min_eq_left h]
  exact maskTo_take Q i i (Nat.le_refl _) h

/-- the least entry at a set with one of its positions below i removed -/
def leastTo (N : Nat) (T : List Int) (s : Nat) : Nat → Int
  | 0 => N
  | i + 1 => if s.testBit i = true then min (leastTo N T s i) (nth T (s - 2 ^ i)) else leastTo N T s i
def entT (f : Nat → Int) (N : Nat) (T : List Int) (s : Nat) : Int := if s = 0 then 0 else max (f s) (leastTo N T s N)
/-- the table's first k entries -/
def tabL (f : Nat → Int) (N : Nat) : Nat → List Int
  | 0 => []
  | k + 1 => tabL f N k ++ [entT f N (tabL f N k) k]
theorem tabL_len (f : Nat → Int) (N : Nat) : ∀ k, (tabL f N k).length = k
  | 0 => rfl
  | k + 1 => by rw [tabL, List.length_append, tabL_len f N k]; rfl
theorem nth_tabL (f : Nat → Int) (N : Nat) {s : Nat} : ∀ {k}, s < k → nth (tabL f N k) s = entT f N (tabL f N s) s
  | 0, h => by omega
  | k + 1, h => by
    rw [tabL, nth_push, tabL_len]
    by_cases e : s < k
    · rw [if_pos e]; exact nth_tabL f N e
    · obtain rfl : s = k := by omega
      rw [if_neg e, if_pos rfl]
theorem pow_le_test {s i : Nat} (h : s.testBit i = true) : 2 ^ i ≤ s := Nat.ge_two_pow_of_testBit h
theorem leastTo_congr {N : Nat} {T T' : List Int} {s : Nat} (h : ∀ j, j < s → nth T j = nth T' j) : ∀ i, leastTo N T s i = leastTo N T' s i
  | 0 => rfl
  | i + 1 => by
    rw [leastTo, leastTo, leastTo_congr h i]
    split
    · rename_i ht
      have := pow_le_test ht
      have := Nat.two_pow_pos i
      rw [h _ (by omega)]
    · rfl
theorem leastTo_bd {N : Nat} {T : List Int} {s : Nat} (h : ∀ j, j < s → 0 ≤ nth T j ∧ nth T j ≤ N) : ∀ i, 0 ≤ leastTo N T s i ∧ leastTo N T s i ≤ N
  | 0 => ⟨Int.natCast_nonneg _, Int.le_refl _⟩
  | i + 1 => by
    have ih := leastTo_bd h i
    rw [leastTo]
    split
    · rename_i ht
      have := pow_le_test ht
      have := Nat.two_pow_pos i
      have := h (s - 2 ^ i) (by omega)
      omega
    · exact ih
theorem tabL_bd {f : Nat → Int} {N : Nat} (hf : ∀ y, f y ≤ N) (k : Nat) : ∀ s, s < k → 0 ≤ nth (tabL f N k) s ∧ nth (tabL f N k) s ≤ N := by
  induction k with
  | zero => intro s hs; omega
  | succ k ih =>
    intro s hs
    rw [tabL, nth_push, tabL_len]
    by_cases e : s < k
    · rw [if_pos e]; exact ih s e
    · rw [if_neg e, if_pos (by omega)]
      unfold entT
      split
      · omega
      · have h1 := leastTo_bd (N := N) (T := tabL f N k) (s := k) ih N
        have h2 := hf k
        omega
/-- the reference's choice: -1 where none has been met -/
def refB (T : List Int) (s : Nat) : Nat → Int
  | 0 => -1
  | i + 1 => if s.testBit i = true then (if refB T s i < 0 ∨ nth T (s - 2 ^ i) < refB T s i then nth T (s - 2 ^ i) else refB T s i) else refB T s i
theorem refB_eq {N : Nat} {T : List Int} {s : Nat} (h : ∀ j, j < s → 0 ≤ nth T j ∧ nth T j ≤ N) : ∀ i, (refB T s i = -1 ∧ leastTo N T s i = N ∧ ∀ j, j < i → s.testBit j = false) ∨ (0 ≤ refB T s i ∧ refB T s i = leastTo N T s i)
  | 0 => .inl ⟨rfl, rfl, fun j hj => by omega⟩
  | i + 1 => by
    have ih := refB_eq h i
    rw [refB, leastTo]
    split
    · rename_i ht
      have := pow_le_test ht
      have := Nat.two_pow_pos i
      have hb := h (s - 2 ^ i) (by omega)
      refine .inr ?_
      rcases ih with ⟨h1, h2, _⟩ | ⟨h1, h2⟩
      · rw [h1, h2, if_pos (.inl (by omega))]
        omega
      · rw [← h2]
        split <;> omega
    · rename_i ht
      rcases ih with ⟨h1, h2, h3⟩ | h1
      · exact .inl ⟨h1, h2, fun j hj => by
          by_cases e : j = i
          · subst e; simpa using ht
          · exact h3 j (by omega)⟩
      · exact .inr h1
theorem test_lt {s N : Nat} (h : s < 2 ^ N) (h0 : ∀ j, j < N → s.testBit j = false) : s = 0 := by
  apply Nat.eq_of_testBit_eq
  intro j
  rw [Nat.zero_testBit]
  by_cases hj : j < N
  · exact h0 j hj
  · exact Nat.testBit_lt_two_pow (Nat.lt_of_lt_of_le h (Nat.pow_le_pow_right (by omega) (by omega)))
theorem refB_all {f : Nat → Int} {N : Nat} (hf : ∀ y, f y ≤ N) {s : Nat} (h0 : s ≠ 0) (hs : s < 2 ^ N) : refB (tabL f N s) s N = leastTo N (tabL f N s) s N := by
  rcases refB_eq (tabL_bd hf s) N with ⟨_, _, h⟩ | ⟨_, h⟩
  · exact absurd (test_lt hs h) h0
  · exact h

/-- the table is below the width of each order -/
theorem leastTo_le {N : Nat} {T : List Int} {s b : Nat} (hb : s.testBit b = true) : ∀ i, b < i → leastTo N T s i ≤ nth T (s - 2 ^ b)
  | 0, h => by omega
  | i + 1, h => by
    rw [leastTo]
    by_cases e : b = i
    · subst e
      rw [if_pos hb]; exact Int.min_le_right _ _
    · have ih := leastTo_le (N := N) (T := T) hb i (by omega)
      split
      · exact Int.le_trans (Int.min_le_left _ _) ih
      · exact ih
theorem or_add : ∀ (b x : Nat), x.testBit b = false → x ||| 2 ^ b = x + 2 ^ b
  | 0, x, h => by
    rw [Nat.testBit_zero, decide_eq_false_iff_not] at h
    have h1 : (x ||| 1) / 2 = x / 2 := by rw [Nat.or_div_two]; simp
    have h2 : (x ||| 1) % 2 = 1 := Nat.or_mod_two_eq_one.2 (.inr rfl)
    show x ||| 1 = x + 1
    omega
  | b + 1, x, h => by
    rw [Nat.testBit_succ] at h
    have ih := or_add b (x / 2) h
    have e : 2 ^ (b + 1) / 2 = 2 ^ b := by rw [Nat.pow_succ]; omega
    have h1 : (x ||| 2 ^ (b + 1)) / 2 = x / 2 + 2 ^ b := by rw [Nat.or_div_two, e, ih]
    have h2 : (x ||| 2 ^ (b + 1)) % 2 = 1 ↔ x % 2 = 1 := by
      rw [Nat.or_mod_two_eq_one]
      have : 2 ^ (b + 1) % 2 = 0 := by rw [Nat.pow_succ]; omega
      omega
    have h3 : 2 ^ (b + 1) = 2 * 2 ^ b := by rw [Nat.pow_succ]; omega
    omega
theorem or_sub {x b : Nat} (h : x.testBit b = false) : (x ||| 2 ^ b) - 2 ^ b = x ∧ (x ||| 2 ^ b).testBit b = true ∧ x < x ||| 2 ^ b := by
  have e := or_add b x h
  have := Nat.two_pow_pos b
  exact ⟨by omega, by rw [Nat.testBit_or, Nat.testBit_two_pow]; simp, by omega⟩

theorem maskTo_ltp {n : Nat} {Q : List Int} : ∀ k, (∀ j, j < k → 0 ≤ nth Q j ∧ nth Q j < n) → maskTo Q k < 2 ^ n
  | 0, _ => Nat.two_pow_pos n
  | k + 1, h => by
    have ih := maskTo_ltp k fun j hj => h j (by omega)
    have hk := h k (by omega)
    exact Nat.or_lt_two_pow ih (Nat.pow_lt_pow_right (by omega) (by omega))
/-- the table's entry at the first k positions is at most their width -/
theorem tab_le {f : Nat → Int} {N : Nat} {Q : List Int} (h : ordTo N Q Q.length = true) : ∀ k, k ≤ Q.length → nth (tabL f N (maskTo Q k + 1)) (maskTo Q k) ≤ wdTo f Q k
  | 0, _ => by
    show nth (tabL f N 1) 0 ≤ 0
    rw [nth_tabL f N (by omega)]
    exact Int.le_refl _
  | k + 1, hk => by
    have ih := tab_le (f := f) h k (by omega)
    obtain ⟨h1, h2, h3⟩ := ordTo_at h k (by omega)
    obtain ⟨e1, e2, e3⟩ := or_sub h3
    rw [nth_tabL f N (Nat.lt_succ_self _)] at ih ⊢
    rw [wdTo, maskTo]
    unfold entT
    rw [if_neg (by omega)]
    have h4 := leastTo_le (N := N) (T := tabL f N (maskTo Q k ||| 2 ^ (nth Q k).toNat)) e2 N (by omega)
    rw [e1, nth_tabL f N e3] at h4
    have h5 : wdTo f Q k ≤ max (wdTo f Q k) (f (maskTo Q k ||| 2 ^ (nth Q k).toNat)) := Int.le_max_left _ _
    have h6 : f (maskTo Q k ||| 2 ^ (nth Q k).toNat) ≤ max (wdTo f Q k) (f (maskTo Q k ||| 2 ^ (nth Q k).toNat)) := Int.le_max_right _ _
    exact Int.max_le.2 ⟨h6, by omega⟩

/-- the bits of an order, all of them -/
theorem bits_ord {N : Int} {Q : List Int} (hN : N ≤ 64) : ∀ {k}, ordTo N Q k = true → ∀ n : Nat, N = n → (bitsTo (maskTo Q k) n).length = k
  | 0, _, n, _ => by
    have : ∀ j, bitsTo 0 j = [] := fun j => by
      induction j with
      | zero => rfl
      | succ j ih => rw [bitsTo, if_neg (by simp), ih]
    show (bitsTo 0 n).length = 0
    rw [this]; rfl
  | k + 1, h, n, e => by
    obtain ⟨h1, h2, h3⟩ := ordTo_at h k (by omega)
    have ih := bits_ord hN (ordTo_le h k (by omega)) n e
    rw [maskTo, bits_more h3, ih, if_pos (by omega)]
theorem bits_all {x N : Nat} (hx : x < 2 ^ N) (h : (bitsTo x N).length = N) : x = 2 ^ N - 1 := by
  have hb : ∀ k, k ≤ N → (bitsTo x k).length = k → ∀ j, j < k → x.testBit j = true := by
    intro k
    induction k with
    | zero => intro _ _ j hj; omega
    | succ k ih =>
      intro hk hl j hj
      have h1 := bitsTo_len x k
      rw [bitsTo] at hl
      split at hl
      · rename_i ht
        rw [List.length_append, List.length_singleton] at hl
        by_cases e : j = k
        · subst e; exact ht
        · exact ih (by omega) (by omega) j (by omega)
      · omega
  apply Nat.eq_of_testBit_eq
  intro j
  rw [Nat.testBit_two_pow_sub_one]
  by_cases hj : j < N
  · rw [hb N (Nat.le_refl _) h j hj]; simp [hj]
  · rw [Nat.testBit_lt_two_pow (Nat.lt_of_lt_of_le hx (Nat.pow_le_pow_right (by omega) (by omega)))]; simp [hj]
/-- no order is below the table's last entry -/
theorem tab_sound {f : Nat → Int} {n : Nat} {Q : List Int} (hn : n ≤ 64) (h : ordB n Q = true) : nth (tabL f n (2 ^ n)) (2 ^ n - 1) ≤ wdTo f Q n := by
  have hl := (ordB_in h).2
  unfold ordB at h
  simp only [Bool.and_eq_true] at h
  have h1 := tab_le (f := f) h.2 Q.length (Nat.le_refl _)
  have h2 := bits_ord (by omega) h.2 n rfl
  rw [hl] at h1 h2
  have h3 := maskTo_ltp (n := n) (Q := Q) n fun j hj => ⟨(ordTo_at h.2 j (by omega)).1, (ordTo_at h.2 j (by omega)).2.1⟩
  have h4 := bits_all h3 h2
  rw [h4] at h1
  have := Nat.two_pow_pos n
  rwa [show 2 ^ n - 1 + 1 = 2 ^ n by omega] at h1
end

/- The walks of ordering.ordered, codewrightref48.IsOrder. -/
section
open Go.RowKit

def ordE (P M : Int) (mod : List Int) (N : Int) (L : List (List Int)) (Q : List Int) : Int :=
  if codeE P M mod N L = 0 then (if ordB N Q = true then 0 else 5) else codeE P M mod N L
theorem ordB_no {N : Int} {Q : List Int} {k : Nat} (hk : k < Q.length) (h : ¬ (0 ≤ nth Q k ∧ nth Q k < N ∧ (maskTo Q k).testBit (nth Q k).toNat = false)) : ordB N Q = false := by
  unfold ordB
  rw [ordTo_bad hk h, Bool.and_false]
end

/- Bounds (plain law). -/
section
theorem dim_le {P M : Int} {mod : List Int} {N : Nat} {L : List (List Int)} (hE : codeE P M mod N L = 0) (x : Nat) : dimS (tblOf P M.toNat mod).ops L N x ≤ N := by
  have h1 := (dim_law hE x).2.2
  omega
theorem or_lt {x i : Nat} (hx : x < 18446744073709551616) (hi : i < 64) : x ||| 2 ^ i < 18446744073709551616 := by
  have : 2 ^ i < 2 ^ 64 := Nat.pow_lt_pow_right (by omega) hi
  exact Nat.or_lt_two_pow (n := 64) hx this
end

/- The walks of ordering.width, ordering.Width, codewrightref48.Order, Width. -/
section
open Go.RowKit

theorem max_if (t d : Int) : (if t < d then d else t) = max t d := by split <;> omega

def widV (P M : Int) (mod : List Int) (N : Int) (L : List (List Int)) (Q : List Int) : Int × Int :=
  if ordE P M mod N L Q = 0 then (wdTo (dimS (tblOf P M.toNat mod).ops L N.toNat) Q N.toNat, 0) else (0, ordE P M mod N L Q)
theorem ordE_zero {P M : Int} {mod : List Int} {N : Int} {L : List (List Int)} {Q : List Int} (h : ordE P M mod N L Q = 0) : codeE P M mod N L = 0 ∧ ordB N Q = true := by
  unfold ordE at h
  split at h
  · rename_i h1
    split at h
    · rename_i h2; exact ⟨h1, h2⟩
    · exact absurd h (by omega)
  · rename_i h1; exact absurd h h1

theorem InN.take {n : Nat} {Q : List Int} (h : InN n Q) {i : Nat} (hi : i ≤ Q.length) : InN n (Q.take i) := fun j hj => by
  rw [List.length_take] at hj
  have e : nth (Q.take i) j = nth Q j := by unfold nth; simp only [List.getD_eq_getElem?_getD, List.getElem?_take]; rw [if_pos (by omega)]
  rw [e]; exact h j (by omega)
end

/- The walk of infoset.Floor. -/
section
open Go.RowKit

/-- whether the numbers are in their ranges -/
def flB (K : Int) (Q : List Int) (W : Int) : Bool := decide (0 ≤ K) && decide (K ≤ 64) && decide (0 ≤ W) && decide (W ≤ K) && decide (Q.length ≤ 64)
/-- the sum of the first k of them -/
def flTo (K W : Int) (Q : List Int) : Nat → Int
  | 0 => 0
  | k + 1 => flTo K W Q k + max 0 (W + 1 - (K - nth Q k))
def flQ (K : Int) (x : Int) : Bool := decide (0 ≤ x) && decide (x ≤ K)
def flV (K : Int) (Q : List Int) (W : Int) : Int × Int := if flB K Q W = true ∧ Q.all (flQ K) = true then (flTo K W Q Q.length, 0) else (0, 6)
theorem flTo_bd {K W : Int} {Q : List Int} (hK : 0 ≤ K ∧ K ≤ 64) (hW : 0 ≤ W ∧ W ≤ K) (hQ : Q.all (flQ K) = true) : ∀ k, k ≤ Q.length → 0 ≤ flTo K W Q k ∧ flTo K W Q k ≤ 200 * k
  | 0, _ => by simp [flTo]
  | k + 1, h => by
    have ih := flTo_bd hK hW hQ k (by omega)
    have hq := List.all_eq_true.1 hQ _ (nth_mem (i := k) (by omega))
    unfold flQ at hq
    simp only [Bool.and_eq_true, decide_eq_true_eq] at hq
    rw [flTo]
    omega

set_option maxRecDepth 100000 in
set_option maxHeartbeats 4000000 in
theorem floor_any (K : Int) (a : Option Addr) (n c : Nat) (Q : List Int) (X : Int) (w : World) (hi : Ints w a n Q) :
    Calls Try.prog 5 #[.int .i64 K, .slice a n c, .int .i64 X] w fun e w' => e = .returned (.tuple #[.int .i64 (flV K Q X).1, .int .i64 (flV K Q X).2]) ∧ w' = w := by
  have Hl := Lib.hid hi.len
  have hpl := hi.pl
  have hmax := hi.max
  unfold maxLen at hmax
  go_enter Try.func5, Try.ntmps5
  go_upto_region 1 with fail
  have bad : flB K Q X = false → flV K Q X = (0, 6) := fun h => by rw [flV, if_neg (by rw [h]; simp)]
  have Hbad := Lib.hid bad
  clear bad
  have hfl : flB K Q X = (decide (0 ≤ K) && decide (K ≤ 64) && decide (0 ≤ X) && decide (X ≤ K) && decide (n ≤ 64)) := by rw [flB, Hl.out]
  by_cases h1 : K < 0
  · have d1 : decide (K < 0) = true := by simpa using h1
    have HV := Lib.hid (Hbad.out (by rw [hfl]; simp; omega))
    clear h1 hfl
    go_wp2_with fail
    go_ret2
    exact ⟨by rw [HV.out]; rfl, rfl⟩
  have d1 : decide (K < 0) = false := by simpa using h1
  by_cases h2 : 64 < K
  · have d2 : decide (64 < K) = true := by simpa using h2
    have HV := Lib.hid (Hbad.out (by rw [hfl]; simp; omega))
    clear h1 h2 hfl
    go_wp2_with fail
    go_ret2
    exact ⟨by rw [HV.out]; rfl, rfl⟩
  have d2 : decide (64 < K) = false := by simpa using h2
  by_cases h3 : X < 0
  · have d3 : decide (X < 0) = true := by simpa using h3
    have HV := Lib.hid (Hbad.out (by rw [hfl]; simp; omega))
    clear h1 h2 h3 hfl
    go_wp2_with fail
    go_ret2
    exact ⟨by rw [HV.out]; rfl, rfl⟩
  have d3 : decide (X < 0) = false := by simpa using h3
  by_cases h4 : K < X
  · have d4 : decide (K < X) = true := by simpa using h4
    have HV := Lib.hid (Hbad.out (by rw [hfl]; simp; omega))
    clear h1 h2 h3 h4 hfl
    go_wp2_with fail
    go_ret2
    exact ⟨by rw [HV.out]; rfl, rfl⟩
  have d4 : decide (K < X) = false := by simpa using h4
  by_cases h5 : 64 < n
  · have d5 : decide ((64 : Int) < n) = true := by simp; omega
    have HV := Lib.hid (Hbad.out (by rw [hfl]; simp; omega))
    clear h1 h2 h3 h4 h5 hfl
    go_wp2_with fail
    go_ret2
    exact ⟨by rw [HV.out]; rfl, rfl⟩
  have d5 : decide ((64 : Int) < n) = false := by simp; omega
  have HB : Hid (flB K Q X = true) := by show _ = _; rw [hfl]; simp; omega
  have HV2 : Hid (flV K Q X = if Q.all (flQ K) = true then (flTo K X Q n, 0) else (0, 6)) := by
    show _ = _
    rw [flV, HB.out, Hl.out]
    simp
  clear hfl
  go_wp2_with fail
  go_loop [8, 33] (fun sv iv => ∃ k : Nat, k ≤ n ∧ iv = .int .i64 k ∧ sv = .int .i64 (flTo K X Q k) ∧ Hid (∀ j, j < k → flQ K (nth Q j) = true)) (fun _ iv => n - (intOf iv).toNat)
  case atStart => exact ⟨0, Nat.zero_le _, rfl, rfl, fun j hj => by omega⟩
  case round =>
    obtain ⟨k, hk, rfl, rfl, hall⟩ := hrel
    have hbd : 0 ≤ flTo K X Q k ∧ flTo K X Q k ≤ 200 * k := by
      have h := flTo_bd (K := K) (W := X) (Q := Q.take k) (by omega) (by omega) (by
        rw [List.all_eq_true]
        intro x hx
        obtain ⟨j, hj, rfl⟩ := List.mem_iff_getElem.1 hx
        rw [List.length_take] at hj
        have := hall.out j (by omega)
        rwa [List.getElem_take, ← nth_getElem (by omega)]) k (by rw [List.length_take]; have := Hl.out; omega)
      have he : ∀ j, j ≤ k → flTo K X (Q.take k) j = flTo K X Q j := fun j => by
        induction j with
        | zero => intro _; rfl
        | succ j ih =>
          intro hj
          have e : nth (Q.take k) j = nth Q j := by unfold nth; simp only [List.getD_eq_getElem?_getD, List.getElem?_take]; rw [if_pos (by omega)]
          rw [flTo, flTo, ih (by omega), e]
      rwa [he k (Nat.le_refl _)] at h
    by_cases hlt : k < n
    · have ck := hi.cell k hlt
      have Hst : Hid (flTo K X Q (k + 1) = flTo K X Q k + max 0 (X + 1 - (K - nth Q k))) := rfl
      have Hx : Hid (∀ y, nth Q k = y → flQ K y = true → ∀ j, j < k + 1 → flQ K (nth Q j) = true) := fun y hy h j hj => by
        by_cases e : j = k
        · subst e; rw [hy]; exact h
        · exact hall.out j (by omega)
      have Hno : Hid (flQ K (nth Q k) = false → flV K Q X = (0, 6)) := fun h => by
        rw [HV2.out, if_neg]
        intro h2
        have := List.all_eq_true.1 h2 _ (nth_mem (i := k) (by rw [Hl.out]; exact hlt))
        rw [h] at this
        exact absurd this (by decide)
      obtain ⟨y, hy⟩ : ∃ y, nth Q k = y := ⟨_, rfl⟩
      have Hx2 := fun h => Hx.out y hy h
      rw [hy] at ck Hno Hst
      clear hy Hx
      by_cases q1 : y < 0
      · have e1 : decide (y < 0) = true := by simpa using q1
        have HV := Lib.hid (Hno.out (by unfold flQ; simp; omega))
        clear q1 Hx2 hbd
        go_wp2_with fail
        go_ret2
        exact ⟨by rw [HV.out]; rfl, rfl⟩
      have e1 : decide (y < 0) = false := by simpa using q1
      by_cases q2 : K < y
      · have e2 : decide (K < y) = true := by simpa using q2
        have HV := Lib.hid (Hno.out (by unfold flQ; simp; omega))
        clear q1 q2 Hx2 hbd
        go_wp2_with fail
        go_ret2
        exact ⟨by rw [HV.out]; rfl, rfl⟩
      have e2 : decide (K < y) = false := by simpa using q2
      have Hx3 := Lib.hid (Hx2 (by unfold flQ; simp; omega))
      clear Hx2
      have k1 : IntKind.i64.wrap (X + 1) = X + 1 := IntWalk.i64_in _ (by omega)
      have k2 : IntKind.i64.wrap (K - y) = K - y := IntWalk.i64_in _ (by omega)
      have k3 : IntKind.i64.wrap (X + 1 - (K - y)) = X + 1 - (K - y) := IntWalk.i64_in _ (by omega)
      have k4 : IntKind.i64.wrap (flTo K X Q k + max 0 (X + 1 - (K - y))) = flTo K X Q k + max 0 (X + 1 - (K - y)) := IntWalk.i64_in _ (by omega)
      rw [← max_if] at k4
      rw [← max_if] at Hst
      clear hbd
      generalize flTo K X Q k = t at *
      go_wp2_with fail
      go_round
      case rel => exact ⟨k + 1, by omega, by go_num, by rw [Hst.out, show (if K - y < X + 1 then X + 1 - (K - y) else 0) = (if 0 < X + 1 - (K - y) then X + 1 - (K - y) else 0) from by split <;> split <;> omega]; exact congrArg (Value.int .i64) ((IntWalk.i64_left _).symm.trans k4), Hx3.out⟩
      case measure => simp [intOf] <;> omega
    · obtain rfl : k = n := by omega
      have HV : Hid (flV K Q X = (flTo K X Q k, 0)) := by
        show _ = _
        rw [HV2.out, if_pos]
        rw [List.all_eq_true]
        intro x hx
        obtain ⟨j, hj, rfl⟩ := List.mem_iff_getElem.1 hx
        have := hall.out j (by have := Hl.out; omega)
        rwa [nth_getElem hj] at this
      clear hbd
      go_wp2_with fail
      go_ret2
      exact ⟨by rw [HV.out]; rfl, rfl⟩
end

/- Two matrices whose rows go together: 'each' of matrix.eliminate at both. -/
section
open Go.RowKit

theorem nthR_mapf (f : List Int → List Int) (L : List (List Int)) {i : Nat} (h : i < L.length) : nthR (L.map f) i = f (nthR L i) := by
  rw [nthR_getElem (by simpa using h), nthR_getElem h, List.getElem_map]
theorem swapRow_map (f : List Int → List Int) (J : List (List Int)) {t k : Nat} (ht : t < J.length) (hk : k < J.length) : swapRow (J.map f) t k = (swapRow J t k).map f := by
  unfold swapRow
  rw [nthR_mapf f J ht, nthR_mapf f J hk, List.map_set, List.map_set]
theorem nth_takeL (l : List Int) {len k : Nat} (h : k < len) : nth (l.take len) k = nth l k := by
  unfold nth; simp only [List.getD_eq_getElem?_getD, List.getElem?_take]; rw [if_pos h]
theorem addRow_take (O : FOps) (v u : List Int) (s : Int) (len : Nat) : (addRow O v s u).take len = addRow O (v.take len) s (u.take len) := by
  unfold addRow; rw [List.take_zipWith]
theorem addRow_drop (O : FOps) (v u : List Int) (s : Int) (len : Nat) : (addRow O v s u).drop len = addRow O (v.drop len) s (u.drop len) := by
  unfold addRow; rw [List.drop_zipWith]

/-- the blocks of two matrices -/
def I2 (a : Option Addr) (R : List (Option Addr × Nat)) (a2 : Option Addr) (S : List (Option Addr × Nat)) (b : Nat) : Prop := OIn a R b ∨ OIn a2 S b
/-- two own matrices in blocks apart: the beginnings and the ends of the rows J -/
structure OMat2 (w : World) (B : Nat) (a : Option Addr) (n c : Nat) (R : List (Option Addr × Nat)) (a2 : Option Addr) (c2 : Nat) (S : List (Option Addr × Nat)) (len : Nat) (J : List (List Int)) : Prop where
  om1 : OMat w B a n c R (J.map (List.take len))
  om2 : OMat w B a2 n c2 S (J.map (List.drop len))
  dis : ∀ b, OIn a R b → ¬ OIn a2 S b
namespace OMat2
variable {w w' w1 : World} {B : Nat} {a : Option Addr} {n c : Nat} {R R' : List (Option Addr × Nat)} {a2 : Option Addr} {c2 : Nat} {S S' : List (Option Addr × Nat)} {len : Nat} {J J' : List (List Int)}
theorem lt (h : OMat2 w B a n c R a2 c2 S len J) (b : Nat) (hb : I2 a R a2 S b) : B ≤ b ∧ b < w.heap.size := by
  rcases hb with hb | hb
  · exact h.om1.lt b hb
  · exact h.om2.lt b hb
theorem new (h : OMat2 w B a n c R a2 c2 S len J) {b : Nat} (hb : w.heap.size ≤ b) : ¬ I2 a R a2 S b := fun h' => by have := h.lt b h'; omega
theorem keep (h : OMat2 w B a n c R a2 c2 S len J) (hb : Below w.heap.size w w') : OMat2 w' B a n c R a2 c2 S len J := ⟨h.om1.keep hb, h.om2.keep hb, h.dis⟩
theorem ll (h : OMat2 w B a n c R a2 c2 S len J) : J.length = n := by have := h.om1.ll; simpa using this
theorem cell (h : OMat2 w B a n c R a2 c2 S len J) {i : Nat} (hi : i < n) (hl : len ≤ (nthR J i).length) : w.cell? ⟨ablk a, aoff a + i, none⟩ = some (.slice (nthA R i).1 len (nthA R i).2) := by
  have h1 := h.om1.cell hi
  rw [nthR_mapf _ J (by rw [h.ll]; exact hi), List.length_take, Nat.min_eq_left hl] at h1
  exact h1
theorem ints (h : OMat2 w B a n c R a2 c2 S len J) {i : Nat} (hi : i < n) (hl : len ≤ (nthR J i).length) : Ints w (nthA R i).1 len ((nthR J i).take len) := by
  have h1 := h.om1.ints hi
  rw [nthR_mapf _ J (by rw [h.ll]; exact hi), List.length_take, Nat.min_eq_left hl] at h1
  exact h1
theorem step1 (h : OMat2 w B a n c R a2 c2 S len J) (m1 : Moves w w1 (OIn a R) (OIn a R')) : OMat w1 B a2 n c2 S (J.map (List.drop len)) :=
  h.om2.of_blocks fun b hb => m1.block b (h.om2.lt b hb).2 fun hI => h.dis b hI hb
theorem step2 {L' A' : List (List Int)} (h : OMat2 w B a n c R a2 c2 S len J) (m1 : Moves w w1 (OIn a R) (OIn a R')) (o1 : OMat w1 B a n c R' L') (m2 : Moves w1 w' (OIn a2 S) (OIn a2 S')) (o2 : OMat w' B a2 n c2 S' A')
    (e1 : L' = J'.map (List.take len)) (e2 : A' = J'.map (List.drop len)) : OMat2 w' B a n c R' a2 c2 S' len J' ∧ Moves w w' (I2 a R a2 S) (I2 a R' a2 S') := by
  subst e1 e2
  have hs := m1.size
  have hnS : ∀ b, OIn a R' b → ¬ OIn a2 S b := fun b hb hS => by
    rcases m1.grow b hb with h1 | h1
    · exact h.dis b h1 hS
    · have := (h.om2.lt b hS).2; omega
  refine ⟨⟨o1.of_blocks fun b hb => m2.block b (o1.lt b hb).2 (hnS b hb), o2, fun b hb hb2 => ?_⟩, ⟨m2.os.trans m1.os, m2.tape.trans m1.tape, m2.output.trans m1.output, Nat.le_trans m1.size m2.size, fun b hb hI => ?_, fun b hb => ?_⟩⟩
  · rcases m2.grow b hb2 with h1 | h1
    · exact hnS b hb h1
    · have := (o1.lt b hb).2; omega
  · rw [m2.block b (by omega) fun h1 => hI (.inr h1)]
    exact m1.block b hb fun h1 => hI (.inl h1)
  · rcases hb with hb | hb
    · rcases m1.grow b hb with h1 | h1
      · exact .inl (.inl h1)
      · exact .inr h1
    · rcases m2.grow b hb with h1 | h1
      · exact .inl (.inr h1)
      · exact .inr (by omega)
end OMat2

set_option maxRecDepth 100000 in
/-- 'each' calls the step at the rows and at the others -/
theorem each2b_any {w : World} (c0' c1' : Value) (p q : Nat) (a : Option Addr) (n c : Nat) (a2 : Option Addr) (n2 c2 : Nat) (X : World → Prop) (h1 : w.cell? ⟨p, 0, none⟩ = some (.slice a n c)) (hn2 : 0 < n2) (hn3 : n2 ≤ 1000000)
    (hf : Calls Try.prog 69 #[.slice a n c, c0', c1'] w fun e w1 => e = .returned (.tuple #[]) ∧ w1.cell? ⟨q, 0, none⟩ = some (.slice a2 n2 c2) ∧
      Calls Try.prog 69 #[.slice a2 n2 c2, c0', c1'] w1 fun e w' => e = .returned (.tuple #[]) ∧ X w') :
    Calls Try.prog 68 #[.func (.func 69) #[] #[c0', c1'], .pointer (some ⟨p, 0, none⟩), .pointer (some ⟨q, 0, none⟩)] w
      fun e w' => e = .returned (.tuple #[]) ∧ X w' := by
  have Hf := Lib.hid hf
  have hn0 : decide ((0 : Int) < n2) = true := by simp; omega
  clear hf
  go_enter Try.func68, Try.ntmps68
  go_wp2_with fail
  refine Hf.out.mono ?_
  rintro e w1 ⟨rfl, hq, hc⟩
  have Hc := Lib.hid hc
  clear hc
  go_wp2_with fail
  refine Hc.out.mono ?_
  rintro e w2 ⟨rfl, hX⟩
  go_wp2_with fail
  go_end0
  exact ⟨rfl, hX⟩

set_option maxRecDepth 100000 in
/-- 'each' calls the step at the rows and at the others -/
theorem each3b_any {w : World} (c0' c1' c2' : Value) (p q : Nat) (a : Option Addr) (n c : Nat) (a2 : Option Addr) (n2 c2 : Nat) (X : World → Prop) (h1 : w.cell? ⟨p, 0, none⟩ = some (.slice a n c)) (hn2 : 0 < n2) (hn3 : n2 ≤ 1000000)
    (hf : Calls Try.prog 71 #[.slice a n c, c0', c1', c2'] w fun e w1 => e = .returned (.tuple #[]) ∧ w1.cell? ⟨q, 0, none⟩ = some (.slice a2 n2 c2) ∧
      Calls Try.prog 71 #[.slice a2 n2 c2, c0', c1', c2'] w1 fun e w' => e = .returned (.tuple #[]) ∧ X w') :
    Calls Try.prog 68 #[.func (.func 71) #[] #[c0', c1', c2'], .pointer (some ⟨p, 0, none⟩), .pointer (some ⟨q, 0, none⟩)] w
      fun e w' => e = .returned (.tuple #[]) ∧ X w' := by
  have Hf := Lib.hid hf
  have hn0 : decide ((0 : Int) < n2) = true := by simp; omega
  clear hf
  go_enter Try.func68, Try.ntmps68
  go_wp2_with fail
  refine Hf.out.mono ?_
  rintro e w1 ⟨rfl, hq, hc⟩
  have Hc := Lib.hid hc
  clear hc
  go_wp2_with fail
  refine Hc.out.mono ?_
  rintro e w2 ⟨rfl, hX⟩
  go_wp2_with fail
  go_end0
  exact ⟨rfl, hX⟩

set_option maxRecDepth 100000 in
/-- 'each' calls the step at the rows and at the others -/
theorem each4b_any {w : World} (c0' c1' c2' c3' : Value) (p q : Nat) (a : Option Addr) (n c : Nat) (a2 : Option Addr) (n2 c2 : Nat) (X : World → Prop) (h1 : w.cell? ⟨p, 0, none⟩ = some (.slice a n c)) (hn2 : 0 < n2) (hn3 : n2 ≤ 1000000)
    (hf : Calls Try.prog 72 #[.slice a n c, c0', c1', c2', c3'] w fun e w1 => e = .returned (.tuple #[]) ∧ w1.cell? ⟨q, 0, none⟩ = some (.slice a2 n2 c2) ∧
      Calls Try.prog 72 #[.slice a2 n2 c2, c0', c1', c2', c3'] w1 fun e w' => e = .returned (.tuple #[]) ∧ X w') :
    Calls Try.prog 68 #[.func (.func 72) #[] #[c0', c1', c2', c3'], .pointer (some ⟨p, 0, none⟩), .pointer (some ⟨q, 0, none⟩)] w
      fun e w' => e = .returned (.tuple #[]) ∧ X w' := by
  have Hf := Lib.hid hf
  have hn0 : decide ((0 : Int) < n2) = true := by simp; omega
  clear hf
  go_enter Try.func68, Try.ntmps68
  go_wp2_with fail
  refine Hf.out.mono ?_
  rintro e w1 ⟨rfl, hq, hc⟩
  have Hc := Lib.hid hc
  clear hc
  go_wp2_with fail
  refine Hc.out.mono ?_
  rintro e w2 ⟨rfl, hX⟩
  go_wp2_with fail
  go_end0
  exact ⟨rfl, hX⟩

variable {w : World} {b : Nat} {G : Tbl}

/-- 'each' with the swap -/
theorem swap2_any (B : Nat) (a : Option Addr) (n c : Nat) (R : List (Option Addr × Nat)) (a2 : Option Addr) (c2 : Nat) (S : List (Option Addr × Nat)) (len : Nat) (J : List (List Int)) (p q pk pt k t : Nat) (hO : OMat2 w B a n c R a2 c2 S len J)
    (hp : w.cell? ⟨p, 0, none⟩ = some (.slice a n c)) (hq : w.cell? ⟨q, 0, none⟩ = some (.slice a2 n c2)) (nq : ¬ I2 a R a2 S q)
    (hk : w.cell? ⟨pk, 0, none⟩ = some (.int .i64 k)) (ht : w.cell? ⟨pt, 0, none⟩ = some (.int .i64 t)) (hkn : k < n) (htn : t < n) (hkt : k ≠ t) (nk : ¬ I2 a R a2 S pk) (nt : ¬ I2 a R a2 S pt) (hn : n ≤ 1000000) :
    Calls Try.prog 68 #[.func (.func 69) #[] #[.pointer (some ⟨pk, 0, none⟩), .pointer (some ⟨pt, 0, none⟩)], .pointer (some ⟨p, 0, none⟩), .pointer (some ⟨q, 0, none⟩)] w
      fun e w' => e = .returned (.tuple #[]) ∧ ∃ R' S', OMat2 w' B a n c R' a2 c2 S' len (swapRow J t k) ∧ Moves w w' (I2 a R a2 S) (I2 a R' a2 S') := by
  have hJ := hO.ll
  refine each2b_any _ _ p q a n c a2 n c2 _ hp (by omega) (by omega) ((swap_any B a n c R _ pk pt k t hO.om1 hk ht hkn htn hkt (fun h => nk (.inl h)) (fun h => nt (.inl h))).mono ?_)
  rintro e w1 ⟨rfl, R', o1, m1⟩
  refine ⟨rfl, m1.cell hq (fun h => nq (.inl h)), (swap_any B a2 n c2 S _ pk pt k t (hO.step1 m1) (m1.cell hk (fun h => nk (.inl h))) (m1.cell ht (fun h => nt (.inl h))) hkn htn hkt (fun h => nk (.inr h)) (fun h => nt (.inr h))).mono ?_⟩
  rintro e w2 ⟨rfl, S', o2, m2⟩
  exact ⟨rfl, R', S', hO.step2 m1 o1 m2 o2 (swapRow_map _ J (by omega) (by omega)) (swapRow_map _ J (by omega) (by omega))⟩

/-- 'each' with the scaling -/
theorem scale2_any (w0 : World) (a : Option Addr) (n c : Nat) (R : List (Option Addr × Nat)) (a2 : Option Addr) (c2 : Nat) (S : List (Option Addr × Nat)) (len m : Nat) (J : List (List Int)) (p q pg ps pt : Nat) (s : Int) (t : Nat) (hO : OMat2 w w0.heap.size a n c R a2 c2 S len J)
    (hp : w.cell? ⟨p, 0, none⟩ = some (.slice a n c)) (hq : w.cell? ⟨q, 0, none⟩ = some (.slice a2 n c2)) (nq : ¬ I2 a R a2 S q)
    (h : GFw w0 b G) (hb : Below w0.heap.size w0 w)
    (hg : w.cell? ⟨pg, 0, none⟩ = some (.pointer (some ⟨b, 0, none⟩))) (hs : w.cell? ⟨ps, 0, none⟩ = some (.int .i64 s)) (ht : w.cell? ⟨pt, 0, none⟩ = some (.int .i64 t)) (htn : t < n) (hse : G.El s)
    (ng : ¬ I2 a R a2 S pg) (ns : ¬ I2 a R a2 S ps) (nt : ¬ I2 a R a2 S pt) (hel : G.Els (nthR J t)) (hln : (nthR J t).length ≤ 1000000) (hn : n ≤ 1000000) :
    Calls Try.prog 68 #[.func (.func 71) #[] #[.pointer (some ⟨pg, 0, none⟩), .pointer (some ⟨ps, 0, none⟩), .pointer (some ⟨pt, 0, none⟩)], .pointer (some ⟨p, 0, none⟩), .pointer (some ⟨q, 0, none⟩)] w
      fun e w' => e = .returned (.tuple #[]) ∧ ∃ R' S', OMat2 w' w0.heap.size a n c R' a2 c2 S' len (J.set t ((nthR J t).map (G.mul s))) ∧ Moves w w' (I2 a R a2 S) (I2 a R' a2 S') := by
  have hJ := hO.ll
  have htJ : t < J.length := by omega
  refine each3b_any _ _ _ p q a n c a2 n c2 _ hp (by omega) (by omega) ((scale_any w0 a n c R _ pg ps pt s t hO.om1 h hb hg hs ht htn hse (by rw [nthR_mapf _ J htJ]; exact fun x hx => hel x (List.mem_of_mem_take hx)) (by rw [nthR_mapf _ J htJ, List.length_take]; omega)).mono ?_)
  rintro e w1 ⟨rfl, R', o1, m1⟩
  have hb1 : Below w0.heap.size w0 w1 := hb.trans (m1.below (fun b' hb' => (hO.om1.lt b' hb').1) hb.size)
  refine ⟨rfl, m1.cell hq (fun h => nq (.inl h)), (scale_any w0 a2 n c2 S _ pg ps pt s t (hO.step1 m1) h hb1 (m1.cell hg (fun h => ng (.inl h))) (m1.cell hs (fun h => ns (.inl h))) (m1.cell ht (fun h => nt (.inl h))) htn hse (by rw [nthR_mapf _ J htJ]; exact fun x hx => hel x (List.mem_of_mem_drop hx)) (by rw [nthR_mapf _ J htJ, List.length_drop]; omega)).mono ?_⟩
  rintro e w2 ⟨rfl, S', o2, m2⟩
  exact ⟨rfl, R', S', hO.step2 m1 o1 m2 o2 (by rw [nthR_mapf _ J htJ, List.map_set, List.map_take]) (by rw [nthR_mapf _ J htJ, List.map_set, List.map_drop])⟩

/-- 'each' with the sweep -/
theorem sweep2_any (w0 : World) (a : Option Addr) (n c : Nat) (R : List (Option Addr × Nat)) (a2 : Option Addr) (c2 : Nat) (S : List (Option Addr × Nat)) (len m : Nat) (J : List (List Int)) (p q pg pi px pt : Nat) (i : Nat) (x : Int) (t : Nat) (hO : OMat2 w w0.heap.size a n c R a2 c2 S len J)
    (hp : w.cell? ⟨p, 0, none⟩ = some (.slice a n c)) (hq : w.cell? ⟨q, 0, none⟩ = some (.slice a2 n c2)) (nq : ¬ I2 a R a2 S q)
    (h : GFw w0 b G) (hb : Below w0.heap.size w0 w)
    (hg : w.cell? ⟨pg, 0, none⟩ = some (.pointer (some ⟨b, 0, none⟩))) (hi : w.cell? ⟨pi, 0, none⟩ = some (.int .i64 i)) (hx : w.cell? ⟨px, 0, none⟩ = some (.int .i64 x)) (ht : w.cell? ⟨pt, 0, none⟩ = some (.int .i64 t))
    (hin : i < n) (htn : t < n) (hit : i ≠ t) (hxe : G.El x) (ng : ¬ I2 a R a2 S pg) (ni : ¬ I2 a R a2 S pi) (nx : ¬ I2 a R a2 S px) (nt : ¬ I2 a R a2 S pt) (hei : G.Els (nthR J i)) (het : G.Els (nthR J t)) (hli : (nthR J i).length = m) (hlt : (nthR J t).length = m) (hlm : len ≤ m) (hn : n ≤ 1000000) :
    Calls Try.prog 68 #[.func (.func 72) #[] #[.pointer (some ⟨pg, 0, none⟩), .pointer (some ⟨pi, 0, none⟩), .pointer (some ⟨px, 0, none⟩), .pointer (some ⟨pt, 0, none⟩)], .pointer (some ⟨p, 0, none⟩), .pointer (some ⟨q, 0, none⟩)] w
      fun e w' => e = .returned (.tuple #[]) ∧ OMat2 w' w0.heap.size a n c R a2 c2 S len (J.set i (addRow G.ops (nthR J i) (G.neg x) (nthR J t))) ∧ Moves w w' (I2 a R a2 S) (I2 a R a2 S) := by
  have hJ := hO.ll
  have htJ : t < J.length := by omega
  have hiJ : i < J.length := by omega
  refine each4b_any _ _ _ _ p q a n c a2 n c2 _ hp (by omega) (by omega) ((sweep_any w0 a n c R _ pg pi px pt len i x t hO.om1 h hb hg hi hx ht hin htn hit hxe (fun h => ng (.inl h)) (fun h => ni (.inl h)) (fun h => nx (.inl h)) (fun h => nt (.inl h))
    (by rw [nthR_mapf _ J hiJ]; exact fun x hx => hei x (List.mem_of_mem_take hx)) (by rw [nthR_mapf _ J htJ]; exact fun x hx => het x (List.mem_of_mem_take hx)) (by rw [nthR_mapf _ J hiJ, List.length_take]; omega) (by rw [nthR_mapf _ J htJ, List.length_take]; omega)).mono ?_)
  rintro e w1 ⟨rfl, o1, m1⟩
  have hb1 : Below w0.heap.size w0 w1 := hb.trans (m1.below (fun b' hb' => (hO.om1.lt b' hb').1) hb.size)
  refine ⟨rfl, m1.cell hq (fun h => nq (.inl h)), (sweep_any w0 a2 n c2 S _ pg pi px pt (m - len) i x t (hO.step1 m1) h hb1 (m1.cell hg (fun h => ng (.inl h))) (m1.cell hi (fun h => ni (.inl h))) (m1.cell hx (fun h => nx (.inl h))) (m1.cell ht (fun h => nt (.inl h))) hin htn hit hxe
    (fun h => ng (.inr h)) (fun h => ni (.inr h)) (fun h => nx (.inr h)) (fun h => nt (.inr h))
    (by rw [nthR_mapf _ J hiJ]; exact fun x hx => hei x (List.mem_of_mem_drop hx)) (by rw [nthR_mapf _ J htJ]; exact fun x hx => het x (List.mem_of_mem_drop hx)) (by rw [nthR_mapf _ J hiJ, List.length_drop]; omega) (by rw [nthR_mapf _ J htJ, List.length_drop]; omega)).mono ?_⟩
  rintro e w2 ⟨rfl, o2, m2⟩
  exact ⟨rfl, hO.step2 m1 o1 m2 o2 (by rw [nthR_mapf _ J hiJ, nthR_mapf _ J htJ, List.map_set, addRow_take]) (by rw [nthR_mapf _ J hiJ, nthR_mapf _ J htJ, List.map_set, addRow_drop])⟩
end

end Go.Proofs.Ytapjcccpokhhhaa
