/- The walk of the reference's Best. -/
import Derived.Test.YtnielheglicbmaaE3
import Derived.Test.YtnielheglicbmaaE4
import Derived.OwnWalk
namespace Go.Proofs.Ytnielheglicbmaa
set_option linter.unusedVariables false
set_option linter.unusedSimpArgs false
set_option linter.unusedSectionVars false

/- The least order within a width, as plain Lean functions. -/
section
/-- from the set s on, the positions that are left can be taken within g -/
def endN (g : Nat → Bool) (m : Nat) : Nat → Nat → Bool
  | 0, _ => false
  | n + 1, s => g s && (decide (s = 2 ^ m - 1) || (List.range m).any fun p => !s.testBit p && endN g m n (s ||| 2 ^ p))
def endE (g : Nat → Bool) (m s : Nat) : Bool := endN g m (2 ^ m - s) s
theorem or_bd {m s p : Nat} (hs : s < 2 ^ m) (hp : p < m) : s ||| 2 ^ p < 2 ^ m := Nat.or_lt_two_pow hs (Nat.pow_lt_pow_right (by omega) hp)
theorem endN_fuel (g : Nat → Bool) (m : Nat) : ∀ n n' s, s < 2 ^ m → 2 ^ m - s ≤ n → 2 ^ m - s ≤ n' → endN g m n s = endN g m n' s
  | 0, _, s, hs, h1, _ => by omega
  | _ + 1, 0, s, hs, _, h2 => by omega
  | n + 1, n' + 1, s, hs, h1, h2 => by
    rw [endN, endN]
    congr 2
    have key : ∀ p, p ∈ List.range m → (!s.testBit p && endN g m n (s ||| 2 ^ p)) = (!s.testBit p && endN g m n' (s ||| 2 ^ p)) := fun p hp => by
      cases hb : s.testBit p
      · have h3 := (or_sub hb).2.2
        rw [endN_fuel g m n n' (s ||| 2 ^ p) (or_bd hs (List.mem_range.1 hp)) (by omega) (by omega)]
      · rfl
    rw [Bool.eq_iff_iff, List.any_eq_true, List.any_eq_true]
    exact ⟨fun ⟨p, hp, h⟩ => ⟨p, hp, by rw [← key p hp]; exact h⟩, fun ⟨p, hp, h⟩ => ⟨p, hp, by rw [key p hp]; exact h⟩⟩
/-- may the position p come next? -/
def nextB (g : Nat → Bool) (m s p : Nat) : Bool := !s.testBit p && endE g m (s ||| 2 ^ p)
theorem endE_eq (g : Nat → Bool) {m s : Nat} (hs : s < 2 ^ m) : endE g m s = (g s && (decide (s = 2 ^ m - 1) || (List.range m).any (nextB g m s))) := by
  unfold endE
  obtain ⟨d, hd⟩ : ∃ d, 2 ^ m - s = d + 1 := ⟨2 ^ m - s - 1, by omega⟩
  rw [hd, endN]
  congr 2
  have key : ∀ p, p ∈ List.range m → (!s.testBit p && endN g m d (s ||| 2 ^ p)) = nextB g m s p := fun p hp => by
    unfold nextB endE
    cases hb : s.testBit p
    · have h3 := (or_sub hb).2.2
      rw [endN_fuel g m d (2 ^ m - (s ||| 2 ^ p)) (s ||| 2 ^ p) (or_bd hs (List.mem_range.1 hp)) (by omega) (Nat.le_refl _)]
    · rfl
  rw [Bool.eq_iff_iff, List.any_eq_true, List.any_eq_true]
  exact ⟨fun ⟨p, hp, h⟩ => ⟨p, hp, by rw [← key p hp]; exact h⟩, fun ⟨p, hp, h⟩ => ⟨p, hp, by rw [key p hp]; exact h⟩⟩
theorem endE_congr {g g' : Nat → Bool} {m : Nat} (h : ∀ s, s < 2 ^ m → g s = g' s) : ∀ n s, s < 2 ^ m → endN g m n s = endN g' m n s
  | 0, _, _ => rfl
  | n + 1, s, hs => by
    rw [endN, endN, h s hs]
    congr 2
    have key : ∀ p, p ∈ List.range m → (!s.testBit p && endN g m n (s ||| 2 ^ p)) = (!s.testBit p && endN g' m n (s ||| 2 ^ p)) := fun p hp => by
      rw [endE_congr h n _ (or_bd hs (List.mem_range.1 hp))]
    rw [Bool.eq_iff_iff, List.any_eq_true, List.any_eq_true]
    exact ⟨fun ⟨p, hp, h⟩ => ⟨p, hp, by rw [← key p hp]; exact h⟩, fun ⟨p, hp, h⟩ => ⟨p, hp, by rw [key p hp]; exact h⟩⟩

def fstP (h : Nat → Bool) : Nat → Nat → Nat
  | 0, i => i
  | n + 1, i => if h i = true then i else fstP h n (i + 1)
theorem fstP_eq {h : Nat → Bool} {p : Nat} : ∀ n i, i ≤ p → p < i + n → h p = true → (∀ j, i ≤ j → j < p → h j = false) → fstP h n i = p
  | 0, i, h1, h2, _, _ => by omega
  | n + 1, i, h1, h2, h3, h4 => by
    unfold fstP
    by_cases e : i = p
    · subst e; rw [if_pos h3]
    · rw [if_neg (by rw [h4 i (Nat.le_refl _) (by omega)]; simp)]
      exact fstP_eq n (i + 1) (by omega) (by omega) h3 fun j h5 h6 => h4 j (by omega) h6
theorem fstP_ex {h : Nat → Bool} : ∀ n i, (∃ p, i ≤ p ∧ p < i + n ∧ h p = true) → i ≤ fstP h n i ∧ fstP h n i < i + n ∧ h (fstP h n i) = true ∧ ∀ j, i ≤ j → j < fstP h n i → h j = false
  | 0, i, ⟨p, h1, h2, _⟩ => by omega
  | n + 1, i, ⟨p, h1, h2, h3⟩ => by
    unfold fstP
    by_cases e : h i = true
    · rw [if_pos e]; exact ⟨Nat.le_refl _, by omega, e, fun j h4 h5 => by omega⟩
    · rw [if_neg e]
      have hne : i ≠ p := fun e2 => e (by rw [e2]; exact h3)
      obtain ⟨g1, g2, g3, g4⟩ := fstP_ex n (i + 1) ⟨p, by omega, by omega, h3⟩
      refine ⟨by omega, by omega, g3, fun j h4 h5 => ?_⟩
      by_cases e2 : j = i
      · subst e2; simpa using e
      · exact g4 j (by omega) h5

def nxtP (g : Nat → Bool) (m s : Nat) : Nat := fstP (nextB g m s) m 0
def bestQ (g : Nat → Bool) (m : Nat) : Nat → List Int
  | 0 => []
  | k + 1 => bestQ g m k ++ [((nxtP g m (maskS (bestQ g m k)) : Nat) : Int)]
theorem bestQ_len (g : Nat → Bool) (m : Nat) : ∀ k, (bestQ g m k).length = k
  | 0 => rfl
  | k + 1 => by rw [bestQ, List.length_append, bestQ_len g m k]; rfl
theorem nxt_spec {g : Nat → Bool} {m s : Nat} (hs : s < 2 ^ m) (hE : endE g m s = true) (hne : s ≠ 2 ^ m - 1) :
    nxtP g m s < m ∧ s.testBit (nxtP g m s) = false ∧ endE g m (s ||| 2 ^ nxtP g m s) = true ∧ ∀ j, j < nxtP g m s → nextB g m s j = false := by
  rw [endE_eq g hs] at hE
  simp only [Bool.and_eq_true, Bool.or_eq_true, decide_eq_true_eq, List.any_eq_true, List.mem_range] at hE
  obtain ⟨_, h | ⟨p, hp, h⟩⟩ := hE
  · exact absurd h hne
  · obtain ⟨_, g2, g3, g4⟩ := fstP_ex (h := nextB g m s) m 0 ⟨p, Nat.zero_le _, by omega, h⟩
    have g5 := g3
    unfold nextB at g5
    simp only [Bool.and_eq_true, Bool.not_eq_true'] at g5
    exact ⟨by show fstP _ m 0 < m; omega, g5.1, g5.2, fun j hj => g4 j (Nat.zero_le _) hj⟩
/-- the first k positions of the order -/
theorem best_inv {g : Nat → Bool} {m : Nat} (h0 : endE g m 0 = true) : ∀ k, k ≤ m → maskS (bestQ g m k) < 2 ^ m ∧ endE g m (maskS (bestQ g m k)) = true ∧ ordTo m (bestQ g m k) k = true ∧ (bitsTo (maskS (bestQ g m k)) m).length = k ∧
    (k < m → maskS (bestQ g m k) ≠ 2 ^ m - 1)
  | 0, _ => by
    have hb : ∀ j, bitsTo 0 j = [] := fun j => by
      induction j with
      | zero => rfl
      | succ j ih => rw [bitsTo, if_neg (by simp), ih]
    refine ⟨Nat.two_pow_pos m, h0, rfl, by show (bitsTo 0 m).length = 0; rw [hb]; rfl, fun hm => ?_⟩
    show 0 ≠ 2 ^ m - 1
    have : 2 ^ 1 ≤ 2 ^ m := Nat.pow_le_pow_right (by omega) hm
    omega
  | k + 1, hk => by
    obtain ⟨h1, h2, h3, h4, h5⟩ := best_inv h0 k (by omega)
    obtain ⟨g1, g2, g3, _⟩ := nxt_spec h1 h2 (h5 (by omega))
    have e : maskS (bestQ g m (k + 1)) = maskS (bestQ g m k) ||| 2 ^ nxtP g m (maskS (bestQ g m k)) := by rw [bestQ, maskS_snoc, Int.toNat_natCast]
    have hl := bestQ_len g m k
    have h6 : (bitsTo (maskS (bestQ g m (k + 1))) m).length = k + 1 := by rw [e, bits_more g2, h4, if_pos g1]
    refine ⟨by rw [e]; exact or_bd h1 g1, by rw [e]; exact g3, ?_, h6, fun hlt he => ?_⟩
    · have hp : ∀ j, j ≤ k → ordTo m (bestQ g m (k + 1)) j = ordTo m (bestQ g m k) j := fun j hj => by
        rw [bestQ]
        induction j with
        | zero => rfl
        | succ j ih =>
          have e1 : nth (bestQ g m k ++ [((nxtP g m (maskS (bestQ g m k)) : Nat) : Int)]) j = nth (bestQ g m k) j := by rw [nth_push, if_pos (by omega)]
          rw [ordTo, ordTo, ih (by omega), e1, maskTo_append _ _ j (by omega)]
      rw [ordTo, hp k (Nat.le_refl _), h3]
      have e1 : nth (bestQ g m (k + 1)) k = ((nxtP g m (maskS (bestQ g m k)) : Nat) : Int) := by rw [bestQ, nth_push, hl, if_neg (by omega), if_pos rfl]
      have e2 : maskTo (bestQ g m (k + 1)) k = maskS (bestQ g m k) := by rw [bestQ, maskTo_append _ _ k (by omega), maskS, hl]
      rw [e1, e2, Int.toNat_natCast, g2]
      simp
      omega
    · have h7 := bits_full (x := 2 ^ m - 1) m fun j hj => by rw [Nat.testBit_two_pow_sub_one]; simp [hj]
      rw [he, h7] at h6
      omega
theorem best_ord {g : Nat → Bool} {m : Nat} (h0 : endE g m 0 = true) : ordB m (bestQ g m m) = true ∧ maskS (bestQ g m m) = 2 ^ m - 1 := by
  obtain ⟨h1, _, h3, h4, _⟩ := best_inv h0 m (Nat.le_refl _)
  refine ⟨?_, bits_all h1 h4⟩
  unfold ordB
  rw [bestQ_len, h3]
  simp
theorem best_mask (g : Nat → Bool) (m : Nat) (j : Nat) : ∀ k, j ≤ k → maskTo (bestQ g m k) j = maskS (bestQ g m j)
  | 0, h => by obtain rfl : j = 0 := by omega
               rfl
  | k + 1, h => by
    by_cases e : j = k + 1
    · subst e; unfold maskS; rw [bestQ_len]
    · rw [bestQ, maskTo_append _ _ j (by rw [bestQ_len]; omega)]
      exact best_mask g m j k (by omega)
theorem best_width {f : Nat → Int} {b : Int} {m : Nat} {g : Nat → Bool} (hg : ∀ s, s < 2 ^ m → s ≠ 0 → g s = true → f s ≤ b) (hb : 0 ≤ b) (h0 : endE g m 0 = true) : ∀ k, k ≤ m → wdTo f (bestQ g m m) k ≤ b
  | 0, _ => hb
  | k + 1, hk => by
    obtain ⟨h1, h2, _, h4, _⟩ := best_inv h0 (k + 1) hk
    rw [endE_eq g h1] at h2
    simp only [Bool.and_eq_true] at h2
    rw [wdTo, best_mask g m (k + 1) m hk]
    refine Int.max_le.2 ⟨best_width hg hb h0 k (by omega), hg _ h1 (fun e => ?_) h2.1⟩
    rw [e] at h4
    have hbt : ∀ j, bitsTo 0 j = [] := fun j => by
      induction j with
      | zero => rfl
      | succ j ih => rw [bitsTo, if_neg (by simp), ih]
    rw [hbt] at h4
    exact absurd h4 (by simp)

theorem least_att {N : Nat} {T : List Int} {s : Nat} : ∀ i, leastTo N T s i = N ∨ ∃ p, p < i ∧ s.testBit p = true ∧ leastTo N T s i = nth T (s - 2 ^ p)
  | 0 => .inl rfl
  | i + 1 => by
    rw [leastTo]
    have ih := least_att (N := N) (T := T) (s := s) i
    split
    · rename_i ht
      rcases Int.le_total (leastTo N T s i) (nth T (s - 2 ^ i)) with h | h
      · rw [Int.min_eq_left h]
        rcases ih with h1 | ⟨p, h1, h2, h3⟩
        · exact .inl h1
        · exact .inr ⟨p, by omega, h2, h3⟩
      · rw [Int.min_eq_right h]
        exact .inr ⟨i, by omega, ht, rfl⟩
    · rcases ih with h1 | ⟨p, h1, h2, h3⟩
      · exact .inl h1
      · exact .inr ⟨p, by omega, h2, h3⟩
/-- the table's last entry can be reached -/
theorem ends_ok {f : Nat → Int} {m : Nat} (hf : ∀ y, f y ≤ m) {g : Nat → Bool} (hg0 : g 0 = true) (hg : ∀ s, s < 2 ^ m → s ≠ 0 → f s ≤ nth (tabL f m (2 ^ m)) (2 ^ m - 1) → g s = true) : endE g m 0 = true := by
  obtain ⟨T, hT⟩ : ∃ T, tabL f m (2 ^ m) = T := ⟨_, rfl⟩
  obtain ⟨b, hb⟩ : ∃ b, nth T (2 ^ m - 1) = b := ⟨_, rfl⟩
  rw [hT, hb] at hg
  have h2m := Nat.two_pow_pos m
  have hTe : ∀ s, s < 2 ^ m → s ≠ 0 → nth T s = max (f s) (leastTo m T s m) := fun s hs h0 => by
    rw [← hT, nth_tabL f m hs, entT, if_neg h0]
    congr 1
    exact leastTo_congr (fun j hj => by rw [nth_tabL f m hj, nth_tabL f m (show j < 2 ^ m by omega)]) m
  have hTb : ∀ s, s < 2 ^ m → 0 ≤ nth T s ∧ nth T s ≤ m := fun s hs => by rw [← hT]; exact tabL_bd hf _ s hs
  -- from the top down
  have key : ∀ n s, s < 2 ^ m → s ≤ n → nth T s ≤ b → endE g m s = true → endE g m 0 = true := by
    intro n
    induction n with
    | zero =>
      intro s hs hn _ hE
      obtain rfl : s = 0 := by omega
      exact hE
    | succ n ih =>
      intro s hs hn hTs hE
      by_cases h0 : s = 0
      · subst h0; exact hE
      have hmx := hTe s hs h0
      have hbit : ∃ p, p < m ∧ s.testBit p = true ∧ nth T (s - 2 ^ p) ≤ b := by
        rcases least_att (N := m) (T := T) (s := s) m with h1 | ⟨p, h1, h2, h3⟩
        · have : ∃ p, p < m ∧ s.testBit p = true := by
            apply Classical.byContradiction
            intro hn
            refine h0 (test_lt hs fun j hj => ?_)
            cases hbj : s.testBit j
            · rfl
            · exact absurd ⟨j, hj, hbj⟩ hn
          obtain ⟨p, hp, hpb⟩ := this
          have h4 := pow_le_test hpb
          have h6 := Nat.two_pow_pos p
          have h5 := (hTb (s - 2 ^ p) (by omega)).2
          refine ⟨p, hp, hpb, ?_⟩
          omega
        · exact ⟨p, h1, h2, by omega⟩
      obtain ⟨p, hp, hpb, hle⟩ := hbit
      have h4 := pow_le_test hpb
      have h5 := Nat.two_pow_pos p
      have hsb : (s - 2 ^ p).testBit p = false := by rw [sub_bit hpb]; simp
      have hor : (s - 2 ^ p) ||| 2 ^ p = s := by rw [or_add p _ hsb]; omega
      refine ih (s - 2 ^ p) (by omega) (by omega) hle ?_
      rw [endE_eq g (by omega)]
      have hgx : g (s - 2 ^ p) = true := by
        by_cases e : s - 2 ^ p = 0
        · rw [e]; exact hg0
        · refine hg (s - 2 ^ p) (by omega) e ?_
          have := hTe (s - 2 ^ p) (by omega) e
          omega
      rw [hgx, Bool.true_and, Bool.or_eq_true, List.any_eq_true]
      refine .inr ⟨p, List.mem_range.2 hp, ?_⟩
      unfold nextB
      rw [hsb, hor, hE]; rfl
  refine key (2 ^ m) (2 ^ m - 1) (by omega) (by omega) (by omega) ?_
  rw [endE_eq g (by omega)]
  by_cases e : 2 ^ m - 1 = 0
  · rw [e, hg0]; simp
  · have := hTe _ (show 2 ^ m - 1 < 2 ^ m by omega) e
    rw [hg _ (by omega) e (by omega)]; simp
end

/- The walk of ordering.Best. -/
section
open Go.RowKit

theorem or12 (a b : Nat) (ha : a < 4096) (hb : b < 4096) : bits .or .i64 (a : Int) (b : Int) = ((a ||| b : Nat) : Int) := by
  have hx : a ||| b < 2 ^ 12 := Nat.or_lt_two_pow (by omega) (by omega)
  have h1 : (BitVec.ofInt 64 (a : Int)).toNat = a := by
    rw [BitVec.ofInt_natCast, BitVec.toNat_ofNat]; exact Nat.mod_eq_of_lt (by omega)
  have h2 : (BitVec.ofInt 64 (b : Int)).toNat = b := by
    rw [BitVec.ofInt_natCast, BitVec.toNat_ofNat]; exact Nat.mod_eq_of_lt (by omega)
  show IntKind.i64.wrap ((BitVec.ofInt 64 (a : Int) ||| BitVec.ofInt 64 (b : Int)).toNat : Int) = _
  rw [BitVec.toNat_or, h1, h2]
  exact IntWalk.i64_in _ (by omega)
theorem pow_i64 {p : Nat} (hp : p < 12) : IntKind.i64.wrap ((2 : Int) ^ p) = ((2 ^ p : Nat) : Int) := by
  have h1 : 2 ^ p < 2 ^ 12 := Nat.pow_lt_pow_right (by omega) hp
  have : (2 : Int) ^ p = ((2 ^ p : Nat) : Int) := by simp
  rw [this]
  generalize 2 ^ p = q at *
  exact IntWalk.i64_in _ (by omega)
theorem or_i64 {s p : Nat} (hs : s < 4096) (hp : p < 12) : bits .or .i64 (s : Int) (IntKind.i64.wrap ((2 : Int) ^ p)) = ((s ||| 2 ^ p : Nat) : Int) := by
  have h1 : 2 ^ p < 2 ^ 12 := Nat.pow_lt_pow_right (by omega) hp
  rw [pow_i64 hp]; exact or12 s (2 ^ p) hs (by omega)

/-- what is filled in from k on -/
def eL (E : Nat → Bool) (K k : Nat) : List Bool := (List.range K).map fun s => decide (k ≤ s) && E s
theorem eL_length (E : Nat → Bool) (K k : Nat) : (eL E K k).length = K := by simp [eL]
theorem nthB_eL (E : Nat → Bool) {K s : Nat} (k : Nat) (h : s < K) : nthB (eL E K k) s = (decide (k ≤ s) && E s) := by
  rw [nthB_getElem (by rw [eL_length]; exact h)]; simp [eL]
theorem eL_set (E : Nat → Bool) {K k : Nat} (h : k < K) : (eL E K (k + 1)).set k (E k) = eL E K k := by
  refine List.ext_getElem (by simp [eL]) fun i h1 h2 => ?_
  rw [List.getElem_set]
  simp only [eL, List.getElem_map, List.getElem_range]
  by_cases e : k = i
  · subst e; simp
  · rw [if_neg e]
    congr 1
    simp; omega
theorem eL_top (E : Nat → Bool) (K : Nat) : List.replicate K (Value.bool false) = (eL E K K).map Value.bool := by
  refine List.ext_getElem (by simp [eL]) fun i h1 h2 => ?_
  simp [eL] at h1 h2 ⊢
  omega
theorem nthB_eL_set (E : Nat → Bool) {K s x : Nat} (k : Nat) (v : Bool) (hs : s < K) (h : x < K) (hne : x ≠ s) : nthB ((eL E K k).set s v) x = (decide (k ≤ x) && E x) := by
  rw [nthB_set _ _ _ _ (by rw [eL_length]; exact hs), if_neg hne, nthB_eL E k h]

def gOf (f : Nat → Int) (b : Int) (s : Nat) : Bool := decide ((if s = 0 then 0 else f s) ≤ b)
def BestPost (P M : Int) (mod : List Int) (N : Int) (L : List (List Int)) (w : World) (e : Ending) (w' : World) : Prop :=
  Below w.heap.size w w' ∧ (
    (codeE P M mod N L ≠ 0 ∧ e = .returned (.tuple #[.slice none 0 0, .slice none 0 0, .int .i64 (codeE P M mod N L)])) ∨
    (codeE P M mod N L = 0 ∧ 12 < N ∧ e = .returned (.tuple #[.slice none 0 0, .slice none 0 0, .int .i64 8])) ∨
    (codeE P M mod N L = 0 ∧ N ≤ 12 ∧ ∃ a1 c1 a3, e = .returned (.tuple #[.slice a1 N.toNat c1, .slice a3 (2 ^ N.toNat) (2 ^ N.toNat), .int .i64 0]) ∧
      IntsN w.heap.size w' a1 N.toNat (bestQ (gOf (dimS (tblOf P M.toNat mod).ops L N.toNat) (nth (tabL (dimS (tblOf P M.toNat mod).ops L N.toNat) N.toNat (2 ^ N.toNat)) (2 ^ N.toNat - 1))) N.toNat N.toNat) ∧
      IntsN w.heap.size w' a3 (2 ^ N.toNat) (tabL (dimS (tblOf P M.toNat mod).ops L N.toNat) N.toNat (2 ^ N.toNat))))

set_option maxRecDepth 100000 in
set_option maxHeartbeats 4000000 in
theorem ordBest_any (P M : Int) (am : Option Addr) (mn cm : Nat) (mod : List Int) (N : Int) (a : Option Addr) (n c : Nat) (L : List (List Int)) (w : World)
    (hmod : Ints w am mn mod) (hi : Mat w a n L) :
    Calls Try.prog 26 #[.agg #[.int .i64 P, .int .i64 M, .slice am mn cm, .int .i64 N, .slice a n c]] w (BestPost P M mod N L w) := by
  go_enter Try.func26, Try.ntmps26
  go_wp2_with fail
  obtain ⟨W, hW⟩ : ∃ W : World, W = w.alloc (.cells #[.int .i64 P, .int .i64 M, .slice am mn cm, .int .i64 N, .slice a n c] 27) := ⟨_, rfl⟩
  rw [← hW]
  have hbW : Below w.heap.size w W := by rw [hW]; exact below1 _ _
  have x0 : Box W w.heap.size [.int .i64 P, .int .i64 M, .slice am mn cm, .int .i64 N, .slice a n c] := by rw [hW]; exact Box.new _ _ _ rfl
  clear hW
  refine (codeCheck_any P M am mn cm mod N a n c L W (hmod.keep hbW) (hi.keep hbW)).mono ?_
  rintro e w1 ⟨rfl, hb1⟩
  have hbw1 := Below.next hbW hb1
  have x1 := x0.keep hb1
  clear x0
  by_cases hE : codeE P M mod N L = 0
  rotate_left
  · have HE := Lib.hid hE
    have hE2 : (codeE P M mod N L != 0) = true := by simpa using hE
    clear hE x1
    go_wp2_with fail
    go_ret3
    exact ⟨hbw1, .inl ⟨HE.out, rfl⟩⟩
  have HE := Lib.hid hE
  obtain ⟨m, rfl, hm1, hm64, _⟩ := codeE_fld hE
  have c3 := x1.cell 3 rfl
  by_cases h12 : 12 < m
  · have h12' : decide ((12 : Int) < m) = true := by simp; omega
    have h12n : Hid ((12 : Int) < m) := by show (12 : Int) < m; omega
    rw [hE]
    clear hE x1
    go_wp2_with fail
    go_ret3
    exact ⟨hbw1, .inr (.inl ⟨HE.out, h12n.out, rfl⟩)⟩
  have h12' : decide ((12 : Int) < m) = false := by simp; omega
  have hT := ordTables_any P M am mn cm mod m a n c L w1 (hmod.keep hbw1) (hi.keep hbw1) hE (by omega)
  have hfl : ∀ y : Nat, dimS (tblOf P M.toNat mod).ops L m y ≤ m := fun y => dim_le hE y
  have HP : Hid (∀ (a1 : Option Addr) (c1 : Nat) (a3 : Option Addr) (w' : World), IntsN w.heap.size w' a1 m (bestQ (gOf (dimS (tblOf P M.toNat mod).ops L m) (nth (tabL (dimS (tblOf P M.toNat mod).ops L m) m (2 ^ m)) (2 ^ m - 1))) m m) →
      IntsN w.heap.size w' a3 (2 ^ m) (tabL (dimS (tblOf P M.toNat mod).ops L m) m (2 ^ m)) → Below w.heap.size w w' → BestPost P M mod m L w (.returned (.tuple #[.slice a1 m c1, .slice a3 (2 ^ m) (2 ^ m), .int .i64 0])) w') := by
    intro a1 c1 a3 w' h1 h2 h3
    unfold BestPost
    rw [Int.toNat_natCast]
    exact ⟨h3, Or.inr (Or.inr ⟨hE, by omega, a1, c1, a3, rfl, h1, h2⟩)⟩
  rw [hE]
  obtain ⟨f, hf⟩ : ∃ f, dimS (tblOf P M.toNat mod).ops L m = f := ⟨_, rfl⟩
  rw [hf] at hT HP
  have hfl2 : ∀ y : Nat, f y ≤ m := by rw [← hf]; exact hfl
  obtain ⟨K, hK⟩ : ∃ K, 2 ^ m = K := ⟨_, rfl⟩
  have hK2 : 2 ≤ K ∧ K ≤ 4096 := by
    have h1 : 2 ^ 1 ≤ 2 ^ m := Nat.pow_le_pow_right (by omega) hm1
    have h2 : 2 ^ m ≤ 2 ^ 12 := Nat.pow_le_pow_right (by omega) (by omega)
    omega
  have hbnn : 0 ≤ nth (tabL f m (2 ^ m)) (2 ^ m - 1) := (tabL_bd hfl2 (2 ^ m) (2 ^ m - 1) (by omega)).1
  have hE0 : endE (gOf f (nth (tabL f m (2 ^ m)) (2 ^ m - 1))) m 0 = true := ends_ok hfl2 (by simp [gOf, hbnn]) fun s hs h0 h => by simp [gOf, h0, h]
  have hEq : ∀ s, s < 2 ^ m → endE (gOf f (nth (tabL f m (2 ^ m)) (2 ^ m - 1))) m s = (gOf f (nth (tabL f m (2 ^ m)) (2 ^ m - 1)) s && (decide (s = 2 ^ m - 1) || (List.range m).any (nextB (gOf f (nth (tabL f m (2 ^ m)) (2 ^ m - 1))) m s))) := fun s hs => endE_eq _ hs
  unfold TablesPost at hT
  rw [hK] at hT HP hE0 hEq hbnn
  have hlt0 : (tabL f m K).length = K := tabL_len f m K
  have hdl : ∀ s, s < K → nth (dimL f K) s = if s = 0 then 0 else f s := fun s hs => by
    rw [nth_getElem (by rw [dimL_length]; exact hs)]; simp [dimL]
  obtain ⟨hK2, hK4⟩ := hK2
  have Hdl := Lib.hid hdl
  have HT := Lib.hid hT
  have HK := Lib.hid hK
  clear hE hfl hf hfl2 hK hdl hT
  obtain ⟨b, hb⟩ : ∃ b, nth (tabL f m K) (K - 1) = b := ⟨_, rfl⟩
  rw [hb] at HP hE0 hEq hbnn
  obtain ⟨g, hg⟩ : ∃ g, gOf f b = g := ⟨_, rfl⟩
  rw [hg] at HP hE0 hEq
  have Hg : Hid (∀ s, s < K → g s = decide (nth (dimL f K) s ≤ b)) := fun s hs => by rw [← hg, gOf, Hdl.out s hs]
  have HEq := Lib.hid hEq
  have HE0 := Lib.hid hE0
  have Hlt0 := Lib.hid hlt0
  have c0 := x1.cell 0 rfl
  have c1 := x1.cell 1 rfl
  have c2 := x1.cell 2 rfl
  have c4 := x1.cell 4 rfl
  clear hg hEq hE0 hlt0 Hdl
  go_wp2_with fail
  refine HT.out.mono ?_
  rintro e w2 ⟨a2, a3, rfl, hN2, hN3, hb2⟩
  have hI2 := hN2.ints
  have hI3 := hN3.ints
  have hpl2 := hI2.pl
  have hpl3 := hI3.pl
  have hbw2 := Below.next hbw1 hb2
  have x2 := x1.keep hb2
  have hN3' := hN3.mono hbw1.size
  have ct := hI3.cell (K - 1) (by omega)
  rw [hb] at ct
  have cd := hI2.cell (K - 1) (by omega)
  have kw1 : IntKind.i64.wrap ((K : Int) - 1) = (K : Int) - 1 := IntWalk.i64_in _ (by omega)
  have kw2 : IntKind.i64.wrap ((K : Int) - 1 + 1) = (K : Int) := by rw [show (K : Int) - 1 + 1 = K by omega]; exact IntWalk.i64_in _ (by omega)
  have e1 : ((K : Int) - 1).toNat = K - 1 := by omega
  have g1 : (0 : Int) ≤ (K : Int) - 1 := by omega
  have g2 : (K : Int) - 1 < K := by omega
  have g3 : (1 : Int) ≤ K := by omega
  clear c0 c1 c2 c3 c4 HT hN2 hN3 hb x1
  go_wp2_with (at_make; refine wpList_mk rfl _ _ 55 4 rfl (.bool false) 1 Try.underlying55 infoBool rfl K rfl rfl (by omega) (by unfold maxLen; omega) ?_; intro a9 w3 hown hbel hge hlt; obtain ⟨hbl9, hm9⟩ := Bools.own (l := List.replicate K false) (by simpa using hown); have hf9 := (hm9 (by omega)).2 (K - 1) (by omega); have hc9 := hbl9.cell (K - 1) (by omega); have cd3 := cell_keep hbel cd; have hpl9 := hbl9.pl)
  have hEtop : endE g m (K - 1) = decide (nth (dimL f K) (K - 1) ≤ b) := by
    rw [HEq.out (K - 1) (by omega), Hg.out (K - 1) (by omega)]; simp
  have hs9 := own_set hown (K - 1) (by omega) (.bool (decide (nth (dimL f K) (K - 1) ≤ b)))
  rw [eL_top (endE g m) K, ← List.map_set, ← hEtop] at hs9
  have hs99 := eL_set (endE g m) (K := K) (k := K - 1) (by omega)
  rw [show K - 1 + 1 = K by omega] at hs99
  rw [hs99] at hs9
  rw [hEtop] at hs9
  have hb3 := hbel.setCell (p := ⟨ablk a9, aoff a9 + (K - 1), none⟩) (hm9 (by omega)).1 (.bool (decide (nth (dimL f K) (K - 1) ≤ b)))
  clear hs99 hEtop hown hbel hge hlt hbl9 hm9 hf9 hc9 cd3 ct cd
  go_loopw [10] (fun iv wr => ∃ k : Nat, k ≤ K - 1 ∧ iv = .int .i64 ((k : Int) - 1) ∧ wr.ownsRow w2.heap.size 4 1 (.slice a9 K K) K ((eL (endE g m) K k).map Value.bool) ∧ Below w2.heap.size w2 wr) (fun iv _ => (intOf iv + 1).toNat)
  case atStart => exact ⟨K - 1, Nat.le_refl _, by congr 1; omega, hs9, hb3⟩
  case round =>
    clear hs9 hb3
    obtain ⟨k, hk, rfl, hop, hbr⟩ := hrel
    by_cases hk0 : k = 0
    · subst hk0
      have es : (((0 : Nat) : Int) - 1) = -1 := rfl
      rw [es]
      have hblE := (Bools.own hop).1
      have hpl9' := hblE.pl
      have hbrU := hbr
      clear hop
      generalize wr = U at *
      have HX := Lib.hid (x2.keep hbr)
      have hI3U := hN3'.keep hbr
      go_wp2_with fail
      go_loopw [2, 12] (fun ov sv wr => ∃ (k : Nat) (aq : Option Addr) (cq : Nat), k ≤ m ∧ ov = .slice aq k cq ∧ sv = .int .i64 (maskS (bestQ g m k)) ∧ wr.ownsRow U.heap.size 3 1 (.slice aq k cq) k ((bestQ g m k).map (Value.int .i64)) ∧ Below U.heap.size U wr) (fun ov _ _ => m - lenVal ov)
      case atStart => exact ⟨0, none, 0, Nat.zero_le _, rfl, rfl, own_none, Below.refl _ _⟩
      case round =>
        obtain ⟨k, aq, cq, hk, rfl, rfl, hop, hbr2⟩ := hrel
        obtain ⟨i1, i2, _, i4, i5⟩ := best_inv HE0.out k hk
        have hE1 := i1
        rw [HK.out] at i1 i5 hE1
        by_cases hlt : k < m
        · have hne := i5 hlt
          obtain ⟨p1, p2, p3, p4⟩ := nxt_spec (by rw [HK.out]; exact i1) i2 (by rw [HK.out]; exact hne)
          have hQ : bestQ g m (k + 1) = bestQ g m k ++ [((nxtP g m (maskS (bestQ g m k)) : Nat) : Int)] := rfl
          have hM : maskS (bestQ g m (k + 1)) = maskS (bestQ g m k) ||| 2 ^ nxtP g m (maskS (bestQ g m k)) := by rw [hQ, maskS_snoc, Int.toNat_natCast]
          obtain ⟨s, hs⟩ : ∃ s, maskS (bestQ g m k) = s := ⟨_, rfl⟩
          rw [hs] at i1 hne p1 p2 p3 p4 hQ hM
          rw [hs]
          obtain ⟨p, hp⟩ : ∃ p, nxtP g m s = p := ⟨_, rfl⟩
          rw [hp] at p1 p2 p3 p4 hQ hM
          have HQ := Lib.hid hQ
          have HM := Lib.hid hM
          have HP4 := Lib.hid p4
          have hne' : ((s : Int) != (K : Int) - 1) = true := by simp; omega
          have hs4 : s < 4096 := by omega
          have hxb : ∀ i, i < m → s ||| 2 ^ i < K := fun i hi => by rw [← HK.out]; exact or_bd (by rw [HK.out]; exact i1) hi
          have Hxb := Lib.hid hxb
          have c3 := (HX.out.keep hbr2).cell 3 rfl
          have hblr := hblE.keep hbr2
          clear hs hp hQ hM p4 hxb i2 i4 i5 hne hE1
          go_wp2_with fail
          go_loopw [2, 12, 95] (fun ov sv iv wx => ∃ i : Nat, i ≤ p ∧ iv = .int .i64 i ∧ ov = .slice aq k cq ∧ sv = .int .i64 s ∧ wx = wr) (fun _ _ iv _ => m - (intOf iv).toNat)
          case atStart => exact ⟨0, Nat.zero_le _, rfl, rfl, rfl, rfl⟩
          case round =>
            obtain ⟨i, hi', rfl, rfl, rfl, rfl⟩ := hrel
            have him : (i : Int) < m := by omega
            have him' : i < m := by omega
            have hand := and1_i64 s i hs4
            have htb := testBit_div s i
            by_cases ht : s.testBit i = true
            · have h1 : s / 2 ^ i % 2 = 1 := by rw [ht] at htb; simpa using htb.symm
              rw [h1] at hand
              have hip : i ≠ p := fun e => by rw [e, p2] at ht; exact absurd ht (by decide)
              clear ht htb h1
              go_wp2_with fail
              go_roundw
              case rel => exact ⟨i + 1, by omega, by go_num, by simp⟩
              case measure => simp [intOf] <;> omega
            · have ht' : s.testBit i = false := by simpa using ht
              have h1 : s / 2 ^ i % 2 = 0 := by
                have h2 := Nat.mod_two_eq_zero_or_one (s / 2 ^ i)
                have h3 : ¬ s / 2 ^ i % 2 = 1 := fun h => by rw [h] at htb; simp at htb; exact ht htb
                omega
              rw [h1] at hand
              have hpw := pow_i64 (p := i) (by omega)
              have hq12 : 2 ^ i < 4096 := by have : 2 ^ i < 2 ^ 12 := Nat.pow_lt_pow_right (by omega) (by omega); omega
              have hor := or12 s (2 ^ i) hs4 hq12
              have hxl := Hxb.out i him'
              have cx := hblr.cell (s ||| 2 ^ i) hxl
              rw [nthB_eL (endE g m) 0 hxl, show decide (0 ≤ s ||| 2 ^ i) = true by simp, Bool.true_and] at cx
              by_cases hip : i = p
              · subst hip
                rw [p3] at cx
                obtain ⟨x, hx⟩ : ∃ x, s ||| 2 ^ i = x := ⟨_, rfl⟩
                rw [hx] at hor hxl cx HM
                have hxk : (x : Int) < K := by omega
                obtain ⟨q, hq⟩ : ∃ q, 2 ^ i = q := ⟨_, rfl⟩
                rw [hq] at hpw hor
                have hcn := cell_new wr (.int .i64 i) 3
                have hbn := below1 wr (.cells #[.int .i64 i] 3)
                have hsz := hbr2.size
                clear ht ht' htb h1 hx hq12 hq p2 p3
                go_wp2_with (at_builtin; refine wpList_push rfl _ _ 22 3 rfl (.int .i64 0) 8 Try.underlying22 infoInt rfl U.heap.size aq k cq _ rfl (hop.alloc _) ⟨wr.heap.size, 0, none⟩ 1 (.int .i64 i) rfl hcn rfl (by omega) (by unfold maxLen; omega) (by simp; omega) ?_; intro a5 c5 w5 hown5 hgr5 hap5)
                go_roundw
                case rel =>
                  refine ⟨k + 1, a5, c5, by omega, rfl, by rw [HM.out], ?_, Below.app (Below.trans hbr2 (hbn.mono hsz)) (hop.alloc _) hgr5 (Nat.le_refl _) (Nat.le_trans hsz hbn.size)⟩
                  rw [HQ.out]; simpa using hown5
                case measure => simp [lenVal] <;> omega
              · have hnx := HP4.out i (by omega)
                have hEx : endE g m (s ||| 2 ^ i) = false := by unfold nextB at hnx; rw [ht'] at hnx; simpa using hnx
                rw [hEx] at cx
                obtain ⟨x, hx⟩ : ∃ x, s ||| 2 ^ i = x := ⟨_, rfl⟩
                rw [hx] at hor hxl cx
                have hxk : (x : Int) < K := by omega
                obtain ⟨q, hq⟩ : ∃ q, 2 ^ i = q := ⟨_, rfl⟩
                rw [hq] at hpw hor
                clear ht ht' htb h1 hx hq12 hq hnx hEx
                go_wp2_with fail
                go_roundw
                case rel => exact ⟨i + 1, by omega, by go_num, by simp⟩
                case measure => simp [intOf] <;> omega
        · obtain rfl : k = m := by omega
          have hall := (best_ord HE0.out).2
          rw [HK.out] at hall
          rw [hall]
          have hne' : (((K - 1 : Nat) : Int) != (K : Int) - 1) = false := by simp; omega
          have hF := HP.out aq cq a3 wr ((IntsN.own hop).mono (Below.next hbw2 hbrU).size) (hI3U.keep hbr2) (Below.next (Below.next hbw2 hbrU) hbr2)
          have HF := Lib.hid hF
          clear hF hop hall i1 i2 i4 i5 hE1
          go_wp2_with fail
          go_ret3
          exact HF.out
    · obtain ⟨s, rfl⟩ : ∃ s, k = s + 1 := ⟨k - 1, by omega⟩
      have es : (((s + 1 : Nat) : Int) - 1) = s := by omega
      rw [es]
      have hsk : (s : Int) < K := by omega
      have hs0 : (0 : Int) ≤ s := by omega
      have hsK : s < K := by omega
      have c3 := (x2.keep hbr).cell 3 rfl
      have cd := (hI2.keep hbr).cell s hsK
      have hgs := Hg.out s hsK
      have hEs := HEq.out s hsK
      rw [show decide (s = K - 1) = false by simp; omega, Bool.false_or] at hEs
      obtain ⟨d9, hd9⟩ : ∃ d, nth (dimL f K) s = d := ⟨_, rfl⟩
      have Hd9 := Lib.hid hd9
      rw [hd9] at cd hgs
      clear hd9
      by_cases hd : d9 ≤ b
      · have hd' : decide (d9 ≤ b) = true := by simpa using hd
        rw [hd'] at hgs
        rw [hgs, Bool.true_and] at hEs
        have HEs := Lib.hid hEs
        clear hd hgs hEs hk0
        go_wp2_with fail
        go_loopw [11] (fun iv wx => ∃ (i : Nat) (v : Bool), i ≤ m ∧ iv = .int .i64 i ∧ Hid (v = (List.range i).any (nextB g m s)) ∧ wx.ownsRow w2.heap.size 4 1 (.slice a9 K K) K (((eL (endE g m) K (s + 1)).set s v).map Value.bool) ∧ Below w2.heap.size w2 wx) (fun iv _ => m - (intOf iv).toNat)
        case atStart =>
          refine ⟨0, false, Nat.zero_le _, rfl, rfl, ?_, hbr⟩
          have e : (eL (endE g m) K (s + 1)).set s false = eL (endE g m) K (s + 1) := by
            refine List.ext_getElem (by simp) fun i h1 h2 => ?_
            rw [List.getElem_set]
            by_cases e : s = i
            · subst e; simp [eL]; intro h; omega
            · rw [if_neg e]
          rw [e]; exact hop
        case round =>
          clear hop hbr
          obtain ⟨i, v, hi', rfl, hv, hop, hbr⟩ := hrel
          obtain ⟨hbl, hmine⟩ := Bools.own hop
          have hpl9' := hbl.pl
          have cs := hbl.cell s hsK
          rw [nthB_set _ _ _ _ (by rw [eL_length]; exact hsK), if_pos rfl] at cs
          have c3 := (x2.keep hbr).cell 3 rfl
          have cd := (hI2.keep hbr).cell s hsK
          rw [Hd9.out] at cd
          have hfin : v = endE g m s → wr.ownsRow w2.heap.size 4 1 (.slice a9 K K) K ((eL (endE g m) K s).map Value.bool) := fun e => by
            rw [← eL_set (endE g m) hsK, ← e]; exact hop
          have Hfin := Lib.hid hfin
          clear hfin
          by_cases hli : i < m
          · cases v
            · have hand := and1_i64 s i (by omega)
              have htb := testBit_div s i
              have hf9 := (hmine (by omega)).2 s hsK
              have hB9 := (hmine (by omega)).1
              by_cases ht : s.testBit i = true
              · have h1 : s / 2 ^ i % 2 = 1 := by rw [ht] at htb; simpa using htb.symm
                rw [h1] at hand
                have Hv2 : Hid (false = (List.range (i + 1)).any (nextB g m s)) := by
                  show _ = _
                  rw [List.range_succ, List.any_append, ← hv.out]
                  simp [nextB, ht]
                clear ht htb h1 hv
                go_wp2_with fail
                go_roundw
                case rel =>
                  have h := own_set hop s hsK (.bool false)
                  rw [← List.map_set, List.set_set] at h
                  exact ⟨i + 1, false, by omega, by go_num, Hv2.out, h, hbr.setCell hB9 _⟩
                case measure => simp [intOf] <;> omega
              · have ht' : s.testBit i = false := by simpa using ht
                have h1 : s / 2 ^ i % 2 = 0 := by
                  have h2 := Nat.mod_two_eq_zero_or_one (s / 2 ^ i)
                  have h3 : ¬ s / 2 ^ i % 2 = 1 := fun h => by rw [h] at htb; simp at htb; exact ht htb
                  omega
                rw [h1] at hand
                have hpw := pow_i64 (p := i) (by omega)
                have hq12 : 2 ^ i < 4096 := by have : 2 ^ i < 2 ^ 12 := Nat.pow_lt_pow_right (by omega) (by omega); omega
                have hor := or12 s (2 ^ i) (by omega) hq12
                have hxb : s ||| 2 ^ i < K := by rw [← HK.out]; exact or_bd (by rw [HK.out]; exact hsK) hli
                have hxg := (or_sub ht').2.2
                have cx := hbl.cell (s ||| 2 ^ i) hxb
                rw [nthB_eL_set (endE g m) (s + 1) false hsK hxb (by omega), show decide (s + 1 ≤ s ||| 2 ^ i) = true by simp; omega, Bool.true_and] at cx
                have Hv2 : Hid (endE g m (s ||| 2 ^ i) = (List.range (i + 1)).any (nextB g m s)) := by
                  show _ = _
                  rw [List.range_succ, List.any_append, ← hv.out]
                  simp [nextB, ht']
                obtain ⟨x, hx⟩ : ∃ x, s ||| 2 ^ i = x := ⟨_, rfl⟩
                rw [hx] at hor hxb cx Hv2
                obtain ⟨v2, hv2⟩ : ∃ v2, endE g m x = v2 := ⟨_, rfl⟩
                rw [hv2] at cx Hv2
                have hxk : (x : Int) < K := by omega
                obtain ⟨q, hq⟩ : ∃ q, 2 ^ i = q := ⟨_, rfl⟩
                rw [hq] at hpw hor
                clear ht ht' htb h1 hv hx hv2 hxg hq12 hq
                go_wp2_with fail
                go_roundw
                case rel =>
                  have h := own_set hop s hsK (.bool v2)
                  rw [← List.map_set, List.set_set] at h
                  exact ⟨i + 1, v2, by omega, by go_num, Hv2.out, h, hbr.setCell hB9 _⟩
                case measure => simp [intOf] <;> omega
            · have hE : true = endE g m s := by
                rw [HEs.out]
                have h1 := hv.out.symm
                rw [List.any_eq_true] at h1
                obtain ⟨q, hq, h2⟩ := h1
                symm
                rw [List.any_eq_true]
                exact ⟨q, List.mem_range.2 (by have := List.mem_range.1 hq; omega), h2⟩
              have Hop := Lib.hid (Hfin.out hE)
              clear hv hop hE
              go_wp2_with fail
              go_roundw
              case rel => exact ⟨s, by omega, by go_num, Hop.out, hbr⟩
              case measure => simp [intOf] <;> omega
          · obtain rfl : i = m := by omega
            have hE : v = endE g i s := by rw [HEs.out]; exact hv.out
            have Hop := Lib.hid (Hfin.out hE)
            clear hv hop hE
            go_wp2_with fail
            go_roundw
            case rel => exact ⟨s, by omega, by go_num, Hop.out, hbr⟩
            case measure => simp [intOf] <;> omega
      · have hd' : decide (d9 ≤ b) = false := by simpa using hd
        rw [hd'] at hgs
        rw [hgs, Bool.false_and] at hEs
        have e : eL (endE g m) K s = eL (endE g m) K (s + 1) := by
          refine List.ext_getElem (by simp [eL]) fun i h1 h2 => ?_
          simp only [eL, List.getElem_map, List.getElem_range]
          by_cases e : s = i
          · subst e; rw [hEs]; simp
          · congr 1
            simp; omega
        have Hop : Hid (wr.ownsRow w2.heap.size 4 1 (.slice a9 K K) K ((eL (endE g m) K s).map Value.bool)) := by rw [e]; exact hop
        clear hd hgs hEs hk0 e hop
        go_wp2_with fail
        go_loopw [11] (fun iv wx => iv = .int .i64 0 ∧ wx = wr) (fun _ _ => 0)
        case atStart => exact ⟨rfl, rfl⟩
        case round =>
          obtain ⟨rfl, rfl⟩ := hrel
          go_wp2_with fail
          go_roundw
          case rel => exact ⟨s, by omega, by go_num, Hop.out, hbr⟩
          case measure => simp [intOf] <;> omega
end

/- The walk of the reference's Best. -/
section
open Go.RowKit

theorem dim_zero {P M : Int} {mod : List Int} {N : Nat} {L : List (List Int)} (hE : codeE P M mod N L = 0) : dimS (tblOf P M.toNat mod).ops L N 0 ≤ 0 := by
  have h1 := gr_rows hE (cplU 0)
  have h2 : ∀ j, bitsTo 0 j = [] := fun j => by
    induction j with
    | zero => rfl
    | succ j ih => rw [bitsTo, if_neg (by simp), ih]
  have h3 : (grS (tblOf P M.toNat mod).ops L []).length ≤ 0 := grS_len _ _ []
  unfold dimS
  rw [h2]
  omega

set_option maxRecDepth 100000 in
set_option maxHeartbeats 4000000 in
theorem rBest_any (P M : Int) (am : Option Addr) (mn cm : Nat) (mod : List Int) (m : Nat) (a : Option Addr) (n c : Nat) (L : List (List Int)) (w : World)
    (hmod : Ints w am mn mod) (hi : Mat w a n L) (hE : codeE P M mod m L = 0) (hm12 : m ≤ 12) :
    Calls Try.prog 27 #[.agg #[.int .i64 P, .int .i64 M, .slice am mn cm, .int .i64 m, .slice a n c]] w
      (NewInts w (bestQ (gOf (dimS (tblOf P M.toNat mod).ops L m) (nth (tabL (dimS (tblOf P M.toNat mod).ops L m) m (2 ^ m)) (2 ^ m - 1))) m m)) := by
  obtain ⟨N', e, hm1, hm64, _⟩ := codeE_fld hE
  obtain rfl : m = N' := by omega
  have hfl : ∀ y : Nat, dimS (tblOf P M.toNat mod).ops L m y ≤ m := fun y => dim_le hE y
  have hf0 := dim_zero hE
  have HD : Hid (∀ V, Below w.heap.size w V → Calls Try.prog 44 #[.agg #[.int .i64 P, .int .i64 M, .slice am mn cm, .int .i64 m, .slice a n c]] V (NewInts V (cnL (2 ^ m) (dimS (tblOf P M.toNat mod).ops L m)))) := fun V hV => rDimensions_any P M am mn cm mod m a n c L V (hmod.keep hV) (hi.keep hV) hE hm12
  have HT : Hid (∀ V, Below w.heap.size w V → Calls Try.prog 28 #[.agg #[.int .i64 P, .int .i64 M, .slice am mn cm, .int .i64 m, .slice a n c]] V (NewInts V (tabL (dimS (tblOf P M.toNat mod).ops L m) m (2 ^ m)))) := fun V hV => rTable_any P M am mn cm mod m a n c L V (hmod.keep hV) (hi.keep hV) hE hm12
  obtain ⟨f, hf⟩ : ∃ f, dimS (tblOf P M.toNat mod).ops L m = f := ⟨_, rfl⟩
  rw [hf] at HD HT hf0
  rw [hf]
  have hfl2 : ∀ y : Nat, f y ≤ m := by rw [← hf]; exact hfl
  obtain ⟨K, hK⟩ : ∃ K, 2 ^ m = K := ⟨_, rfl⟩
  have hK2 : 2 ≤ K ∧ K ≤ 4096 := by
    have h1 : 2 ^ 1 ≤ 2 ^ m := Nat.pow_le_pow_right (by omega) hm1
    have h2 : 2 ^ m ≤ 2 ^ 12 := Nat.pow_le_pow_right (by omega) (by omega)
    omega
  have hbnn : 0 ≤ nth (tabL f m (2 ^ m)) (2 ^ m - 1) := (tabL_bd hfl2 (2 ^ m) (2 ^ m - 1) (by omega)).1
  have hE0 : endE (gOf f (nth (tabL f m (2 ^ m)) (2 ^ m - 1))) m 0 = true := ends_ok hfl2 (by simp [gOf, hbnn]) fun s hs h0 h => by simp [gOf, h0, h]
  have hEq : ∀ s, s < 2 ^ m → endE (gOf f (nth (tabL f m (2 ^ m)) (2 ^ m - 1))) m s = (gOf f (nth (tabL f m (2 ^ m)) (2 ^ m - 1)) s && (decide (s = 2 ^ m - 1) || (List.range m).any (nextB (gOf f (nth (tabL f m (2 ^ m)) (2 ^ m - 1))) m s))) := fun s hs => endE_eq _ hs
  rw [hK] at HD HT hE0 hEq hbnn
  rw [hK]
  obtain ⟨hK2, hK4⟩ := hK2
  have HK := Lib.hid hK
  clear hE hfl hf hfl2 hK hmod hi e
  obtain ⟨b, hb⟩ : ∃ b, nth (tabL f m K) (K - 1) = b := ⟨_, rfl⟩
  rw [hb] at hE0 hEq hbnn
  rw [hb]
  obtain ⟨g, hg⟩ : ∃ g, gOf f b = g := ⟨_, rfl⟩
  rw [hg] at hE0 hEq
  rw [hg]
  have Hg : Hid (∀ s, s < K → g s = decide (nth (cnL K f) s ≤ b)) := fun s hs => by
    rw [← hg, gOf, nth_cnL f hs]
    by_cases h0 : s = 0
    · subst h0
      rw [if_pos rfl]
      have h1 : decide ((0 : Int) ≤ b) = true := by simpa using hbnn
      have h2 : decide (f 0 ≤ b) = true := by simp; omega
      rw [h1, h2]
    · rw [if_neg h0]
  have Hl1 : Hid ((cnL K f).length = K) := cnL_length K f
  have Hl2 : Hid ((tabL f m K).length = K) := tabL_len f m K
  have HEq := Lib.hid hEq
  have HE0 := Lib.hid hE0
  clear hg hEq hE0 hf0
  go_enter Try.func27, Try.ntmps27
  go_wp2_with fail
  obtain ⟨W, hW⟩ : ∃ W : World, W = w.alloc (.cells #[.int .i64 P, .int .i64 M, .slice am mn cm, .int .i64 m, .slice a n c] 27) := ⟨_, rfl⟩
  rw [← hW]
  have hbW : Below w.heap.size w W := by rw [hW]; exact below1 _ _
  have x0 : Box W w.heap.size [.int .i64 P, .int .i64 M, .slice am mn cm, .int .i64 m, .slice a n c] := by rw [hW]; exact Box.new _ _ _ rfl
  clear hW
  refine (HD.out W hbW).mono ?_
  rintro e w1 ⟨a2, c2', rfl, hown2, hb1⟩
  rw [Hl1.out] at hown2 ⊢
  have hbw1 := Below.next hbW hb1
  have x1 := x0.keep hb1
  have c0 := x1.cell 0 rfl
  have c1 := x1.cell 1 rfl
  have c2 := x1.cell 2 rfl
  have c3 := x1.cell 3 rfl
  have c4 := x1.cell 4 rfl
  clear x0
  go_wp2_with fail
  refine (HT.out w1 hbw1).mono ?_
  rintro e w2 ⟨a3, c3', rfl, hown3, hb2⟩
  rw [Hl2.out] at hown3 ⊢
  have hI2 := (Ints.own (own_keep hown2 hb2)).1
  have hI3 := (Ints.own hown3).1
  have hpl2 := hI2.pl
  have hpl3 := hI3.pl
  have hbw2 := Below.next hbw1 hb2
  have x2 := x1.keep hb2
  have ct := hI3.cell (K - 1) (by omega)
  rw [hb] at ct
  have kw1 : IntKind.i64.wrap ((K : Int) - 1) = (K : Int) - 1 := IntWalk.i64_in _ (by omega)
  have e1 : ((K : Int) - 1).toNat = K - 1 := by omega
  have g1 : (0 : Int) ≤ (K : Int) - 1 := by omega
  have g2 : (K : Int) - 1 < K := by omega
  have g3 : (1 : Int) ≤ K := by omega
  clear c0 c1 c2 c3 c4 HT HD hown2 hown3 hb x1
  go_wp2_with (at_make; refine wpList_mk rfl _ _ 55 4 rfl (.bool false) 1 Try.underlying55 infoBool rfl K rfl rfl (by omega) (by unfold maxLen; omega) ?_; intro a9 w3 hown hbel hge hlt)
  rw [eL_top (endE g m) K] at hown
  clear hge hlt ct
  go_loopw [8] (fun iv wr => ∃ k : Nat, k ≤ K ∧ iv = .int .i64 ((k : Int) - 1) ∧ wr.ownsRow w2.heap.size 4 1 (.slice a9 K K) K ((eL (endE g m) K k).map Value.bool) ∧ Below w2.heap.size w2 wr) (fun iv _ => (intOf iv + 1).toNat)
  case atStart => exact ⟨K, Nat.le_refl _, rfl, hown, hbel⟩
  case round =>
    clear hown hbel
    obtain ⟨k, hk, rfl, hop, hbr⟩ := hrel
    by_cases hk0 : k = 0
    · subst hk0
      have es : (((0 : Nat) : Int) - 1) = -1 := rfl
      rw [es]
      have hblE := (Bools.own hop).1
      have hpl9' := hblE.pl
      have hbrU := hbr
      clear hop
      generalize wr = U at *
      have HX := Lib.hid (x2.keep hbr)
      go_wp2_with fail
      go_loopw [10, 11] (fun ov sv wr => ∃ (k : Nat) (aq : Option Addr) (cq : Nat), k ≤ m ∧ ov = .slice aq k cq ∧ sv = .int .i64 (maskS (bestQ g m k)) ∧ wr.ownsRow U.heap.size 3 1 (.slice aq k cq) k ((bestQ g m k).map (Value.int .i64)) ∧ Below U.heap.size U wr) (fun ov _ _ => m - lenVal ov)
      case atStart => exact ⟨0, _, _, Nat.zero_le _, rfl, rfl, by simpa [bestQ] using own_mk U 3 (.int .i64 0) 0 (Nat.le_refl _) (by unfold maxLen; omega), below1 _ _⟩
      case round =>
        obtain ⟨k, aq, cq, hk, rfl, rfl, hop, hbr2⟩ := hrel
        obtain ⟨i1, i2, _, i4, i5⟩ := best_inv HE0.out k hk
        rw [HK.out] at i1 i5
        have c3 := (HX.out.keep hbr2).cell 3 rfl
        by_cases hlt : k < m
        · have hne := i5 hlt
          obtain ⟨p1, p2, p3, p4⟩ := nxt_spec (by rw [HK.out]; exact i1) i2 (by rw [HK.out]; exact hne)
          have hQ : bestQ g m (k + 1) = bestQ g m k ++ [((nxtP g m (maskS (bestQ g m k)) : Nat) : Int)] := rfl
          have hM : maskS (bestQ g m (k + 1)) = maskS (bestQ g m k) ||| 2 ^ nxtP g m (maskS (bestQ g m k)) := by rw [hQ, maskS_snoc, Int.toNat_natCast]
          obtain ⟨s, hs⟩ : ∃ s, maskS (bestQ g m k) = s := ⟨_, rfl⟩
          rw [hs] at i1 hne p1 p2 p3 p4 hQ hM
          rw [hs]
          obtain ⟨p, hp⟩ : ∃ p, nxtP g m s = p := ⟨_, rfl⟩
          rw [hp] at p1 p2 p3 p4 hQ hM
          have HQ := Lib.hid hQ
          have HM := Lib.hid hM
          have HP4 := Lib.hid p4
          have hs4 : s < 4096 := by omega
          have hxb : ∀ i, i < m → s ||| 2 ^ i < K := fun i hi => by rw [← HK.out]; exact or_bd (by rw [HK.out]; exact i1) hi
          have Hxb := Lib.hid hxb
          have hblr := hblE.keep hbr2
          clear hs hp hQ hM p4 hxb i2 i4 i5 hne
          go_wp2_with fail
          go_loop [12] (fun iv => ∃ i : Nat, i ≤ p ∧ iv = .int .i64 i) (fun iv => m - (intOf iv).toNat)
          case atStart => exact ⟨0, Nat.zero_le _, rfl⟩
          case round =>
            obtain ⟨i, hi', rfl⟩ := hrel
            have him' : i < m := by omega
            have hand := and1_i64 s i hs4
            have htb := testBit_div s i
            by_cases ht : s.testBit i = true
            · have h1 : s / 2 ^ i % 2 = 1 := by rw [ht] at htb; simpa using htb.symm
              rw [h1] at hand
              have hip : i ≠ p := fun e => by rw [e, p2] at ht; exact absurd ht (by decide)
              clear ht htb h1
              go_wp2_with fail
              go_round
              case rel => exact ⟨i + 1, by omega, by go_num⟩
              case measure => simp [intOf] <;> omega
            · have ht' : s.testBit i = false := by simpa using ht
              have h1 : s / 2 ^ i % 2 = 0 := by
                have h2 := Nat.mod_two_eq_zero_or_one (s / 2 ^ i)
                have h3 : ¬ s / 2 ^ i % 2 = 1 := fun h => by rw [h] at htb; simp at htb; exact ht htb
                omega
              rw [h1] at hand
              have hpw := pow_i64 (p := i) (by omega)
              have hor := or_add i s ht'
              have hxl := Hxb.out i him'
              have cx := hblr.cell (s ||| 2 ^ i) hxl
              rw [nthB_eL (endE g m) 0 hxl, show decide (0 ≤ s ||| 2 ^ i) = true by simp, Bool.true_and] at cx
              by_cases hip : i = p
              · subst hip
                rw [p3] at cx
                rw [hor] at hxl cx HM
                obtain ⟨q, hq⟩ : ∃ q, 2 ^ i = q := ⟨_, rfl⟩
                rw [hq] at hpw hxl cx HM
                have hxk : (s : Int) + q < K := by omega
                have h0x : (0 : Int) ≤ (s : Int) + q := by omega
                have h0s : (0 : Int) ≤ s := by omega
                have hxs : IntKind.i64.wrap ((s : Int) + (q : Int)) = (s : Int) + q := IntWalk.i64_in _ (by omega)
                have etn : ((s : Int) + (q : Int)).toNat = s + q := by omega
                have hcn := cell_new wr (.int .i64 i) 3
                have hbn := below1 wr (.cells #[.int .i64 i] 3)
                have hsz := hbr2.size
                clear ht ht' htb h1 hor hq p2 p3
                go_wp2_with (at_builtin; refine wpList_push rfl _ _ 22 3 rfl (.int .i64 0) 8 Try.underlying22 infoInt rfl U.heap.size aq k cq _ rfl (hop.alloc _) ⟨wr.heap.size, 0, none⟩ 1 (.int .i64 i) rfl hcn rfl (by omega) (by unfold maxLen; omega) (by simp; omega) ?_; intro a5 c5 w5 hown5 hgr5 hap5)
                go_roundw
                case rel =>
                  refine ⟨k + 1, a5, c5, by omega, rfl, by rw [HM.out]; simp, ?_, Below.app (Below.trans hbr2 (hbn.mono hsz)) (hop.alloc _) hgr5 (Nat.le_refl _) (Nat.le_trans hsz hbn.size)⟩
                  rw [HQ.out]; simpa using hown5
                case measure => simp [lenVal] <;> omega
              · have hnx := HP4.out i (by omega)
                have hEx : endE g m (s ||| 2 ^ i) = false := by unfold nextB at hnx; rw [ht'] at hnx; simpa using hnx
                rw [hEx] at cx
                rw [hor] at hxl cx
                obtain ⟨q, hq⟩ : ∃ q, 2 ^ i = q := ⟨_, rfl⟩
                rw [hq] at hpw hxl cx
                have hxk : (s : Int) + q < K := by omega
                have h0x : (0 : Int) ≤ (s : Int) + q := by omega
                have h0s : (0 : Int) ≤ s := by omega
                have hxs : IntKind.i64.wrap ((s : Int) + (q : Int)) = (s : Int) + q := IntWalk.i64_in _ (by omega)
                have etn : ((s : Int) + (q : Int)).toNat = s + q := by omega
                clear ht ht' htb h1 hor hq hnx hEx
                go_wp2_with fail
                go_round
                case rel => exact ⟨i + 1, by omega, by go_num⟩
                case measure => simp [intOf] <;> omega
        · obtain rfl : k = m := by omega
          have hlq := bestQ_len g k k
          have hF : NewInts w (bestQ g k k) (.returned (.slice aq k cq)) wr := ⟨aq, cq, by rw [hlq], by rw [hlq]; exact own_mono hop (Below.next hbw2 hbrU).size, Below.next (Below.next hbw2 hbrU) hbr2⟩
          have HF := Lib.hid hF
          clear hF hop i1 i2 i4 i5 hlq
          go_wp2_with fail
          go_ret
          exact HF.out
    · obtain ⟨s, rfl⟩ : ∃ s, k = s + 1 := ⟨k - 1, by omega⟩
      have es : (((s + 1 : Nat) : Int) - 1) = s := by omega
      rw [es]
      have hsk : (s : Int) < K := by omega
      have hs0 : (0 : Int) ≤ s := by omega
      have hsK : s < K := by omega
      have hgs := Hg.out s hsK
      have hEs := HEq.out s hsK
      obtain ⟨hblE, hmineE⟩ := Bools.own hop
      have hpl9' := hblE.pl
      have cE := hblE.cell s hsK
      have fE := (hmineE (by omega)).2 s hsK
      have hB9 := (hmineE (by omega)).1
      have heq0 : ((s : Int) == (K : Int) - 1) = decide (s = K - 1) := by
        by_cases h : s = K - 1
        · have : ((s : Int) == (K : Int) - 1) = true := by simp; omega
          rw [this]; simp [h]
        · have : ((s : Int) == (K : Int) - 1) = false := by simp; omega
          rw [this]; simp [h]
      have hop0 := own_set hop s hsK (.bool (decide (s = K - 1)))
      rw [← List.map_set] at hop0
      have hbr0 := hbr.setCell (p := ⟨ablk a9, aoff a9 + s, none⟩) hB9 (.bool (decide (s = K - 1)))
      generalize decide (s = K - 1) = v0 at *
      have HEs := Lib.hid hEs
      have Hgs := Lib.hid hgs
      clear hEs hgs hk0 hblE hmineE
      go_wp2_with fail
      go_loopw [9] (fun iv wx => ∃ (i : Nat) (v : Bool), i ≤ m ∧ iv = .int .i64 i ∧ Hid (v = (v0 || (List.range i).any (nextB g m s))) ∧ wx.ownsRow w2.heap.size 4 1 (.slice a9 K K) K (((eL (endE g m) K (s + 1)).set s v).map Value.bool) ∧ Below w2.heap.size w2 wx) (fun iv _ => m - (intOf iv).toNat)
      case atStart => exact ⟨0, v0, Nat.zero_le _, rfl, by show _ = _; simp, hop0, hbr0⟩
      case round =>
        clear hop hbr hop0 hbr0 cE fE hB9 heq0
        obtain ⟨i, v, hi', rfl, hv, hop, hbr⟩ := hrel
        obtain ⟨hbl, hmine⟩ := Bools.own hop
        have cs := hbl.cell s hsK
        rw [nthB_set _ _ _ _ (by rw [eL_length]; exact hsK), if_pos rfl] at cs
        have c3 := (x2.keep hbr).cell 3 rfl
        have cd := (hI2.keep hbr).cell s hsK
        have hf9 := (hmine (by omega)).2 s hsK
        have hB9 := (hmine (by omega)).1
        have hfin : (v && g s) = endE g m s → ∀ z, z = (v && g s) → (wr.setCell ⟨ablk a9, aoff a9 + s, none⟩ (.bool z)).ownsRow w2.heap.size 4 1 (.slice a9 K K) K ((eL (endE g m) K s).map Value.bool) := fun e z hz => by
          have h := own_set hop s hsK (.bool z)
          rw [← List.map_set, List.set_set] at h
          rw [← eL_set (endE g m) hsK, ← e, ← hz]; exact h
        have Hfin := Lib.hid hfin
        clear hfin
        have hgs := Hgs.out
        obtain ⟨d9, hd9⟩ : ∃ d, nth (cnL K f) s = d := ⟨_, rfl⟩
        rw [hd9] at cd hgs
        have hgs2 := Lib.hid hgs
        clear hd9 hgs
        by_cases hli : i < m ∧ v = false
        · obtain ⟨hli, rfl⟩ := hli
          have hand := and1_i64 s i (by omega)
          have htb := testBit_div s i
          by_cases ht : s.testBit i = true
          · have h1 : s / 2 ^ i % 2 = 1 := by rw [ht] at htb; simpa using htb.symm
            rw [h1] at hand
            have Hv2 : Hid (false = (v0 || (List.range (i + 1)).any (nextB g m s))) := by
              show _ = _
              rw [List.range_succ, List.any_append, ← Bool.or_assoc, ← hv.out]
              simp [nextB, ht]
            clear ht htb h1 hv
            go_wp2_with fail
            go_roundw
            case rel =>
              have h := own_set hop s hsK (.bool false)
              rw [← List.map_set, List.set_set] at h
              exact ⟨i + 1, false, by omega, by go_num, Hv2.out, h, hbr.setCell hB9 _⟩
            case measure => simp [intOf] <;> omega
          · have ht' : s.testBit i = false := by simpa using ht
            have h1 : s / 2 ^ i % 2 = 0 := by
              have h2 := Nat.mod_two_eq_zero_or_one (s / 2 ^ i)
              have h3 : ¬ s / 2 ^ i % 2 = 1 := fun h => by rw [h] at htb; simp at htb; exact ht htb
              omega
            rw [h1] at hand
            have hpw := pow_i64 (p := i) (by omega)
            have hor := or_add i s ht'
            have hxb : s ||| 2 ^ i < K := by rw [← HK.out]; exact or_bd (by rw [HK.out]; exact hsK) hli
            have hxg := (or_sub ht').2.2
            have cx := hbl.cell (s ||| 2 ^ i) hxb
            rw [nthB_eL_set (endE g m) (s + 1) false hsK hxb (by omega), show decide (s + 1 ≤ s ||| 2 ^ i) = true by simp; omega, Bool.true_and] at cx
            have Hv2 : Hid (endE g m (s ||| 2 ^ i) = (v0 || (List.range (i + 1)).any (nextB g m s))) := by
              show _ = _
              rw [List.range_succ, List.any_append, ← Bool.or_assoc, ← hv.out]
              simp [nextB, ht']
            rw [hor] at hxb cx Hv2
            obtain ⟨q, hq⟩ : ∃ q, 2 ^ i = q := ⟨_, rfl⟩
            rw [hq] at hpw hxb cx Hv2
            obtain ⟨v2, hv2⟩ : ∃ v2, endE g m (s + q) = v2 := ⟨_, rfl⟩
            rw [hv2] at cx Hv2
            have hxk : (s : Int) + q < K := by omega
            have h0x : (0 : Int) ≤ (s : Int) + q := by omega
            have hxs : IntKind.i64.wrap ((s : Int) + (q : Int)) = (s : Int) + q := IntWalk.i64_in _ (by omega)
            have etn : ((s : Int) + (q : Int)).toNat = s + q := by omega
            clear ht ht' htb h1 hv hor hv2 hxg hq
            go_wp2_with fail
            go_roundw
            case rel =>
              have h := own_set hop s hsK (.bool v2)
              rw [← List.map_set, List.set_set] at h
              exact ⟨i + 1, v2, by omega, by go_num, Hv2.out, h, hbr.setCell hB9 _⟩
            case measure => simp [intOf] <;> omega
        · have hE : (v && g s) = endE g m s := by
            rw [HEs.out, hv.out, Bool.and_comm]
            congr 1
            by_cases hlm : i < m
            · have hvt : v = true := by cases v; exact absurd ⟨hlm, rfl⟩ hli; rfl
              have h1 := hv.out
              rw [hvt] at h1
              rw [← h1]
              symm
              rcases Bool.eq_false_or_eq_true v0 with h0 | h0
              · rw [h0]; rfl
              · rw [h0, Bool.false_or] at h1 ⊢
                have h2 := h1.symm
                rw [List.any_eq_true] at h2 ⊢
                obtain ⟨q, hq, h3⟩ := h2
                exact ⟨q, List.mem_range.2 (by have := List.mem_range.1 hq; omega), h3⟩
            · have : i = m := by omega
              rw [this]
          have Hop := Lib.hid (Hfin.out hE)
          cases v
          · have him : i = m := by
              apply Classical.byContradiction
              intro h
              exact hli ⟨by omega, rfl⟩
            subst him
            clear hv hop hE hli
            go_wp2_with fail
            go_roundw
            case rel => exact ⟨s, by omega, by go_num, Hop.out false (by simp), hbr.setCell hB9 _⟩
            case measure => simp [intOf] <;> omega
          · clear hv hop hE hli
            by_cases hlm : i < m
            · have hd : g s = decide (d9 ≤ b) := hgs2.out
              go_wp2_with fail
              go_roundw
              case rel => exact ⟨s, by omega, by go_num, Hop.out _ (by rw [hgs2.out]; rfl), hbr.setCell hB9 _⟩
              case measure => simp [intOf] <;> omega
            · obtain rfl : i = m := by omega
              go_wp2_with fail
              go_roundw
              case rel => exact ⟨s, by omega, by go_num, Hop.out _ (by rw [hgs2.out]; rfl), hbr.setCell hB9 _⟩
              case measure => simp [intOf] <;> omega
end

end Go.Proofs.Ytnielheglicbmaa
