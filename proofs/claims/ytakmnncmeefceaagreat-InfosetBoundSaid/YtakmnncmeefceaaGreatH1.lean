/- Sorting by insertion (plain law). -/
import Derived.Test.YtakmnncmeefceaaGreatG25
namespace Go.Proofs.YtakmnncmeefceaaGreat
set_option linter.unusedVariables false
set_option linter.unusedSimpArgs false
set_option linter.unusedSectionVars false

/- Sorting by insertion (plain law). -/
section
def swp (X : List Int) (j : Nat) : List Int := (X.set j (nth X (j - 1))).set (j - 1) (nth X j)
theorem swp_len (X : List Int) (j : Nat) : (swp X j).length = X.length := by simp [swp]
theorem swp_nth {X : List Int} {j : Nat} (h0 : 0 < j) (hj : j < X.length) (i : Nat) : nth (swp X j) i = if i = j - 1 then nth X j else if i = j then nth X (j - 1) else nth X i := by
  unfold swp
  rw [nth_set _ _ _ _ (by simp; omega), nth_set _ _ _ _ hj]
theorem swp_perm {X : List Int} {j : Nat} (h0 : 0 < j) (hj : j < X.length) : (swp X j).Perm X := by
  obtain ⟨A, u, v, C, rfl, hA⟩ : ∃ A u v C, X = A ++ u :: v :: C ∧ A.length + 1 = j := by
    refine ⟨X.take (j - 1), X[j - 1], X[j], X.drop (j + 1), ?_, by rw [List.length_take]; omega⟩
    have h1 : X.drop (j - 1) = X[j - 1] :: X.drop j := by
      rw [List.drop_eq_getElem_cons (by omega)]
      congr 2; omega
    rw [← List.drop_eq_getElem_cons hj, ← h1, List.take_append_drop]
  subst hA
  have h1 : nth (A ++ u :: v :: C) A.length = u := by unfold nth; simp
  have h2 : nth (A ++ u :: v :: C) (A.length + 1) = v := by unfold nth; simp [List.getElem?_append]
  have h3 : swp (A ++ u :: v :: C) (A.length + 1) = A ++ v :: u :: C := by
    unfold swp
    rw [Nat.add_sub_cancel, h1, h2]
    simp [List.set_append]
  rw [h3]
  exact List.Perm.append_left A (List.Perm.swap u v C)

/-- the first k are in order -/
def SrtK (X : List Int) (k : Nat) : Prop := ∀ p q, p < q → q < k → nth X p ≤ nth X q
/-- the first i + 1 are in order but for the entry at j -/
def SrtJ (X : List Int) (i j : Nat) : Prop := ∀ p q, p < q → q ≤ i → q ≠ j → nth X p ≤ nth X q
theorem SrtK.start {X : List Int} {i : Nat} (h : SrtK X i) : SrtJ X i i := fun p q h1 h2 h3 => h p q h1 (by omega)
theorem SrtJ.step {X : List Int} {i j : Nat} (h : SrtJ X i j) (h0 : 0 < j) (hji : j ≤ i) (hj : j < X.length) (hlt : nth X j < nth X (j - 1)) : SrtJ (swp X j) i (j - 1) := fun p q h1 h2 h3 => by
  rw [swp_nth h0 hj, swp_nth h0 hj]
  by_cases e1 : q = j
  · subst e1
    rw [if_neg h3, if_pos rfl]
    by_cases e2 : p = q - 1
    · rw [if_pos e2]; omega
    · rw [if_neg e2, if_neg (by omega)]
      exact h p (q - 1) (by omega) (by omega) (by omega)
  · rw [if_neg h3, if_neg e1]
    by_cases e2 : p = j - 1
    · rw [if_pos e2]
      exact h j q (by omega) h2 e1
    · rw [if_neg e2]
      by_cases e3 : p = j
      · rw [if_pos e3]
        exact h (j - 1) q (by omega) h2 e1
      · rw [if_neg e3]
        exact h p q h1 h2 e1
theorem SrtJ.done {X : List Int} {i j : Nat} (h : SrtJ X i j) (hji : j ≤ i) (hd : j = 0 ∨ nth X (j - 1) ≤ nth X j) : SrtK X (i + 1) := fun p q h1 h2 => by
  by_cases e : q = j
  · subst e
    rcases hd with hd | hd
    · omega
    · by_cases e2 : p = q - 1
      · rw [e2]; exact hd
      · exact Int.le_trans (h p (q - 1) (by omega) (by omega) (by omega)) hd
  · exact h p q h1 (by omega) e
theorem SrtK.sort {X Q : List Int} {k : Nat} (h : SrtK X k) (hk : X.length ≤ k) (hp : X.Perm Q) : X = sortL Q := by
  refine sortL_unique ?_ hp
  rw [List.pairwise_iff_getElem]
  intro i j hi hj hij
  have := h i j hij (by omega)
  rwa [nth_getElem hi, nth_getElem hj] at this
end

end Go.Proofs.YtakmnncmeefceaaGreat
