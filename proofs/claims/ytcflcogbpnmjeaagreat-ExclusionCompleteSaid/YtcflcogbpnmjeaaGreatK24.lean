/- Plain: the shapes along light of the package exclusion. -/
import Derived.Test.YtcflcogbpnmjeaaGreatK22
namespace Go.Proofs.YtcflcogbpnmjeaaGreat
set_option linter.unusedVariables false
set_option linter.unusedSimpArgs false
set_option linter.unusedSectionVars false

/- Plain: the shapes along light of the package exclusion. -/
section
open Go.RowKit

theorem flip_top {L : List (List Int)} {t q i : Nat} (ht : t < L.length) (hq : q < L.length) (hz : nth (nthR L q) i ≠ 0) : nth (nthR (swapRow L t q) t) i ≠ 0 := by
  rw [nthR_swap _ _ _ _ ht hq, flipN]
  by_cases e : t = q
  · rw [if_pos e, e]; exact hz
  · rw [if_neg e, if_pos rfl]; exact hz
theorem find_lt {L : List (List Int)} {i t : Nat} (ht : t ≤ L.length) (h : findRow L i t ≠ L.length) : t ≤ findRow L i t ∧ findRow L i t < L.length ∧ nth (nthR L (findRow L i t)) i ≠ 0 := by
  have h1 := findRow_bd (c := i) ht
  refine ⟨h1.1, by omega, ?_⟩
  unfold findRow
  refine findTo_stop L i _ _ ?_
  have : findRow L i t < L.length := by omega
  unfold findRow at this
  omega
theorem lgtPiv_rws {O : FOps} {El : Int → Prop} {m : Nat} (hO : FCl O El) {L : List (List Int)} (hL : Rws El m L) {t q i : Nat} (ht : t < L.length) (hq : q < L.length) (hi : i < m) (hz : nth (nthR L q) i ≠ 0) : Rws El m (lgtPiv O L t q i) := by
  unfold lgtPiv
  have hs := hL.swap ht hq
  have hr := hs.row (i := t) (by rw [swapRow_length]; exact ht)
  have hn := flip_top ht hq hz
  refine Rws.clr hO (hs.set t ⟨by rw [List.length_map]; exact hr.1, fun x hx => ?_⟩) (by rw [List.length_set, swapRow_length]; exact ht) hi _ (by rw [List.length_set, swapRow_length]; exact Nat.le_refl _)
  obtain ⟨x0, hx0, rfl⟩ := List.mem_map.1 hx
  exact hO.mul _ _ (hO.inv _ (hr.2 _ (nth_mem (by rw [hr.1]; exact hi))) hn) (hr.2 _ hx0)
theorem lgt_ok {O : FOps} {El : Int → Prop} {m : Nat} (hO : FCl O El) {L : List (List Int)} (hL : Rws El m L) {y t : List Int} (hy : y.length = m ∧ ∀ x ∈ y, El x) (hT : ∀ j, j < t.length → (nth t j).toNat < m) :
    ∀ k, k ≤ t.length → Rws El m (lgtTo O L y t k).rows ∧ ((lgtTo O L y t k).sum.length = m ∧ ∀ x ∈ (lgtTo O L y t k).sum, El x) ∧ (lgtTo O L y t k).top ≤ (lgtTo O L y t k).rows.length
  | 0, _ => ⟨hL, hy, Nat.zero_le _⟩
  | k + 1, hk => by
    obtain ⟨h1, h2, h3⟩ := lgt_ok hO hL hy hT k (by omega)
    have hi := hT k (by omega)
    rw [lgtTo, lgtStep]
    generalize lgtTo O L y t k = st at *
    split
    · exact ⟨h1, h2, h3⟩
    · rename_i hne
      obtain ⟨a1, a2, a3⟩ := find_lt h3 hne
      have hp := lgtPiv_rws hO h1 (t := st.top) (by omega) a2 hi a3
      have hr := hp.row (i := st.top) (by rw [lgtPiv_length]; omega)
      refine ⟨hp, ⟨?_, ?_⟩, ?_⟩
      · dsimp only
        rw [clrS_length _ _ _ _ (by rw [hr.1, h2.1])]; exact h2.1
      · exact clrS_el hO h2.2 hr.2 (by rw [hr.1, h2.1]) (by rw [h2.1]; exact hi)
      · dsimp only
        rw [lgtPiv_length]; omega
end

end Go.Proofs.YtcflcogbpnmjeaaGreat
