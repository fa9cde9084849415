/- InfosetBound: the statement. -/
import Derived.Test.YtakmnncmeefceaaGreatH4
import Derived.Test.YtakmnncmeefceaaGreatG11
import Derived.Test.YtakmnncmeefceaaGreatG20
import Derived.Test.YtakmnncmeefceaaGreatG27
import Derived.Test.YtakmnncmeefceaaGreatG23
import Derived.Test.YtakmnncmeefceaaGreatG24
import Derived.Test.YtakmnncmeefceaaGreatG8
import Derived.Test.YtakmnncmeefceaaGreatH3
import Derived.Test.YtakmnncmeefceaaGreatG30
import Derived.Test.YtakmnncmeefceaaGreatG29
import Derived.Test.YtakmnncmeefceaaGreatRows
namespace Go.Proofs.YtakmnncmeefceaaGreat
set_option linter.unusedVariables false
set_option linter.unusedSimpArgs false
set_option linter.unusedSectionVars false

/- Information sets are bases (plain laws): greedy sets are information sets, and exchanges exist. -/
section
section
variable {O : FOps} {El : Int → Prop} {m : Nat} {L : List (List Int)}
theorem rkQ_out (F : Fld O El) (hL : Rws El m L) {Q : List Int} {x : Int} (h : ¬ clV O El L.length (colS L) (gA Q) x.toNat) : rkQ O L (Q ++ [x]) = rkQ O L Q + 1 := by
  have h1 := rkQ_rk F hL (Q ++ [x])
  rw [gA_snoc] at h1
  exact h1.uniq (Rk.ind _ h (rkQ_rk F hL Q))
theorem rkQ_step (F : Fld O El) (hL : Rws El m L) (Q : List Int) (x : Int) : rkQ O L (Q ++ [x]) ≤ rkQ O L Q + 1 := by
  have h1 := rkQ_rk F hL (Q ++ [x])
  rw [gA_snoc] at h1
  exact (rk_step (rkQ_rk F hL Q) h1).1
theorem isB_iff {Q : List Int} : isB O L Q = true ↔ Q.length = L.length ∧ rkQ O L Q = Q.length := by
  unfold isB rkQ
  simp
theorem exch_ex (F : Fld O El) (hL : Rws El m L) {A B : List Int} {t : Nat} {i : Int} (hA : isB O L A = true) (hB : isB O L B = true) (hnA : A.Nodup) (ht : t < A.length) (hi : nth A t = i) (hiB : ¬ i ∈ B) : ∃ j ∈ B, exP O L A t j = true := by
  refine Classical.byContradiction fun hno => ?_
  have hno' : ∀ j ∈ B, exP O L A t j = false := fun j hj => by
    by_cases h : exP O L A t j = true
    · exact absurd ⟨j, hj, h⟩ hno
    · simpa using h
  obtain ⟨A', hA'⟩ : ∃ A', A.filter (fun x => decide (x ≠ i)) = A' := ⟨_, rfl⟩
  have hp : ∀ j, (A' ++ [j]).Perm (A.set t j) := fun j => by rw [← hA']; exact filt_perm hnA ht hi j
  have hset : A.set t i = A := by rw [← hi, nth_getElem ht]; exact List.set_getElem_self ht
  have hpA := hp i
  rw [hset] at hpA
  obtain ⟨ha1, ha2⟩ := isB_iff.1 hA
  obtain ⟨hb1, hb2⟩ := isB_iff.1 hB
  have hl : A'.length + 1 = L.length := by
    have := hpA.length_eq
    rw [List.length_append] at this
    simp at this; omega
  have hr1 := rkQ_step F hL A' i
  rw [rkQ_perm F hL hpA] at hr1
  have hr2 : rkQ O L A' ≤ A'.length := grS_len _ _ _
  have hcl : ∀ j ∈ B, clV O El L.length (colS L) (gA A') j.toNat := fun j hj => by
    by_cases hjA : j ∈ A
    · refine (col_clo F hL).mem _ _ (mem_gA.2 ⟨j, ?_, rfl⟩)
      rw [← hA', List.mem_filter]
      exact ⟨hjA, by simpa using fun e : j = i => hiB (e ▸ hj)⟩
    · refine Classical.byContradiction fun hc => ?_
      have h1 := hno' j hj
      unfold exP at h1
      simp only [hjA, not_false_eq_true, decide_true, Bool.true_and] at h1
      rw [← isB_perm F hL (hp j)] at h1
      have h2 := rkQ_out F hL hc
      have h3 : isB O L (A' ++ [j]) = true := isB_iff.2 ⟨by rw [List.length_append]; simp; omega, by rw [h2, List.length_append]; simp; omega⟩
      rw [h1] at h3; exact absurd h3 (by decide)
  have h4 := rkQ_span F hL (Q := B) (Q' := A') fun x hx => by
    obtain ⟨y, hy, rfl⟩ := mem_gA.1 hx
    exact hcl y hy
  omega
/-- the greedy choice over all positions -/
theorem gr_basis (F : Fld O El) (hL : Rws El m L) (hfull : Rk (clV O El L.length (colS L)) (List.range m) L.length) {Q : List Int} (hQ : InN m Q) (hall : ∀ x, x < m → (x : Int) ∈ Q) : isB O L (grS O L Q) = true := by
  have h1 : (grS O L Q).length = L.length := by
    refine (rkQ_rk F hL Q).same (col_clo F hL) hfull fun x => ?_
    rw [mem_gA, List.mem_range]
    constructor
    · rintro ⟨y, hy, rfl⟩
      obtain ⟨j, hj, rfl⟩ := List.mem_iff_getElem.1 hy
      have := hQ j hj
      rw [nth_getElem hj] at this
      omega
    · intro hx
      exact ⟨x, hall x hx, by simp⟩
  have h2 := (gr_out F hL Q Q.length).1
  exact isB_iff.2 ⟨h1, (rkQ_rk F hL (grS O L Q)).uniq h2⟩
end
/-- a code's rows are independent -/
theorem code_full {P M : Int} {mod : List Int} {m : Nat} {L : List (List Int)} (hE : codeE P M mod m L = 0) : Rk (clV (tblOf P M.toNat mod).ops (tblOf P M.toNat mod).El L.length (colS L)) (List.range m) L.length := by
  obtain ⟨N', e, hm1, hm64, F, hR⟩ := codeE_fld hE
  obtain rfl : m = N' := by omega
  have h6 := (spaceE_zero (codeE_zero hE).2.2.2).2
  rw [Int.toNat_natCast] at h6
  have hcan : canO (tblOf P M.toNat mod).ops m L = L := h6
  have h := canO_rk F hR
  rwa [hcan] at h
theorem grS_nodup {O : FOps} {L : List (List Int)} {Q : List Int} (h : Q.Nodup) : (grS O L Q).Nodup := by
  have key : ∀ k, k ≤ Q.length → (grTo O L Q k).2.Nodup ∧ ∀ x ∈ (grTo O L Q k).2, x ∈ Q.take k := fun k => by
    induction k with
    | zero => intro _; exact ⟨by simp [grTo], fun x hx => by simp [grTo] at hx⟩
    | succ k ih =>
      intro hk
      obtain ⟨h1, h2⟩ := ih (by omega)
      have e : Q.take (k + 1) = Q.take k ++ [nth Q k] := by rw [List.take_succ_eq_append_getElem (by omega), nth_getElem (by omega)]
      rw [grTo]
      split
      · have hn : ¬ nth Q k ∈ Q.take k := by
          have h3 : (Q.take (k + 1)).Nodup := (List.take_sublist _ _).nodup h
          rw [e, List.nodup_append] at h3
          intro hm
          exact h3.2.2 _ hm _ (by simp) rfl
        refine ⟨?_, fun x hx => ?_⟩
        · rw [List.nodup_append]
          exact ⟨h1, by simp, fun x hx y hy => by rw [List.mem_singleton] at hy; subst hy; exact fun e => hn (e ▸ h2 _ hx)⟩
        · rw [e, List.mem_append]
          rcases List.mem_append.1 hx with hx | hx
          · exact .inl (h2 x hx)
          · exact .inr hx
      · exact ⟨h1, fun x hx => by rw [e, List.mem_append]; exact .inl (h2 x hx)⟩
  exact (key _ (Nat.le_refl _)).1
/-- all positions, in some order -/
def PermN (m : Nat) (Q : List Int) : Prop := Q.Perm ((List.range m).map Int.ofNat)
theorem PermN.mem {m : Nat} {Q : List Int} (h : PermN m Q) {x : Int} : x ∈ Q ↔ ∃ j : Nat, j < m ∧ x = j := by
  rw [h.mem_iff, List.mem_map]
  constructor
  · rintro ⟨j, hj, rfl⟩; exact ⟨j, List.mem_range.1 hj, rfl⟩
  · rintro ⟨j, hj, rfl⟩; exact ⟨j, List.mem_range.2 hj, rfl⟩
theorem PermN.len {m : Nat} {Q : List Int} (h : PermN m Q) : Q.length = m := by rw [h.length_eq]; simp
theorem PermN.nodup {m : Nat} {Q : List Int} (h : PermN m Q) : Q.Nodup := by
  refine h.nodup_iff.2 ?_
  rw [List.nodup_iff_pairwise_ne, List.pairwise_map]
  exact List.nodup_range.imp fun h e => h (Int.ofNat.inj e)
theorem PermN.inN {m : Nat} {Q : List Int} (h : PermN m Q) : InN m Q := fun j hj => by
  obtain ⟨i, hi, e⟩ := h.mem.1 (nth_mem hj)
  omega
section
variable {P M : Int} {mod : List Int} {m : Nat} {L : List (List Int)}
theorem perm_greE (hE : codeE P M mod m L = 0) {Q : List Int} (hQ : PermN m Q) : greE P M mod m L Q = 0 := by
  have h : okSet m (sortL Q) = true := okSet_sort hQ.nodup fun x hx => by
    obtain ⟨j, hj, rfl⟩ := hQ.mem.1 hx
    omega
  rw [greE, rankE, if_pos hE, setsE_one, if_pos h]
/-- what the greedy choice over all positions is -/
theorem perm_set (hE : codeE P M mod m L = 0) {Q : List Int} (hQ : PermN m Q) :
    okSet m (sortL (grS (tblOf P M.toNat mod).ops L Q)) = true ∧ isB (tblOf P M.toNat mod).ops L (sortL (grS (tblOf P M.toNat mod).ops L Q)) = true := by
  obtain ⟨N', e, hm1, hm64, F, hR⟩ := codeE_fld hE
  obtain rfl : m = N' := by omega
  refine ⟨okSet_sort (grS_nodup hQ.nodup) fun x hx => ?_, ?_⟩
  · obtain ⟨j, hj, rfl⟩ := hQ.mem.1 (grTo_sub _ L Q _ (Nat.le_refl _) x hx)
    omega
  · rw [isB_perm F hR (sortL_perm _)]
    exact gr_basis F hR (code_full hE) hQ.inN fun x hx => hQ.mem.2 ⟨x, hx, rfl⟩
theorem set_rankE (hE : codeE P M mod m L = 0) {Q : List Int} (hQ : okSet m Q = true) : rankE P M mod m L Q = 0 := by rw [rankE, if_pos hE, setsE_one, if_pos hQ]
theorem set_isV (hE : codeE P M mod m L = 0) {Q : List Int} (hQ : okSet m Q = true) : isV P M mod m L Q = isB (tblOf P M.toNat mod).ops L Q := by
  unfold isV isB
  rw [set_rankE hE hQ]
  by_cases h1 : (grS (tblOf P M.toNat mod).ops L Q).length = Q.length
  · rw [h1]; simp
  · simp [h1]
/-- the exchange -/
theorem exV_ok (hE : codeE P M mod m L = 0) {A B : List Int} (hA : okSet m A = true) (hB : okSet m B = true) (bA : isB (tblOf P M.toNat mod).ops L A = true) (bB : isB (tblOf P M.toNat mod).ops L B = true) {i : Int} (hi : i ∈ A) (hiB : ¬ i ∈ B) :
    ∃ j, exV P M mod m L A B i = (j, 0) ∧ ¬ j ∈ A ∧ j ∈ B ∧ okSet m (sortL (A.filter (fun x => decide (x ≠ i)) ++ [j])) = true ∧ isB (tblOf P M.toNat mod).ops L (sortL (A.filter (fun x => decide (x ≠ i)) ++ [j])) = true := by
  obtain ⟨N', e, hm1, hm64, F, hR⟩ := codeE_fld hE
  obtain rfl : m = N' := by omega
  obtain ⟨t, hix, htl, hti⟩ := ix_in hi
  have htx : (A.findIdx fun x => x == i) = t := by rw [ixV, if_pos hi] at hix; omega
  have hn := okSet_nodup hA
  obtain ⟨j0, hj0, he0⟩ := exch_ex F hR bA bB hn htl hti hiB
  obtain ⟨j, hj⟩ : ∃ j, B.find? (exP (tblOf P M.toNat mod).ops L A t) = some j := by
    cases h : B.find? (exP (tblOf P M.toNat mod).ops L A t) with
    | some j => exact ⟨j, rfl⟩
    | none =>
      rw [List.find?_eq_none] at h
      exact absurd he0 (h j0 hj0)
  have hjp := List.find?_some hj
  have hjB := List.mem_of_find?_eq_some hj
  rw [exP_filt F hR hn htl hti] at hjp
  simp only [Bool.and_eq_true, decide_eq_true_eq] at hjp
  have hs : setsE (m : Int) [A, B] = 0 := by simp [setsE, hA, hB]
  have hk : rk2E P M mod m L A B = 0 := by rw [rk2E, if_pos hE, hs]
  refine ⟨j, ?_, hjp.1, hjB, okSet_sort ?_ fun x hx => ?_, hjp.2⟩
  · rw [exV, hk, bA, bB, htx, hj, if_neg (by decide), if_neg (by decide), if_neg (by simpa using hi)]
  · rw [List.nodup_append]
    refine ⟨(List.filter_sublist).nodup hn, by simp, fun x hx y hy => ?_⟩
    rw [List.mem_singleton] at hy; subst hy
    intro e; subst e
    exact hjp.1 ((List.mem_filter.1 hx).1)
  · rcases List.mem_append.1 hx with hx | hx
    · have hx := (List.mem_filter.1 hx).1
      obtain ⟨k, hk, rfl⟩ := List.mem_iff_getElem.1 hx
      have := okSet_at hA hk
      rw [nth_getElem hk] at this
      exact ⟨this.1, this.2.1⟩
    · rw [List.mem_singleton] at hx; subst hx
      obtain ⟨k, hk, e⟩ := List.mem_iff_getElem.1 hjB
      have := okSet_at hB hk
      rw [nth_getElem hk, e] at this
      exact ⟨this.1, this.2.1⟩
end
end

/- The family of a code (plain laws): its members are information sets with new positions, the positions left are zero columns, and the bound for the weight. -/
section
theorem grTo_mono (O : FOps) (L : List (List Int)) (Q : List Int) {k : Nat} : ∀ d, ∀ x ∈ (grTo O L Q k).2, x ∈ (grTo O L Q (k + d)).2
  | 0, x, hx => hx
  | d + 1, x, hx => by
    have h := grTo_mono O L Q d x hx
    rw [← Nat.add_assoc, grTo]
    split
    · exact List.mem_append.2 (.inl h)
    · exact h
theorem grTo_take (O : FOps) (L : List (List Int)) (Q : List Int) : ∀ k, k ≤ Q.length → ∀ x ∈ (grTo O L Q k).2, x ∈ Q.take k
  | 0, _, x, hx => by simp [grTo] at hx
  | k + 1, hk, x, hx => by
    have e : Q.take (k + 1) = Q.take k ++ [nth Q k] := by rw [List.take_succ_eq_append_getElem (by omega), nth_getElem (by omega)]
    rw [e, List.mem_append]
    rw [grTo] at hx
    split at hx
    · rcases List.mem_append.1 hx with hx | hx
      · exact .inl (grTo_take O L Q k (by omega) x hx)
      · exact .inr hx
    · exact .inl (grTo_take O L Q k (by omega) x hx)
theorem newF_none {U S : List Int} (h : newF U S S.length = 0) : ∀ x ∈ S, x ∈ U := fun x hx => by
  rw [newF_count _ _ _ (Nat.le_refl _), List.take_of_length_le (Nat.le_refl _)] at h
  have h0 : S.countP (fun x => decide (¬ x ∈ U)) = 0 := by omega
  rw [List.countP_eq_zero] at h0
  have := h0 x hx
  simpa using this
theorem ordF_perm (m : Nat) (U : List Int) : PermN m (ordF m U) := by
  have h1 : (ordF m U).Nodup := by
    rw [ordF, List.nodup_append]
    refine ⟨(frTo_pair false U m).imp fun h => by omega, (frTo_pair true U m).imp fun h => by omega, fun x hx y hy e => ?_⟩
    subst e
    obtain ⟨j, _, e1, h1⟩ := (mem_frTo m).1 hx
    obtain ⟨i, _, e2, h2⟩ := (mem_frTo m).1 hy
    obtain rfl : i = j := by omega
    rw [h1] at h2; exact absurd h2 (by decide)
  refine (List.perm_ext_iff_of_nodup h1 ?_).2 fun x => ?_
  · rw [List.nodup_iff_pairwise_ne, List.pairwise_map]
    exact List.nodup_range.imp fun h e => h (Int.ofNat.inj e)
  · rw [mem_ordF, List.mem_map]
    constructor
    · rintro ⟨j, hj, rfl⟩; exact ⟨j, List.mem_range.2 hj, rfl⟩
    · rintro ⟨j, hj, rfl⟩; exact ⟨j, List.mem_range.1 hj, rfl⟩
section
variable {O : FOps} {El : Int → Prop} {m : Nat} {L : List (List Int)}
theorem cl_nil_zero (F : Fld O El) {x : Nat} (h : clV O El L.length (colS L) [] x) : ∀ i, i < L.length → nth (nthR L i) x = 0 := fun i hi => by
  have h1 := h _ (Lin.coord F hi) (by simp)
  rwa [nth_colS _ _ _ hi] at h1
theorem fam_end (F : Fld O El) (hL : Rws El m L) {U : List Int} (h : newF U (choF O L m U) (choF O L m U).length = 0) {j : Nat} (hj : j < m) (hjU : ¬ (j : Int) ∈ U) : ∀ i, i < L.length → nth (nthR L i) j = 0 := by
  have h1 := newF_none h
  have hk : (frTo false U m).length ≤ (ordF m U).length := by rw [ordF, List.length_append]; omega
  have htk : (ordF m U).take (frTo false U m).length = frTo false U m := by rw [ordF, List.take_left']; rfl
  have hnil : (grTo O L (ordF m U) (frTo false U m).length).2 = [] := by
    rw [List.eq_nil_iff_forall_not_mem]
    intro x hx
    have h2 := grTo_take O L (ordF m U) _ hk x hx
    rw [htk] at h2
    obtain ⟨i, _, rfl, h3⟩ := (mem_frTo m).1 h2
    have h4 := grTo_mono O L (ordF m U) ((ordF m U).length - (frTo false U m).length) _ hx
    rw [show (frTo false U m).length + ((ordF m U).length - (frTo false U m).length) = (ordF m U).length by omega] at h4
    have h5 := h1 _ h4
    simp at h3
    exact h3 h5
  have h6 := (gr_out F hL (ordF m U) (frTo false U m).length).2.2 j (by
    rw [mem_grL]
    have hm : (j : Int) ∈ frTo false U m := (mem_frTo m).2 ⟨j, hj, rfl, by simpa using hjU⟩
    obtain ⟨i, hi, e⟩ := List.mem_iff_getElem.1 hm
    refine ⟨i, hi, ?_⟩
    have e2 : nth (ordF m U) i = nth (frTo false U m) i := by rw [← htk, nth_take hi]
    rw [e2, nth_getElem hi, e]
    simp)
  rw [hnil] at h6
  exact cl_nil_zero F h6
/-- the members of a family, one behind the other -/
def chainF (O : FOps) (L : List (List Int)) (m : Nat) : List Int → List (List Int × Int) → Prop
  | U, [] => ∀ j, j < m → ¬ (j : Int) ∈ U → ∀ i, i < L.length → nth (nthR L i) j = 0
  | U, t :: T => okSet m t.1 = true ∧ isB O L t.1 = true ∧ 1 ≤ t.2 ∧ t.2 = newF U t.1 t.1.length ∧ chainF O L m (U ++ t.1) T
theorem fam_chain {P M : Int} {mod : List Int} (hE : codeE P M mod m L = 0) : ∀ (f : Nat) (U : List Int) (T0 : List (List Int × Int)), (frTo false U m).length < f →
    ∃ T, famGo (tblOf P M.toNat mod).ops L m f U T0 = T0 ++ T ∧ chainF (tblOf P M.toNat mod).ops L m U T ∧ T.length ≤ (frTo false U m).length
  | 0, _, _, h => by omega
  | f + 1, U, T0, h => by
    obtain ⟨N', e, hm1, hm64, F, hR⟩ := codeE_fld hE
    obtain rfl : m = N' := by omega
    rw [famGo]
    by_cases h0 : newF U (choF (tblOf P M.toNat mod).ops L m U) (choF (tblOf P M.toNat mod).ops L m U).length = 0
    · rw [if_pos h0]
      exact ⟨[], by simp, fun j hj hjU => fam_end F hR h0 hj hjU, by simp⟩
    · rw [if_neg h0]
      have hless := fam_less h0
      obtain ⟨T, h1, h2, h3⟩ := fam_chain hE f (U ++ sortL (choF (tblOf P M.toNat mod).ops L m U)) (T0 ++ [(sortL (choF (tblOf P M.toNat mod).ops L m U), newF U (choF (tblOf P M.toNat mod).ops L m U) (choF (tblOf P M.toNat mod).ops L m U).length)]) (by omega)
      obtain ⟨p1, p2⟩ := perm_set hE (ordF_perm m U)
      have hbd := newF_bd U (choF (tblOf P M.toNat mod).ops L m U) (choF (tblOf P M.toNat mod).ops L m U).length
      refine ⟨(sortL (choF (tblOf P M.toNat mod).ops L m U), newF U (choF (tblOf P M.toNat mod).ops L m U) (choF (tblOf P M.toNat mod).ops L m U).length) :: T, by rw [h1]; simp, ⟨p1, p2, by omega, ?_, h2⟩, by simp; omega⟩
      exact (newF_perm (sortL_perm _)).symm
theorem fam_all {P M : Int} {mod : List Int} (hE : codeE P M mod m L = 0) : chainF (tblOf P M.toNat mod).ops L m [] (famL (tblOf P M.toNat mod).ops L m) ∧ (famL (tblOf P M.toNat mod).ops L m).length ≤ m := by
  have hl : (frTo false [] m).length ≤ m := frTo_len _ _ _
  obtain ⟨T, h1, h2, h3⟩ := fam_chain hE (m + 1) [] [] (by omega)
  rw [famL, h1, List.nil_append]
  exact ⟨h2, by omega⟩
end
/-- weights -/
def wtL (x : List Int) : Nat := x.countP fun y => decide (y ≠ 0)
def wtU (x : List Int) (U : List Int) (m : Nat) : Nat := (List.range m).countP fun j => decide (nth x j ≠ 0 ∧ (j : Int) ∈ U)
theorem countP_point {p p' : Nat → Bool} {s : Nat} (h : ∀ j, j ≠ s → p j = p' j) : ∀ m, (List.range m).countP p' + (if s < m ∧ p s = true then 1 else 0) = (List.range m).countP p + (if s < m ∧ p' s = true then 1 else 0)
  | 0 => by simp
  | m + 1 => by
    have ih := countP_point h m
    rw [List.range_succ, List.countP_append, List.countP_append, List.countP_singleton, List.countP_singleton]
    by_cases e : s = m
    · subst e
      simp at ih
      by_cases h1 : p s = true <;> by_cases h2 : p' s = true <;> simp [h1, h2] <;> omega
    · have h3 := h m (fun e2 => e e2.symm)
      rw [h3]
      by_cases h4 : s < m
      · simp only [h4, show s < m + 1 by omega, true_and] at ih ⊢; omega
      · simp only [h4, show ¬ s < m + 1 by omega, false_and] at ih ⊢; simp at ih ⊢; omega
theorem wtU_one (x U : List Int) (m : Nat) {s : Int} (h0 : 0 ≤ s) (hm : s < m) : wtU x (U ++ [s]) m = wtU x U m + (if nth x s.toNat ≠ 0 ∧ ¬ s ∈ U then 1 else 0) := by
  have h := countP_point (p := fun j => decide (nth x j ≠ 0 ∧ (j : Int) ∈ U)) (p' := fun j => decide (nth x j ≠ 0 ∧ (j : Int) ∈ U ++ [s])) (s := s.toNat) (fun j hj => by
    have : ((j : Int) ∈ U ++ [s]) ↔ ((j : Int) ∈ U) := by
      rw [List.mem_append, List.mem_singleton]
      exact ⟨fun h => h.elim id fun e => absurd (by omega) hj, .inl⟩
    simp [this]) m
  have e : ((s.toNat : Nat) : Int) = s := by omega
  have hlt : s.toNat < m := by omega
  unfold wtU
  simp only [e, hlt, true_and, decide_eq_true_eq, List.mem_append, List.mem_singleton, or_true, and_true] at h
  have h' : (List.range m).countP (fun j => decide (nth x j ≠ 0 ∧ (j : Int) ∈ U ++ [s])) = (List.range m).countP (fun j => decide (nth x j ≠ 0 ∧ ((j : Int) ∈ U ∨ (j : Int) = s))) := by simp
  rw [h']
  by_cases h1 : nth x s.toNat = 0
  · simp [h1] at h ⊢; exact h
  · by_cases h2 : s ∈ U
    · simp [h1, h2] at h ⊢; omega
    · simp [h1, h2] at h ⊢; omega
theorem wtU_add (x : List Int) (m : Nat) : ∀ (S U : List Int), S.Nodup → (∀ s ∈ S, 0 ≤ s ∧ s < (m : Int)) → wtU x (U ++ S) m = wtU x U m + S.countP fun s => decide (nth x s.toNat ≠ 0 ∧ ¬ s ∈ U)
  | [], U, _, _ => by simp
  | s :: S, U, hn, hb => by
    rw [List.nodup_cons] at hn
    have h1 := hb s (List.mem_cons_self ..)
    have ih := wtU_add x m S (U ++ [s]) hn.2 fun y hy => hb y (List.mem_cons_of_mem _ hy)
    rw [List.append_assoc, List.singleton_append] at ih
    rw [ih, wtU_one x U m h1.1 h1.2, List.countP_cons]
    have e : S.countP (fun y => decide (nth x y.toNat ≠ 0 ∧ ¬ y ∈ U ++ [s])) = S.countP (fun y => decide (nth x y.toNat ≠ 0 ∧ ¬ y ∈ U)) := by
      refine List.countP_congr fun y hy => ?_
      have : y ≠ s := fun e => hn.1 (e ▸ hy)
      simp [this]
    rw [e]
    simp only [decide_eq_true_eq]
    omega
theorem wtU_le (x U : List Int) (m : Nat) (hx : x.length = m) : wtU x U m ≤ wtL x := by
  have h : wtL x = (List.range m).countP fun j => decide (nth x j ≠ 0) := by
    have e : x = (List.range m).map (nth x) := by
      refine List.ext_getElem (by simp [hx]) fun i h1 h2 => ?_
      rw [List.getElem_map, List.getElem_range, nth_getElem h1]
    conv => lhs; rw [wtL, e, List.countP_map]
    rfl
  rw [h]
  exact List.countP_mono_left fun j _ h => by simp at h ⊢; exact h.1
/-- each member adds to the weight -/
theorem chain_bound {O : FOps} {L : List (List Int)} {m : Nat} {x : List Int} {v : Int} : ∀ (T : List (List Int × Int)) (U : List Int), chainF O L m U T → (∀ t ∈ T, v < (wtL (pickL t.1 x) : Int)) →
    flTo L.length v (T.map (·.2)) T.length + wtU x U m ≤ (wtU x (U ++ (T.map (·.1)).flatten) m : Int)
  | [], U, _, _ => by simp [flTo]
  | t :: T, U, h, hw => by
    obtain ⟨h1, h2, h3, h4, h5⟩ := h
    have ih := chain_bound T (U ++ t.1) h5 fun y hy => hw y (List.mem_cons_of_mem _ hy)
    have hl : t.1.length = L.length := (isB_iff.1 h2).1
    have hin : ∀ s ∈ t.1, 0 ≤ s ∧ s < (m : Int) := fun s hs => by
      obtain ⟨k, hk, rfl⟩ := List.mem_iff_getElem.1 hs
      have := okSet_at h1 hk
      rw [nth_getElem hk] at this
      exact ⟨this.1, this.2.1⟩
    have ha := wtU_add x m t.1 U (okSet_nodup h1) hin
    have hwt := hw t (List.mem_cons_self ..)
    have hfl : ∀ (r : Int) (R : List Int), ∀ k, flTo L.length v (r :: R) (k + 1) = max 0 (v + 1 - (L.length - r)) + flTo L.length v R k := fun r R k => by
      induction k with
      | zero => simp [flTo, nth]
      | succ k ih => rw [flTo, ih, flTo]; simp [nth]; omega
    have hc : (wtL (pickL t.1 x) : Int) ≤ (t.1.countP fun s => decide (nth x s.toNat ≠ 0 ∧ ¬ s ∈ U) : Nat) + (L.length - t.2) := by
      have e1 : wtL (pickL t.1 x) = t.1.countP fun s => decide (nth x s.toNat ≠ 0) := by
        unfold wtL pickL; rw [List.countP_map]; rfl
      have e2 : t.2 = (t.1.countP (fun s => decide (¬ s ∈ U)) : Nat) := by
        rw [h4, newF_count _ _ _ (Nat.le_refl _), List.take_of_length_le (Nat.le_refl _)]
      have e3 : ∀ S : List Int, (S.countP fun s => decide (nth x s.toNat ≠ 0)) + S.countP (fun s => decide (¬ s ∈ U)) ≤ (S.countP fun s => decide (nth x s.toNat ≠ 0 ∧ ¬ s ∈ U)) + S.length := fun S => by
        induction S with
        | nil => simp
        | cons s S ih =>
          rw [List.countP_cons, List.countP_cons, List.countP_cons, List.length_cons]
          by_cases p1 : nth x s.toNat = 0 <;> by_cases p2 : s ∈ U <;> simp [p1, p2] at ih ⊢ <;> omega
      have := e3 t.1
      omega
    rw [List.map_cons, List.length_cons, hfl, List.map_cons, List.flatten_cons, ← List.append_assoc]
    omega
/-- the bound for the weight -/
theorem fam_bound {P M : Int} {mod : List Int} {m : Nat} {L : List (List Int)} (hE : codeE P M mod m L = 0) {x : List Int} (hx : x.length = m) {v : Int} (hv : 0 ≤ v ∧ v ≤ (L.length : Int)) (hl : L.length ≤ 64)
    (hw : ∀ t ∈ famL (tblOf P M.toNat mod).ops L m, v < (wtL (pickL t.1 x) : Int)) :
    ∃ f : Int, flV L.length ((famL (tblOf P M.toNat mod).ops L m).map (·.2)) v = (f, 0) ∧ f ≤ (wtL x : Int) := by
  obtain ⟨h1, h2⟩ := fam_all hE
  obtain ⟨m', e, hm1, hm64, _, _⟩ := codeE_fld hE
  generalize famL (tblOf P M.toNat mod).ops L m = T at *
  have hb := chain_bound T [] h1 hw
  have hle := wtU_le x ([] ++ (T.map (·.1)).flatten) m hx
  have hr : ∀ (T : List (List Int × Int)) (U : List Int), chainF (tblOf P M.toNat mod).ops L m U T → (T.map (·.2)).all (flQ L.length) = true := fun T => by
    induction T with
    | nil => intro U _; rfl
    | cons t T ih =>
      rintro U ⟨q1, q2, q3, q4, q5⟩
      have hbd := newF_bd U t.1 t.1.length
      have hl : t.1.length = L.length := (isB_iff.1 q2).1
      rw [List.map_cons, List.all_cons, ih _ q5, Bool.and_true]
      unfold flQ
      simp; omega
  refine ⟨flTo L.length v (T.map (·.2)) T.length, ?_, ?_⟩
  · rw [flV, if_pos, List.length_map]
    refine ⟨?_, hr T [] h1⟩
    unfold flB
    simp [List.length_map]
    omega
  · omega
end

/- The walk of matrix.Vec, at valid arguments. -/
section
open Go.RowKit

set_option maxRecDepth 100000 in
set_option maxHeartbeats 4000000 in
theorem vecM_any (P M : Int) (am : Option Addr) (mn cm : Nat) (mod : List Int) (ax : Option Addr) (cx : Nat) (x : List Int) (m : Nat) (a : Option Addr) (n c : Nat) (L : List (List Int)) (w : World) (hmod : Ints w am mn mod) (hx : Ints w ax n x) (hi : Mat w a n L)
    (hfB : fieldB P M mod = true) (hR : Rws (tblOf P M.toNat mod).El m L) (hxe : ∀ k, k < n → (tblOf P M.toNat mod).El (nth x k)) (hm1 : 1 ≤ m) (hm : m ≤ 64) (hn : n ≤ 256) :
    Calls Tryz.prog 56 #[.agg #[.int .i64 P, .int .i64 M, .slice am mn cm], .slice ax n cx, .agg #[.int .i64 m, .slice a n c]] w
      fun e w' => ∃ a1 c1, e = .returned (.tuple #[.slice a1 m c1, .int .i64 0]) ∧ Ints w' a1 m (cmbTo (tblOf P M.toNat mod).ops m x L n) ∧ Below w.heap.size w w' := by
  have hLl := hi.len
  have F := fieldB_fld hfB
  have hmE1 : matE (tblOf P M.toNat mod).q m L = 0 := (fmatE_zero (fmatE_mk hfB (show m ≤ 256 by omega) (show L.length ≤ 256 by omega) hR)).2
  have hel : elsE (tblOf P M.toNat mod).q x = 0 := by
    unfold elsE
    rw [if_pos]
    unfold elsQ isQ
    rw [List.all_eq_true]
    intro y hy
    obtain ⟨k, hk, rfl⟩ := List.mem_iff_getElem.1 hy
    have h1 := hxe k (by rw [← hx.len]; exact hk)
    rw [nth_getElem hk] at h1
    unfold Tbl.El at h1
    simp
    exact h1
  have hpla := hi.pl
  obtain ⟨G, hGG⟩ : ∃ G, tblOf P M.toNat mod = G := ⟨_, rfl⟩
  rw [hGG] at hR F hmE1 hxe hel ⊢
  have HK := Lib.hid (And.intro hfB (And.intro hR (And.intro hmE1 (And.intro hxe (And.intro F hel)))))
  have HGG := Lib.hid hGG
  clear hfB hR hmE1 hxe F hLl hGG hel
  go_enter Tryz.func56, Tryz.ntmps56
  go_wp2_with fail
  obtain ⟨W, hW⟩ : ∃ W : World, W = ((w.alloc (.cells #[.int .i64 P, .int .i64 M, .slice am mn cm] 24)).alloc (.cells #[.int .i64 m, .slice a n c] 62)).alloc (.cells #[.int .i64 m, .slice a n c] 62) := ⟨_, rfl⟩
  rw [← hW]
  have hbW : Below w.heap.size w W := by rw [hW]; exact below3 _ _ _ _
  have x1 : Box W (w.heap.size + 1) [.int .i64 m, .slice a n c] := by rw [hW]; exact (Box.new _ _ _ (by simp)).alloc _
  have q3 : ∀ i v, [Value.int .i64 m, .slice a n c][i]? = some v → W.cell? ⟨w.heap.size + 1 + 1, i, none⟩ = some v := fun i v hv => by
    have h : Box W (w.heap.size + 1 + 1) [.int .i64 m, .slice a n c] := by rw [hW]; exact Box.new _ _ _ (by simp)
    exact h.cell i hv
  have hMs : Mats W (some ⟨w.heap.size + 1 + 1, 0, none⟩) 1 [((m : Int), L)] := ⟨rfl, fun _ => rfl, by unfold maxLen; omega, fun i hi' => by
    have : i = 0 := by simp at hi'; omega
    subst this
    exact ⟨a, n, c, by simpa using q3 0 _ rfl, by simpa using q3 1 _ rfl, hi.keep hbW⟩⟩
  have HX := Lib.hid x1
  have HbW := Lib.hid hbW
  clear hW x1 q3
  refine (open_any P M am mn cm mod _ 1 1 _ W (hmod.keep hbW) hMs).mono ?_
  rintro e w1 ⟨hb1, hcase⟩
  have hms : matsE (tblOf P M.toNat mod).q [((m : Int), L)] = 0 := by
    rw [HGG.out]
    simp [matsE, HK.out.2.2.1]
  rcases hcase with ⟨hB, _⟩ | ⟨_, er, h0, h1, _⟩ | ⟨_, _, b, rfl, hG, hbl⟩
  · rw [HK.out.1] at hB; exact absurd hB (by decide)
  · rw [hms] at h1; exact absurd h1.symm h0
  rw [HGG.out] at hG
  have hbw1 := Below.next hbW hb1
  have r1 := HX.out.keep hb1
  have m0 := r1.cell 0 rfl
  have m1 := r1.cell 1 rfl
  have hnn : ((n : Int) != n) = false := by simp
  have hx1 := hx.keep hbw1
  have hi1 := hi.keep hbw1
  have he := entries_any ax n cx x hG hx1
  rw [HK.out.2.2.2.2.2] at he
  have He := Lib.hid he
  have Hv := Lib.hid (vec_any ax cx x a n c L m hG HK.out.2.2.2.2.1 hx1 hi1 HK.out.2.2.2.1 HK.out.2.1 hm1 (by omega) (by omega))
  clear hMs hbW r1 hbl hmod hms he hx1 hi1 hG hx hi
  go_wp2_with fail
  refine He.out.mono ?_
  rintro e w2 ⟨rfl, rfl⟩
  go_wp2_with fail
  refine Hv.out.mono ?_
  rintro e w3 ⟨a3, c3, rfl, hown, hb3⟩
  have hF := Lib.hid (And.intro (Ints.own hown).1 (Below.next hbw1 hb3))
  clear hown
  go_wp2_with fail
  go_ret2
  exact ⟨a3, c3, rfl, hF.out.1, hF.out.2⟩
end

/- The walks of space.view's word, reduce, has; zero; code.list. -/
section
open Go.RowKit

theorem elB {G : Tbl} {x : Int} (h : G.El x) : (decide (0 ≤ x) && decide (x < G.q)) = true := by
  unfold Tbl.El at h
  simp
  exact h

set_option maxHeartbeats 1000000 in
theorem listNo_any {w : World} {b : Nat} {G : Tbl} (q : Nat) (x : Int) (hc : w.cell? ⟨q, 0, none⟩ = some (.pointer (some ⟨b, 0, none⟩))) (h : GFw w b G) (hx : G.El x) :
    Calls Tryz.prog 140 #[.int .i64 x, .pointer (some ⟨q, 0, none⟩)] w fun e w' => e = .returned (.bool false) ∧ w = w' := by
  have hB := elB hx
  go_enter Tryz.func140, Tryz.ntmps140
  go_wp2_with fail
  refine (gIs x h).mono ?_
  rintro e w' ⟨rfl, rfl⟩
  rw [hB]
  go_wp2_with fail
  go_ret
  exact ⟨rfl, rfl⟩
set_option maxHeartbeats 1000000 in
theorem wordNo_any {w : World} {b : Nat} {G : Tbl} (q : Nat) (x : Int) (hc : w.cell? ⟨q, 0, none⟩ = some (.pointer (some ⟨b, 0, none⟩))) (h : GFw w b G) (hx : G.El x) :
    Calls Tryz.prog 154 #[.int .i64 x, .pointer (some ⟨q, 0, none⟩)] w fun e w' => e = .returned (.bool false) ∧ w = w' := by
  have hB := elB hx
  go_enter Tryz.func154, Tryz.ntmps154
  go_wp2_with fail
  refine (gIs x h).mono ?_
  rintro e w' ⟨rfl, rfl⟩
  rw [hB]
  go_wp2_with fail
  go_ret
  exact ⟨rfl, rfl⟩
theorem zeroNo_any (x : Int) (w : World) (hx : x = 0) : Calls Tryz.prog 193 #[.int .i64 x] w fun e w' => e = .returned (.bool false) ∧ w = w' := by
  subst hx
  go_enter Tryz.func193, Tryz.ntmps193
  go_wp2
  go_ret
  exact ⟨rfl, rfl⟩

set_option maxRecDepth 100000 in
set_option maxHeartbeats 1600000 in
theorem indexL_any (q : Nat) (a : Option Addr) (n c : Nat) (l : List Int) (w : World) (hi : Ints w a n l) (hf : ∀ k, k < n → Calls Tryz.prog 140 #[.int .i64 (nth l k), .pointer (some ⟨q, 0, none⟩)] w fun e w' => e = .returned (.bool false) ∧ w = w') :
    Calls Tryz.prog 159 #[.slice a n c, .func (.func 140) #[] #[.pointer (some ⟨q, 0, none⟩)]] w fun e w' => e = .returned (.int .i64 (-1)) ∧ w = w' := by
  have hpl := hi.pl
  have hmax := hi.max
  have HF := Lib.hid hf
  unfold maxLen at hmax
  clear hf
  go_enter Tryz.func159, Tryz.ntmps159
  go_wp2_with fail
  go_loop [8] (fun iv => ∃ k : Nat, k ≤ n ∧ iv = .int .i64 k) (fun iv => n - (intOf iv).toNat)
  case atStart => exact ⟨0, Nat.zero_le _, rfl⟩
  case round =>
    obtain ⟨k, hk, rfl⟩ := hrel
    by_cases hlt : k < n
    · have ck := hi.cell k hlt
      have Hk := Lib.hid (HF.out k hlt)
      go_wp2_with fail
      refine Hk.out.mono ?_
      rintro e w' ⟨rfl, rfl⟩
      go_wp2_with fail
      go_round
      case rel => exact ⟨k + 1, by omega, by go_num⟩
      case measure => simp [intOf] <;> omega
    · obtain rfl : k = n := by omega
      go_wp2_with fail
      go_ret
      exact ⟨rfl, rfl⟩
theorem containsL_any (q : Nat) (a : Option Addr) (n c : Nat) (l : List Int) (w : World) (hi : Ints w a n l) (hf : ∀ k, k < n → Calls Tryz.prog 140 #[.int .i64 (nth l k), .pointer (some ⟨q, 0, none⟩)] w fun e w' => e = .returned (.bool false) ∧ w = w') :
    Calls Tryz.prog 139 #[.slice a n c, .func (.func 140) #[] #[.pointer (some ⟨q, 0, none⟩)]] w fun e w' => e = .returned (.bool false) ∧ w = w' := by
  have Hc := Lib.hid (indexL_any q a n c l w hi hf)
  clear hf
  go_enter Tryz.func139, Tryz.ntmps139
  go_wp2_with fail
  refine Hc.out.mono ?_
  rintro e w' ⟨rfl, rfl⟩
  go_wp2_with fail
  go_ret
  exact ⟨rfl, rfl⟩

set_option maxRecDepth 100000 in
set_option maxHeartbeats 1600000 in
theorem indexVw_any (q : Nat) (a : Option Addr) (n c : Nat) (l : List Int) (w : World) (hi : Ints w a n l) (hf : ∀ k, k < n → Calls Tryz.prog 154 #[.int .i64 (nth l k), .pointer (some ⟨q, 0, none⟩)] w fun e w' => e = .returned (.bool false) ∧ w = w') :
    Calls Tryz.prog 159 #[.slice a n c, .func (.func 154) #[] #[.pointer (some ⟨q, 0, none⟩)]] w fun e w' => e = .returned (.int .i64 (-1)) ∧ w = w' := by
  have hpl := hi.pl
  have hmax := hi.max
  have HF := Lib.hid hf
  unfold maxLen at hmax
  clear hf
  go_enter Tryz.func159, Tryz.ntmps159
  go_wp2_with fail
  go_loop [8] (fun iv => ∃ k : Nat, k ≤ n ∧ iv = .int .i64 k) (fun iv => n - (intOf iv).toNat)
  case atStart => exact ⟨0, Nat.zero_le _, rfl⟩
  case round =>
    obtain ⟨k, hk, rfl⟩ := hrel
    by_cases hlt : k < n
    · have ck := hi.cell k hlt
      have Hk := Lib.hid (HF.out k hlt)
      go_wp2_with fail
      refine Hk.out.mono ?_
      rintro e w' ⟨rfl, rfl⟩
      go_wp2_with fail
      go_round
      case rel => exact ⟨k + 1, by omega, by go_num⟩
      case measure => simp [intOf] <;> omega
    · obtain rfl : k = n := by omega
      go_wp2_with fail
      go_ret
      exact ⟨rfl, rfl⟩
theorem containsV_any (q : Nat) (a : Option Addr) (n c : Nat) (l : List Int) (w : World) (hi : Ints w a n l) (hf : ∀ k, k < n → Calls Tryz.prog 154 #[.int .i64 (nth l k), .pointer (some ⟨q, 0, none⟩)] w fun e w' => e = .returned (.bool false) ∧ w = w') :
    Calls Tryz.prog 139 #[.slice a n c, .func (.func 154) #[] #[.pointer (some ⟨q, 0, none⟩)]] w fun e w' => e = .returned (.bool false) ∧ w = w' := by
  have Hc := Lib.hid (indexVw_any q a n c l w hi hf)
  clear hf
  go_enter Tryz.func139, Tryz.ntmps139
  go_wp2_with fail
  refine Hc.out.mono ?_
  rintro e w' ⟨rfl, rfl⟩
  go_wp2_with fail
  go_ret
  exact ⟨rfl, rfl⟩

set_option maxRecDepth 100000 in
set_option maxHeartbeats 1600000 in
theorem indexZ_any (a : Option Addr) (n c : Nat) (l : List Int) (w : World) (hi : Ints w a n l) (hf : ∀ k, k < n → Calls Tryz.prog 193 #[.int .i64 (nth l k)] w fun e w' => e = .returned (.bool false) ∧ w = w') :
    Calls Tryz.prog 159 #[.slice a n c, .func (.func 193) #[] #[]] w fun e w' => e = .returned (.int .i64 (-1)) ∧ w = w' := by
  have hpl := hi.pl
  have hmax := hi.max
  have HF := Lib.hid hf
  unfold maxLen at hmax
  clear hf
  go_enter Tryz.func159, Tryz.ntmps159
  go_wp2_with fail
  go_loop [8] (fun iv => ∃ k : Nat, k ≤ n ∧ iv = .int .i64 k) (fun iv => n - (intOf iv).toNat)
  case atStart => exact ⟨0, Nat.zero_le _, rfl⟩
  case round =>
    obtain ⟨k, hk, rfl⟩ := hrel
    by_cases hlt : k < n
    · have ck := hi.cell k hlt
      have Hk := Lib.hid (HF.out k hlt)
      go_wp2_with fail
      refine Hk.out.mono ?_
      rintro e w' ⟨rfl, rfl⟩
      go_wp2_with fail
      go_round
      case rel => exact ⟨k + 1, by omega, by go_num⟩
      case measure => simp [intOf] <;> omega
    · obtain rfl : k = n := by omega
      go_wp2_with fail
      go_ret
      exact ⟨rfl, rfl⟩
theorem containsZ_any (a : Option Addr) (n c : Nat) (l : List Int) (w : World) (hi : Ints w a n l) (hf : ∀ k, k < n → Calls Tryz.prog 193 #[.int .i64 (nth l k)] w fun e w' => e = .returned (.bool false) ∧ w = w') :
    Calls Tryz.prog 139 #[.slice a n c, .func (.func 193) #[] #[]] w fun e w' => e = .returned (.bool false) ∧ w = w' := by
  have Hc := Lib.hid (indexZ_any a n c l w hi hf)
  clear hf
  go_enter Tryz.func139, Tryz.ntmps139
  go_wp2_with fail
  refine Hc.out.mono ?_
  rintro e w' ⟨rfl, rfl⟩
  go_wp2_with fail
  go_ret
  exact ⟨rfl, rfl⟩

theorem zeroAll_any (a : Option Addr) (n c : Nat) (l : List Int) (w : World) (hi : Ints w a n l) (h0 : ∀ k, k < n → nth l k = 0) :
    Calls Tryz.prog 156 #[.slice a n c] w fun e w' => e = .returned (.bool true) ∧ w = w' := by
  have Hc := Lib.hid (containsZ_any a n c l w hi fun k hk => zeroNo_any (nth l k) w (h0 k hk))
  clear h0
  go_enter Tryz.func156, Tryz.ntmps156
  go_wp2_with fail
  refine Hc.out.mono ?_
  rintro e w' ⟨rfl, rfl⟩
  go_wp2_with fail
  go_ret
  exact ⟨rfl, rfl⟩

set_option maxHeartbeats 1600000 in
theorem viewWord_any {w : World} {b : Nat} {G : Tbl} (m : Nat) (a : Option Addr) (n c : Nat) (ap : Option Addr) (np cp : Nat) (ax : Option Addr) (cx : Nat) (x : List Int) (h : GFw w b G) (hx : Ints w ax m x) (hxe : Vc G.El m x) :
    Calls Tryz.prog 115 #[.agg #[.pointer (some ⟨b, 0, none⟩), .int .i64 m, .slice a n c, .slice ap np cp], .slice ax m cx] w fun e w' => e = .returned (.int .i64 0) ∧ Below w.heap.size w w' := by
  go_enter Tryz.func115, Tryz.ntmps115
  go_wp2_with fail
  obtain ⟨W, hW⟩ : ∃ W : World, W = w.alloc (.cells #[.pointer (some ⟨b, 0, none⟩), .int .i64 m, .slice a n c, .slice ap np cp] 126) := ⟨_, rfl⟩
  rw [← hW]
  have hbW : Below w.heap.size w W := by rw [hW]; exact below1 _ _
  have x0 : Box W w.heap.size [.pointer (some ⟨b, 0, none⟩), .int .i64 m, .slice a n c, .slice ap np cp] := by rw [hW]; exact Box.new _ _ _ rfl
  have c0 := x0.cell 0 rfl
  have c1 := x0.cell 1 rfl
  have hmm : ((m : Int) != m) = false := by simp
  have Hc := Lib.hid (containsV_any w.heap.size ax m cx x W (hx.keep hbW) fun k hk =>
    wordNo_any w.heap.size (nth x k) c0 (h.keep hbW) (hxe.at hk))
  clear hW x0
  go_wp2_with fail
  refine Hc.out.mono ?_
  rintro e w' ⟨rfl, rfl⟩
  go_wp2_with fail
  go_ret
  exact ⟨rfl, hbW⟩

set_option maxRecDepth 100000 in
set_option maxHeartbeats 4000000 in
theorem reduce_any {w : World} {b : Nat} {G : Tbl} (m : Nat) (a : Option Addr) (n c : Nat) (R : List (List Int)) (ap : Option Addr) (cp : Nat) (Pv : List Int) (ax : Option Addr) (cx : Nat) (x : List Int)
    (h : GFw w b G) (hi : Mat w a n R) (hp : Ints w ap n Pv) (hx : Ints w ax m x) (hOk : BS.Ok G.El m ⟨R, Pv⟩) (hxe : Vc G.El m x) (hn : n ≤ 1000000) (hm : m ≤ 1000000) :
    Calls Tryz.prog 155 #[.agg #[.pointer (some ⟨b, 0, none⟩), .int .i64 m, .slice a n c, .slice ap n cp], .slice ax m cx] w
      fun e w' => ∃ a1 c1 v2, e = .returned (.tuple #[.slice a1 m c1, v2]) ∧ Ints w' a1 m (redTo G.ops R Pv x n) ∧ Below w.heap.size w w' := by
  have hcl := Tbl.cl h
  have hrl : R.length = n := hi.len
  have hred := redTo_el hcl hOk.rws (Q := Pv) hOk.plc hxe
  have Hred := Lib.hid hred
  have HOk := Lib.hid hOk
  have Hrl := Lib.hid hrl
  have Hxl := Lib.hid hxe.1
  have hplp := hp.pl
  have hplr := hi.pl
  clear hred hOk hrl hcl
  go_enter Tryz.func155, Tryz.ntmps155
  go_wp2_with fail
  obtain ⟨W, hW⟩ : ∃ W : World, W = w.alloc (.cells #[.pointer (some ⟨b, 0, none⟩), .int .i64 m, .slice a n c, .slice ap n cp] 126) := ⟨_, rfl⟩
  rw [← hW]
  have hbW : Below w.heap.size w W := by rw [hW]; exact below1 _ _
  have x0 : Box W w.heap.size [.pointer (some ⟨b, 0, none⟩), .int .i64 m, .slice a n c, .slice ap n cp] := by rw [hW]; exact Box.new _ _ _ rfl
  have HX := Lib.hid x0
  have HbW := Lib.hid hbW
  clear hW x0
  refine (clone1_any ax m cx x (hx.keep hbW) hm).mono ?_
  rintro e w1 ⟨a1, c1, rfl, hown1, hb1⟩
  rw [Hxl.out] at hown1 ⊢
  have ha1 : a1 ≠ none → ablk a1 < w1.heap.size := fun h0 => (own_ne hown1 h0).2
  have ha1W : a1 ≠ none → W.heap.size ≤ ablk a1 := fun h0 => (own_ne hown1 h0).1
  have x1 := HX.out.keep hb1
  have q2 := x1.cell 2 rfl
  have q3 := x1.cell 3 rfl
  have hs1 := hb1.size
  clear x1
  go_wp2_with fail
  go_loopw [5, 16] (fun tv iv wr => ∃ (k : Nat) (at' : Option Addr) (ct : Nat) (xs : List Value), k ≤ n ∧ iv = .int .i64 k ∧ tv = .slice at' k ct ∧ wr.ownsRow W.heap.size 3 1 (.slice a1 m c1) m ((redTo G.ops R Pv x k).map (Value.int .i64)) ∧
      wr.ownsRow w1.heap.size 3 1 (.slice at' k ct) k xs ∧ Below W.heap.size W wr ∧ w1.heap.size ≤ wr.heap.size) (fun _ iv _ => n - (intOf iv).toNat)
  case atStart => exact ⟨0, none, 0, [], Nat.zero_le _, rfl, rfl, hown1, own_none, hb1, Nat.le_refl _⟩
  case round =>
    clear q2 q3 hown1
    obtain ⟨k, at', ct, xs, hkn, rfl, rfl, hown, hopt, hbr, hsr⟩ := hrel
    have xr := HX.out.keep hbr
    have hbwr := Below.next HbW.out hbr
    by_cases hlt : k < n
    · have hkr : k < R.length := by rw [Hrl.out]; exact hlt
      have hrow := HOk.out.rws.row hkr
      have hplc : 0 ≤ nth Pv k ∧ nth Pv k < m := HOk.out.plc k hkr
      obtain ⟨ra, rn, rc, er, ir⟩ := hi.cell k hlt
      have hrn : rn = m := by rw [← ir.len]; exact hrow.1
      rw [hrn] at er ir
      have ep := (hp.keep hbwr).cell k hlt
      obtain ⟨pn, hpn⟩ : ∃ pn : Nat, nth Pv k = pn := ⟨(nth Pv k).toNat, by omega⟩
      rw [hpn] at ep hplc
      have hpnn : pn < m := by omega
      have hrd := Hred.out k (by omega)
      have hrd1 := Hred.out (k + 1) (by omega)
      have hstep : redTo G.ops R Pv x (k + 1) = redStep G.ops (redTo G.ops R Pv x k) pn (nthR R k) := by rw [redTo, hpn]
      have Hstep := Lib.hid hstep
      have Hrow := Lib.hid hrow
      clear hstep hpn hrn
      obtain ⟨u, hu⟩ : ∃ u, redTo G.ops R Pv x k = u := ⟨_, rfl⟩
      rw [hu] at hown hrd
      have Hu := Lib.hid hu
      obtain ⟨iu, mu⟩ := Ints.own hown
      have eu := iu.cell pn hpnn
      have hpu := iu.pl
      have Hrd := Lib.hid hrd
      clear hu hrow hrd hrd1
      have hne1 : a1 ≠ none := fun e => by
        have := hpu (by omega)
        rw [e] at this; cases this
      have ha1' := ha1 hne1
      have hapt : Apt at' (ablk a1) := by
        by_cases h0 : at' = none
        · exact .inl h0
        · have := (own_ne hopt h0).1
          exact .inr (by omega)
      have hcn := cell_new wr (.int .i64 (nth u pn)) 3
      have hbn := below1 wr (.cells #[.int .i64 (nth u pn)] 3)
      have hbnx := Below.trans hbr (hbn.mono (by omega))
      have HN5 : Hid (∀ (a5 : Option Addr) (c5 : Nat) (w5 : World), (wr.alloc (.cells #[.int .i64 (nth u pn)] 3)).grownBy w5 (Value.slice at' k ct).ownBlock → Below W.heap.size W w5 ∧ w5.ownsRow W.heap.size 3 1 (.slice a1 m c1) m (u.map (Value.int .i64)) ∧ w1.heap.size ≤ w5.heap.size) := fun a5 c5 w5 hgr5 =>
        ⟨Below.app hbnx (hopt.alloc _) hgr5 (by omega) (by simp; omega), own_grownApt (hown.alloc _) hgr5 hapt, by have := hgr5.size; simp at this; omega⟩
      clear hbnx mu
      by_cases hz : nth u pn = 0
      · have hz' : (nth u pn != 0) = false := by simpa using hz
        have Hn : Hid (redTo G.ops R Pv x (k + 1) = u) := by show _ = _; rw [Hstep.out, Hu.out, redStep, Int.toNat_natCast, if_pos hz]
        clear hz
        go_wp2_with (at_builtin; refine wpList_push rfl _ _ 22 3 rfl (.int .i64 0) 8 Tryz.underlying22 infoInt rfl w1.heap.size at' k ct xs rfl (hopt.alloc _) ⟨wr.heap.size, 0, none⟩ 1 (.int .i64 (nth u pn)) rfl hcn rfl (by omega) (by unfold maxLen; omega) (by simp; omega) ?_; intro a5 c5 w5 hown5 hgr5 hap5)
        go_roundw
        case rel =>
          obtain ⟨h1, h2, h3⟩ := HN5.out a5 c5 w5 hgr5
          exact ⟨k + 1, a5, c5, _, by omega, by go_num, rfl, by rw [Hn.out]; exact h2, hown5, h1, h3⟩
        case measure => simp [intOf] <;> omega
      · have hz' : (nth u pn != 0) = true := by simpa using hz
        have Hn : Hid (redTo G.ops R Pv x (k + 1) = subRow G.ops u (nth u pn) (nthR R k)) := by show _ = _; rw [Hstep.out, Hu.out, redStep, Int.toNat_natCast, if_neg hz]
        have hxe2 : G.El (nth u pn) := Hrd.out.2 _ (nth_mem (by rw [Hrd.out.1]; exact hpnn))
        have hSl : (subRow G.ops u (nth u pn) (nthR R k)).length = u.length := subRow_length _ _ _ _ (by rw [Hrow.out.1, Hrd.out.1])
        have hSn := fun i hi => nth_subRow G.ops u (nth u pn) (nthR R k) i (by rw [Hrow.out.1, Hrd.out.1]) hi
        have HSl := Lib.hid hSl
        have HSn := Lib.hid hSn
        clear hz hSl hSn
        have hplr2 := ir.pl
        go_upto_region 8 with (at_builtin; refine wpList_push rfl _ _ 22 3 rfl (.int .i64 0) 8 Tryz.underlying22 infoInt rfl w1.heap.size at' k ct xs rfl (hopt.alloc _) ⟨wr.heap.size, 0, none⟩ 1 (.int .i64 (nth u pn)) rfl hcn rfl (by omega) (by unfold maxLen; omega) (by simp; omega) ?_; intro a5 c5 w5 hown5 hgr5 hap5)
        obtain ⟨hbU, hownU, hsU⟩ := HN5.out a5 c5 w5 hgr5
        have hna5 : a5 ≠ none → ¬ (a1 ≠ none ∧ ablk a5 = ablk a1) := fun h0 h1 => by
          have := (own_ne hown5 h0).1
          omega
        clear HN5 hgr5 hap5 hcn hbn eu iu ep xr hown hopt hapt
        generalize w5 = U at *
        have hbwU := Below.next HbW.out hbU
        have xU := HX.out.keep hbU
        have q1 := xU.cell 1 rfl
        have q2 := xU.cell 2 rfl
        have erU := cell_keep hbwU er
        clear xU
        go_wp2_with fail
        clear q1 q2 erU
        generalize nth u pn = y at *
        generalize subRow G.ops u y (nthR R k) = S at *
        go_loopw [38] (fun iv wx => ∃ j : Nat, j ≤ m ∧ iv = .int .i64 j ∧ wx.ownsRow W.heap.size 3 1 (.slice a1 m c1) m ((mixTo S u j).map (Value.int .i64)) ∧ Only a1 U wx) (fun iv _ => m - (intOf iv).toNat)
        case atStart => exact ⟨0, Nat.zero_le _, rfl, by rw [mixTo_zero]; exact hownU, Only.refl _ _⟩
        case round =>
          clear hownU
          obtain ⟨j, hj, rfl, hown2, honly2⟩ := hrel
          have hbx0 : Below W.heap.size U wr := honly2.below ha1W hbU.size
          have hbx := Below.trans hbU hbx0
          have hbwx := Below.next HbW.out hbx
          by_cases hjn : j < m
          · have cj := (ir.keep hbwx).cell j hjn
            have f0 := (HX.out.keep hbx).cell 0 rfl
            obtain ⟨im, mm⟩ := Ints.own hown2
            have cm := im.cell j hjn
            have fm := (mm (by omega)).2 j hjn
            have hju : j < u.length := by rw [Hrd.out.1]; exact hjn
            have hmix := nth_mixTo S u j j HSl.out (by omega)
            rw [if_neg (by omega)] at hmix
            rw [hmix] at cm
            have hset := mixTo_set S u j HSl.out hju
            rw [HSn.out j hju] at hset
            have Hset := Lib.hid hset
            have ely : G.El (nth (nthR R k) j) := Hrow.out.2 _ (nth_mem (by rw [Hrow.out.1]; exact hjn))
            have elv : G.El (nth u j) := Hrd.out.2 _ (nth_mem hju)
            have hGr : GFw wr b G := h.keep hbwx
            have elm : ∀ x y, G.El (G.mul x y) := fun x y => Tbl.mul_el h x y
            have HG : Hid (GFw wr.drew b G ∧ ∀ n, GFw (wr.drewN n) b G) := ⟨hGr.keep (Below.refl _ _).drew, fun n => hGr.drewN n⟩
            clear hset hmix
            go_wp2_with fail
            go_region_law ((first
              | (go_simp; go_at_call 158; ((with_reducible refine (gMul y (nth (nthR R k) j) HG.out.1 hxe2 ely).mono ?_); rintro e w4 ⟨m4, rfl, rfl⟩))
              | (go_simp; go_at_call 158; ((with_reducible refine (gMul y (nth (nthR R k) j) (HG.out.2 _) hxe2 ely).mono ?_); rintro e w4 ⟨m4, rfl, rfl⟩))
              | (go_simp; go_at_call 157; ((with_reducible refine (gSub (nth u j) (G.mul y (nth (nthR R k) j)) (HG.out.2 _) elv (elm _ _)).mono ?_); rintro e w4 ⟨m5, rfl, rfl⟩))))
            all_goals (
              go_wp2_with fail
              go_roundw
              case rel =>
                have hdr : Drawn wr (wr.drewN (1 + m4 + m5)) := ⟨_, rfl⟩
                refine ⟨j + 1, by omega, by go_num, ?_, honly2.trans ((Only.drawn hdr).trans (Only.set _ j _ hne1))⟩
                have h1 := own_set (w := wr.drewN (1 + m4 + m5)) hown2 j hjn (.int .i64 (G.sub (nth u j) (G.mul y (nth (nthR R k) j))))
                rw [← List.map_set, show G.sub (nth u j) (G.mul y (nth (nthR R k) j)) = G.ops.add (nth u j) (G.ops.neg (G.ops.mul y (nth (nthR R k) j))) from rfl, Hset.out] at h1
                exact h1
              case measure => simp [intOf] <;> omega)
          · obtain rfl : j = m := by omega
            rw [mixTo_all S u j (by rw [HSl.out, Hrd.out.1]) Hrd.out.1] at hown2
            have hown6 := Moves.own honly2 hown5 hna5
            have hsx := honly2.size
            go_wp2_with fail
            go_roundw
            case rel => exact ⟨k + 1, a5, c5, _, by omega, by go_num, rfl, by rw [Hn.out]; exact hown2, hown6, hbx, by omega⟩
            case measure => simp [intOf] <;> omega
    · obtain rfl : k = n := by omega
      have hF := (Ints.own hown).1
      have HF := Lib.hid hF
      clear hF hown hopt xr
      go_wp2_with fail
      go_ret2
      exact ⟨a1, c1, _, rfl, HF.out, hbwr⟩

set_option maxRecDepth 100000 in
set_option maxHeartbeats 4000000 in
theorem viewHas_any {w : World} {b : Nat} {G : Tbl} (m : Nat) (a : Option Addr) (n c : Nat) (R : List (List Int)) (ap : Option Addr) (cp : Nat) (Pv : List Int) (ax : Option Addr) (cx : Nat) (x : List Int)
    (h : GFw w b G) (hi : Mat w a n R) (hp : Ints w ap n Pv) (hx : Ints w ax m x) (hOk : BS.Ok G.El m ⟨R, Pv⟩) (hxe : Vc G.El m x) (hn : n ≤ 1000000) (hm : m ≤ 1000000) (h0 : ∀ i, i < m → nth (redTo G.ops R Pv x n) i = 0) :
    Calls Tryz.prog 116 #[.agg #[.pointer (some ⟨b, 0, none⟩), .int .i64 m, .slice a n c, .slice ap n cp], .slice ax m cx] w
      fun e w' => e = .returned (.bool true) ∧ Below w.heap.size w w' := by
  have H0 := Lib.hid h0
  clear h0
  go_enter Tryz.func116, Tryz.ntmps116
  go_wp2_with fail
  obtain ⟨W, hW⟩ : ∃ W : World, W = w.alloc (.cells #[.pointer (some ⟨b, 0, none⟩), .int .i64 m, .slice a n c, .slice ap n cp] 126) := ⟨_, rfl⟩
  rw [← hW]
  have hbW : Below w.heap.size w W := by rw [hW]; exact below1 _ _
  clear hW
  refine (reduce_any m a n c R ap cp Pv ax cx x (h.keep hbW) (hi.keep hbW) (hp.keep hbW) (hx.keep hbW) hOk hxe hn hm).mono ?_
  rintro e w1 ⟨a1, c1, v2, rfl, hI1, hb1⟩
  have Hz := Lib.hid (zeroAll_any a1 m c1 _ w1 hI1 H0.out)
  have hF := Below.next hbW hb1
  clear hI1 hOk hxe
  go_wp2_with fail
  refine Hz.out.mono ?_
  rintro e w2 ⟨rfl, rfl⟩
  go_wp2_with fail
  go_ret
  exact ⟨rfl, hF⟩
end

/- The walks of code.list, word, space.Has, code.Has, at words of the code. -/
section
open Go.RowKit

set_option maxRecDepth 100000 in
set_option maxHeartbeats 4000000 in
theorem codeList_any (P M : Int) (am : Option Addr) (mn cm : Nat) (mod : List Int) (ax : Option Addr) (n cx : Nat) (x : List Int) (w : World) (hmod : Ints w am mn mod) (hx : Ints w ax n x) (hB : fieldB P M mod = true) (hxe : Vc (tblOf P M.toNat mod).El n x) :
    Calls Tryz.prog 98 #[.agg #[.int .i64 P, .int .i64 M, .slice am mn cm], .slice ax n cx, .int .i64 n] w fun e w' => e = .returned (.int .i64 0) ∧ Below w.heap.size w w' := by
  go_enter Tryz.func98, Tryz.ntmps98
  go_upto_region 1 with fail
  obtain ⟨W, hW⟩ : ∃ W : World, W = w.alloc (.cells #[.int .i64 P, .int .i64 M, .slice am mn cm] 24) := ⟨_, rfl⟩
  rw [← hW]
  have hbW : Below w.heap.size w W := by rw [hW]; exact below1 _ _
  have x0 : Box W w.heap.size [.int .i64 P, .int .i64 M, .slice am mn cm] := by rw [hW]; exact Box.new _ _ _ rfl
  have c0 := x0.cell 0 rfl
  have c1 := x0.cell 1 rfl
  have c2 := x0.cell 2 rfl
  have hnn : ((n : Int) != n) = false := by simp
  clear hW x0
  go_wp2_with fail
  refine (fieldNew_any P M am mn cm mod W (hmod.keep hbW)).mono ?_
  rintro e w4 (⟨hB2, _, _⟩ | ⟨_, b, rfl, hG, hbl, hb4⟩)
  · rw [hB] at hB2; cases hB2
  have hbw4 := Below.next hbW hb4
  have hb5 := below1 w4 (.cells #[.pointer (some ⟨b, 0, none⟩)] 89)
  have hc5 := cell_new w4 (.pointer (some ⟨b, 0, none⟩)) 89
  have Hc := Lib.hid (containsL_any w4.heap.size ax n cx x _ (hx.keep (Below.next hbw4 hb5)) fun k hk => listNo_any w4.heap.size (nth x k) hc5 (hG.gf.keep hb5) (hxe.at hk))
  have hF := Below.next hbw4 hb5
  have HF := Lib.hid hF
  clear c0 c1 c2 hG hbl hB hxe hF
  go_wp2_with fail
  refine Hc.out.mono ?_
  rintro e w6 ⟨rfl, rfl⟩
  go_wp2_with fail
  go_ret
  exact ⟨rfl, HF.out⟩

set_option maxRecDepth 100000 in
set_option maxHeartbeats 4000000 in
theorem codeWord_any (P M : Int) (am : Option Addr) (mn cm : Nat) (mod : List Int) (m : Nat) (a : Option Addr) (n c : Nat) (L : List (List Int)) (ax : Option Addr) (cx : Nat) (x : List Int) (w : World) (hmod : Ints w am mn mod) (hi : Mat w a n L) (hx : Ints w ax m x)
    (hE : codeE P M mod m L = 0) (hxe : Vc (tblOf P M.toNat mod).El m x) :
    Calls Tryz.prog 68 #[.agg #[.int .i64 P, .int .i64 M, .slice am mn cm, .int .i64 m, .slice a n c], .slice ax m cx] w fun e w' => e = .returned (.int .i64 0) ∧ Below w.heap.size w w' := by
  go_enter Tryz.func68, Tryz.ntmps68
  go_wp2_with fail
  obtain ⟨W, hW⟩ : ∃ W : World, W = w.alloc (.cells #[.int .i64 P, .int .i64 M, .slice am mn cm, .int .i64 m, .slice a n c] 27) := ⟨_, rfl⟩
  rw [← hW]
  have hbW : Below w.heap.size w W := by rw [hW]; exact below1 _ _
  have x0 : Box W w.heap.size [.int .i64 P, .int .i64 M, .slice am mn cm, .int .i64 m, .slice a n c] := by rw [hW]; exact Box.new _ _ _ rfl
  clear hW
  refine (codeCheck_any P M am mn cm mod m a n c L W (hmod.keep hbW) (hi.keep hbW)).mono ?_
  rintro e w1 ⟨rfl, hb1⟩
  have hbw1 := Below.next hbW hb1
  have x1 := x0.keep hb1
  have c0 := x1.cell 0 rfl
  have c1 := x1.cell 1 rfl
  have c2 := x1.cell 2 rfl
  have c3 := x1.cell 3 rfl
  have HL := Lib.hid (codeList_any P M am mn cm mod ax m cx x w1 (hmod.keep hbw1) (hx.keep hbw1) (codeE_zero hE).1 hxe)
  rw [hE]
  clear hE hxe x0 x1
  go_wp2_with fail
  refine HL.out.mono ?_
  rintro e w2 ⟨rfl, hb2⟩
  have hF := Below.next hbw1 hb2
  go_wp2_with fail
  go_ret
  exact ⟨rfl, hF⟩

set_option maxRecDepth 100000 in
set_option maxHeartbeats 4000000 in
theorem spaceHas_any (P M : Int) (am : Option Addr) (mn cm : Nat) (mod : List Int) (m : Nat) (a : Option Addr) (n c : Nat) (L : List (List Int)) (ax : Option Addr) (cx : Nat) (x : List Int) (w : World) (hmod : Ints w am mn mod) (hi : Mat w a n L) (hx : Ints w ax m x)
    (hE : codeE P M mod m L = 0) (hxe : Vc (tblOf P M.toNat mod).El m x) (h0 : ∀ i, i < m → nth (redTo (tblOf P M.toNat mod).ops L (pivS (tblOf P M.toNat mod) L m) x L.length) i = 0) :
    Calls Tryz.prog 69 #[.agg #[.int .i64 P, .int .i64 M, .slice am mn cm], .agg #[.int .i64 m, .slice a n c], .slice ax m cx] w fun e w' => e = .returned (.tuple #[.bool true, .int .i64 0]) ∧ Below w.heap.size w w' := by
  have hil := hi.len
  obtain ⟨m', em, hm1, hm64, F, hR⟩ := codeE_fld hE
  obtain rfl : m = m' := by omega
  have hn : n ≤ 256 := by rw [← hil]; exact (codeE_rws hE).choose_spec.2.2.2.1
  obtain ⟨h5, h6⟩ := spaceE_zero (codeE_zero hE).2.2.2
  rw [Int.toNat_natCast] at h6
  have hcan : canO (tblOf P M.toNat mod).ops m L = L := h6
  have hpiv := (canO_piv F hR).1
  have hlen := canO_len F hR
  rw [hcan] at hpiv hlen
  have hOk : BS.Ok (tblOf P M.toNat mod).El m ⟨L, pivS (tblOf P M.toNat mod) L m⟩ := (piv_inv hR hpiv hlen).ok
  have hpl : (pivS (tblOf P M.toNat mod) L m).length = n := by rw [← hil]; exact hlen.symm
  rw [hil] at h0
  have H0 := Lib.hid h0
  have HOk := Lib.hid hOk
  have Hsp := Lib.hid (codeE_zero hE).2.2.2
  have Hxe := Lib.hid hxe
  clear h0 hOk h5 h6 hcan hpiv hlen em F hR hE hil hxe
  go_enter Tryz.func69, Tryz.ntmps69
  go_wp2_with fail
  obtain ⟨W, hW⟩ : ∃ W : World, W = (w.alloc (.cells #[.int .i64 P, .int .i64 M, .slice am mn cm] 24)).alloc (.cells #[.int .i64 m, .slice a n c] 62) := ⟨_, rfl⟩
  rw [← hW]
  have hbW : Below w.heap.size w W := by rw [hW]; exact below2 _ _ _
  clear hW
  refine (spaceOpen_any P M am mn cm mod m a n c L W (hmod.keep hbW) (hi.keep hbW)).mono ?_
  rintro e w1 ⟨hb1, ⟨he, _⟩ | ⟨_, m', b, hm', ap, cp, rfl, hG, hbl, hP⟩⟩
  · exact absurd Hsp.out he
  obtain rfl : m = m' := by omega
  have hbw1 := Below.next hbW hb1
  have hp1 := hP.ints
  rw [hpl] at hp1 ⊢
  obtain ⟨Pv, hPv⟩ : ∃ Pv, pivS (tblOf P M.toNat mod) L m = Pv := ⟨_, rfl⟩
  obtain ⟨G, hGG⟩ : ∃ G, tblOf P M.toNat mod = G := ⟨_, rfl⟩
  rw [hGG] at hPv hG H0 HOk Hxe
  rw [hPv] at H0 HOk
  have hp2 : Ints w1 ap n Pv := by rw [hGG, hPv] at hp1; exact hp1
  have hb2 := below1 w1 (.cells #[.pointer (some ⟨b, 0, none⟩), .int .i64 m, .slice a n c, .slice ap n cp] 126)
  have hbw2 := Below.next hbw1 hb2
  have HWd := Lib.hid (viewWord_any m a n c ap n cp ax cx x (hG.gf.keep hb2) (hx.keep hbw2) Hxe.out)
  have HHs : Hid (∀ V, Below w1.heap.size w1 V → Calls Tryz.prog 116 #[.agg #[.pointer (some ⟨b, 0, none⟩), .int .i64 m, .slice a n c, .slice ap n cp], .slice ax m cx] V fun e w' => e = .returned (.bool true) ∧ Below V.heap.size V w') := fun V hV =>
    viewHas_any m a n c L ap cp Pv ax cx x (hG.gf.keep hV) (hi.keep (Below.next hbw1 hV)) (hp2.keep hV) (hx.keep (Below.next hbw1 hV)) HOk.out Hxe.out (by omega) (by omega) H0.out
  have k0 := Box.new w1 [.pointer (some ⟨b, 0, none⟩), .int .i64 m, .slice a n c, .slice ap n cp] 126 rfl
  have HX := Lib.hid k0
  clear hpl hPv hGG hG hbl hP hp1 hp2 hm' k0
  go_wp2_with fail
  refine HWd.out.mono ?_
  rintro e w3 ⟨rfl, hb3⟩
  have x3 := HX.out.keep hb3
  have k0 := x3.cell 0 rfl
  have k1 := x3.cell 1 rfl
  have k2 := x3.cell 2 rfl
  have k3 := x3.cell 3 rfl
  have Hh := Lib.hid (HHs.out w3 (Below.next hb2 hb3))
  have hbw3 := Below.next hbw2 hb3
  clear HWd HHs x3
  go_wp2_with fail
  refine Hh.out.mono ?_
  rintro e w4 ⟨rfl, hb4⟩
  have hF := Below.next hbw3 hb4
  go_wp2_with fail
  go_ret2
  exact ⟨rfl, hF⟩

set_option maxRecDepth 100000 in
set_option maxHeartbeats 4000000 in
theorem codeHas_any (P M : Int) (am : Option Addr) (mn cm : Nat) (mod : List Int) (m : Nat) (a : Option Addr) (n c : Nat) (L : List (List Int)) (ax : Option Addr) (cx : Nat) (x : List Int) (w : World) (hmod : Ints w am mn mod) (hi : Mat w a n L) (hx : Ints w ax m x)
    (hE : codeE P M mod m L = 0) (hxe : Vc (tblOf P M.toNat mod).El m x) (h0 : ∀ i, i < m → nth (redTo (tblOf P M.toNat mod).ops L (pivS (tblOf P M.toNat mod) L m) x L.length) i = 0) :
    Calls Tryz.prog 22 #[.agg #[.int .i64 P, .int .i64 M, .slice am mn cm, .int .i64 m, .slice a n c], .slice ax m cx] w fun e w' => e = .returned (.tuple #[.bool true, .int .i64 0]) ∧ Below w.heap.size w w' := by
  have HSp : Hid (∀ V, Below w.heap.size w V → Calls Tryz.prog 69 #[.agg #[.int .i64 P, .int .i64 M, .slice am mn cm], .agg #[.int .i64 m, .slice a n c], .slice ax m cx] V fun e w' => e = .returned (.tuple #[.bool true, .int .i64 0]) ∧ Below V.heap.size V w') := fun V hV =>
    spaceHas_any P M am mn cm mod m a n c L ax cx x V (hmod.keep hV) (hi.keep hV) (hx.keep hV) hE hxe h0
  have HWd : Hid (∀ V, Below w.heap.size w V → Calls Tryz.prog 68 #[.agg #[.int .i64 P, .int .i64 M, .slice am mn cm, .int .i64 m, .slice a n c], .slice ax m cx] V fun e w' => e = .returned (.int .i64 0) ∧ Below V.heap.size V w') := fun V hV =>
    codeWord_any P M am mn cm mod m a n c L ax cx x V (hmod.keep hV) (hi.keep hV) (hx.keep hV) hE hxe
  clear hmod hi hx hE hxe h0
  go_enter Tryz.func22, Tryz.ntmps22
  go_wp2_with fail
  obtain ⟨W, hW⟩ : ∃ W : World, W = w.alloc (.cells #[.int .i64 P, .int .i64 M, .slice am mn cm, .int .i64 m, .slice a n c] 27) := ⟨_, rfl⟩
  rw [← hW]
  have hbW : Below w.heap.size w W := by rw [hW]; exact below1 _ _
  have x0 : Box W w.heap.size [.int .i64 P, .int .i64 M, .slice am mn cm, .int .i64 m, .slice a n c] := by rw [hW]; exact Box.new _ _ _ rfl
  have HX := Lib.hid x0
  have HbW := Lib.hid hbW
  clear hW x0
  refine (HWd.out W hbW).mono ?_
  rintro e w1 ⟨rfl, hb1⟩
  have hbw1 := Below.next HbW.out hb1
  have hS : ∀ V, Below w1.heap.size w1 V → V.cell? ⟨w.heap.size, 0, none⟩ = some (.int .i64 P) ∧ V.cell? ⟨w.heap.size, 1, none⟩ = some (.int .i64 M) ∧ V.cell? ⟨w.heap.size, 2, none⟩ = some (.slice am mn cm) ∧ V.cell? ⟨w.heap.size, 3, none⟩ = some (.int .i64 m) ∧ V.cell? ⟨w.heap.size, 4, none⟩ = some (.slice a n c) ∧ Below w1.heap.size w1 V := fun V hV => by
    have x1 := HX.out.keep (Below.next hb1 hV)
    exact ⟨x1.cell 0 rfl, x1.cell 1 rfl, x1.cell 2 rfl, x1.cell 3 rfl, x1.cell 4 rfl, hV⟩
  have HS := Lib.hid hS
  have Hbw1 := Lib.hid hbw1
  clear hS HWd hbW hb1 hbw1
  go_wp2_with fail
  go_region_held3 (fun V => V.cell? ⟨w.heap.size, 0, none⟩ = some (.int .i64 P) ∧ V.cell? ⟨w.heap.size, 1, none⟩ = some (.int .i64 M) ∧ V.cell? ⟨w.heap.size, 2, none⟩ = some (.slice am mn cm) ∧ V.cell? ⟨w.heap.size, 3, none⟩ = some (.int .i64 m) ∧ V.cell? ⟨w.heap.size, 4, none⟩ = some (.slice a n c) ∧ Below w1.heap.size w1 V)
    ((refine HS.out _ ?_; first | exact (Below.refl _ _).drew | (go_split_ands; exact Below.next (by assumption) (by assumption))))
    (first
      | (go_at_call 70; ((with_reducible refine (gen_any P M am mn cm m a n c _).mono ?_); rintro e w6 ⟨rfl, hb6⟩))
      | (go_at_call 69; ((with_reducible refine (HSp.out _ (Below.next Hbw1.out (by go_split_ands; assumption))).mono ?_); rintro e w8 ⟨rfl, hb8⟩)))
  all_goals (
    go_wp2_with fail
    go_ret2
    exact ⟨rfl, Below.next Hbw1.out (by go_split_ands; assumption)⟩)
end

/- The walks of the references: Combine of layer 09, List and Encode of layer 12. -/
section
open Go.RowKit

theorem cmbTo_agr {O O' : FOps} {El : Int → Prop} (F : Fld O El) (h : Agr O O' El) {m : Nat} {L : List (List Int)} (hL : Rws El m L) {x : List Int} (hx : ∀ k, k < L.length → El (nth x k)) : ∀ k, k ≤ L.length → cmbTo O m x L k = cmbTo O' m x L k
  | 0, _ => rfl
  | k + 1, hk => by
    have h1 := (cmb_rs F hL hx k (by omega)).1
    rw [cmbTo, cmbTo, ← cmbTo_agr F h hL hx k (by omega), addRow_agr h F.cl _ _ _ h1.2 (hL.row (i := k) (by omega)).2 (hx k (by omega))]

set_option maxRecDepth 100000 in
set_option maxHeartbeats 4000000 in
theorem rCombine_any (P : Int) (m : Nat) (am : Option Addr) (mn cm : Nat) (mod : List Int) (ax : Option Addr) (cx : Nat) (x : List Int) (a : Option Addr) (n c : Nat) (L : List (List Int)) (cols : Nat) (w : World) (hf : RFld w P m am mn mod)
    (hx : Ints w ax n x) (hi : Mat w a n L) (hxe : ∀ k, k < n → ElP P m (nth x k)) (hR : Rws (ElP P m) cols L) (hv : ∀ k, k ≤ n → Vc (ElP P m) cols (cmbTo (rops P m mod) cols x L k)) (hc : cols ≤ 1000000) (hn : n ≤ 1000000) :
    Calls Tryz.prog 67 #[.agg #[.int .i64 P, .int .i64 m, .slice am mn cm], .slice ax n cx, .slice a n c, .int .i64 cols] w fun e w' =>
      ∃ a1 c1, e = .returned (.slice a1 cols c1) ∧ w'.ownsRow w.heap.size 3 1 (.slice a1 cols c1) cols ((cmbTo (rops P m mod) cols x L n).map (Value.int .i64)) ∧ Below w.heap.size w w' := by
  have Hil := Lib.hid hi.len
  have hplx := hx.pl
  have hpla := hi.pl
  have HR := Lib.hid hR
  have Hv := Lib.hid hv
  have Hxe := Lib.hid hxe
  obtain ⟨O, hO⟩ : ∃ O, rops P m mod = O := ⟨_, rfl⟩
  have HA : Hid (∀ V k a1 c1 ra rc, k < n → Below w.heap.size w V → Ints V a1 cols (cmbTo O cols x L k) → Ints V ra cols (nthR L k) → ∀ V2, Below V.heap.size V V2 →
      Calls Tryz.prog 113 #[.agg #[.int .i64 P, .int .i64 m, .slice am mn cm], .slice a1 cols c1, .int .i64 (nth x k), .slice ra cols rc] V2 fun e w' =>
        ∃ a2 c2, e = .returned (.slice a2 cols c2) ∧ w'.ownsRow V2.heap.size 3 1 (.slice a2 cols c2) cols ((addRow O (cmbTo O cols x L k) (nth x k) (nthR L k)).map (Value.int .i64)) ∧ Below V2.heap.size V2 w') := fun V k a1 c1 ra rc hk hV h1 h2 V2 hV2 => by
    have hrow := HR.out.row (i := k) (by rw [Hil.out]; exact hk)
    have hvk := Hv.out k (by omega)
    rw [hO] at hvk
    have h := rAddTo_any P m am mn cm mod a1 cols c1 (cmbTo O cols x L k) (nth x k) ra rc (nthR L k) V2 (hf.keep (Below.next hV hV2)) (Hxe.out k hk) (h1.keep hV2) (h2.keep hV2) hvk.2 hrow.2 hc
    refine h.mono ?_
    rintro e w' ⟨a2, c2, rfl, hown, hb⟩
    rw [hO, addRow_length _ _ _ _ (by rw [hrow.1, hvk.1]), hvk.1] at hown
    rw [hO, addRow_length _ _ _ _ (by rw [hrow.1, hvk.1]), hvk.1]
    exact ⟨a2, c2, rfl, hown, hb⟩
  have hz : (cmbTo O cols x L 0).map (Value.int .i64) = List.replicate cols (Value.int .i64 0) := by simp [cmbTo]
  have Hz := Lib.hid hz
  rw [hO]
  clear hO hR hv hxe hz
  go_enter Tryz.func67, Tryz.ntmps67
  go_upto_region 1 with fail
  obtain ⟨W, hW⟩ : ∃ W : World, W = w.alloc (.cells #[.int .i64 P, .int .i64 m, .slice am mn cm] 24) := ⟨_, rfl⟩
  rw [← hW]
  have hbW : Below w.heap.size w W := by rw [hW]; exact below1 _ _
  have x0 : Box W w.heap.size [.int .i64 P, .int .i64 m, .slice am mn cm] := by rw [hW]; exact Box.new _ _ _ rfl
  have HX := Lib.hid x0
  have HbW := Lib.hid hbW
  have hxW := hx.keep hbW
  have hiW := hi.keep hbW
  clear hW x0
  go_wp2_with (at_make; refine wpList_mk rfl _ _ 22 3 rfl (.int .i64 0) 8 Tryz.underlying22 infoInt rfl cols rfl rfl (by omega) (by unfold maxLen; omega) ?_; intro a5 w5 hown hbel hge hlt)
  have hown0 : w5.ownsRow W.heap.size 3 1 (.slice a5 cols cols) cols ((cmbTo O cols x L 0).map (Value.int .i64)) := by rw [Hz.out]; exact hown
  clear hown hge hlt
  go_loopw [9, 10] (fun ov iv wr => ∃ (k : Nat) (a1 : Option Addr) (c1 : Nat), k ≤ n ∧ iv = .int .i64 k ∧ ov = .slice a1 cols c1 ∧ wr.ownsRow W.heap.size 3 1 (.slice a1 cols c1) cols ((cmbTo O cols x L k).map (Value.int .i64)) ∧ Below W.heap.size W wr) (fun _ iv _ => n - (intOf iv).toNat)
  case atStart => exact ⟨0, a5, cols, Nat.zero_le _, rfl, rfl, hown0, hbel⟩
  case round =>
    clear hown0 hbel
    obtain ⟨k, a1, c1, hk, rfl, rfl, hown, hbr⟩ := hrel
    by_cases hlt : k < n
    · have cxk := (hxW.keep hbr).cell k hlt
      have hrow := HR.out.row (i := k) (by rw [Hil.out]; exact hlt)
      obtain ⟨ra, rn, rc, er, ir⟩ := (hiW.keep hbr).cell k hlt
      have hrn : rn = cols := by rw [← ir.len]; exact hrow.1
      rw [hrn] at er ir
      clear hrn hrow
      by_cases h0 : nth x k = 0
      · have h0' : (nth x k != 0) = false := by simpa using h0
        have Hn : Hid (cmbTo O cols x L (k + 1) = cmbTo O cols x L k) := by show _ = _; rw [cmbTo, if_pos h0]
        clear h0
        go_wp2_with fail
        go_roundw
        case rel => exact ⟨k + 1, a1, c1, by omega, by go_num, rfl, by rw [Hn.out]; exact hown, hbr⟩
        case measure => simp [intOf] <;> omega
      · have h0' : (nth x k != 0) = true := by simpa using h0
        have Hn : Hid (cmbTo O cols x L (k + 1) = addRow O (cmbTo O cols x L k) (nth x k) (nthR L k)) := by show _ = _; rw [cmbTo, if_neg h0]
        have hbwr := Below.next HbW.out hbr
        have Hk := Lib.hid (HA.out wr k a1 c1 ra rc hlt hbwr (Ints.own hown).1 ir)
        have HS2 : Hid (∀ V, Below wr.heap.size wr V → V.cell? ⟨w.heap.size, 0, none⟩ = some (.int .i64 P) ∧ V.cell? ⟨w.heap.size, 1, none⟩ = some (.int .i64 m) ∧ V.cell? ⟨w.heap.size, 2, none⟩ = some (.slice am mn cm) ∧
            V.cell? ⟨ablk ax, aoff ax + k, none⟩ = some (.int .i64 (nth x k)) ∧ V.cell? ⟨ablk a, aoff a + k, none⟩ = some (.slice ra cols rc) ∧ Below wr.heap.size wr V) := fun V hV => by
          have x1 := HX.out.keep (Below.next hbr hV)
          exact ⟨x1.cell 0 rfl, x1.cell 1 rfl, x1.cell 2 rfl, cell_keep hV cxk, cell_keep hV er, hV⟩
        have Hbr := Lib.hid hbr
        have hszr := hbr.size
        clear h0 hbr hown ir HA
        go_wp2_with fail
        go_region_held3 (fun V => V.cell? ⟨w.heap.size, 0, none⟩ = some (.int .i64 P) ∧ V.cell? ⟨w.heap.size, 1, none⟩ = some (.int .i64 m) ∧ V.cell? ⟨w.heap.size, 2, none⟩ = some (.slice am mn cm) ∧
            V.cell? ⟨ablk ax, aoff ax + k, none⟩ = some (.int .i64 (nth x k)) ∧ V.cell? ⟨ablk a, aoff a + k, none⟩ = some (.slice ra cols rc) ∧ Below wr.heap.size wr V)
          ((refine HS2.out _ ?_; first | exact (Below.refl _ _).drew | exact Below.next (Below.refl _ _).drew hb4))
          (first
            | (go_at_call 113; ((with_reducible refine (Hk.out _ (Below.refl _ _).drew).mono ?_); rintro e w4 ⟨a4, c4, rfl, hown4, hb4⟩)))
        have hbr4 := Below.next Hbr.out (Below.next (Below.refl _ _).drew hb4)
        have hown5 := own_mono hown4 (show W.heap.size ≤ wr.drew.heap.size from hszr)
        go_wp2_with fail
        go_roundw
        case rel => exact ⟨k + 1, a4, c4, by omega, by go_num, rfl, by rw [Hn.out]; exact hown5, hbr4⟩
        case measure => simp [intOf] <;> omega
    · obtain rfl : k = n := by omega
      have hF := own_mono hown HbW.out.size
      have HF := Lib.hid hF
      have hbF := Below.next HbW.out hbr
      clear hF hown
      go_wp2_with fail
      go_ret
      exact ⟨a1, c1, rfl, HF.out, hbF⟩

/-- the error of a list of n elements -/
def lstE (q : Int) (l : List Int) (n : Nat) : Int := if l.length = n then elsE q l else 4

set_option maxHeartbeats 1600000 in
theorem rList12_any (P M : Int) (am : Option Addr) (mn cm : Nat) (a : Option Addr) (n c : Nat) (l : List Int) (k : Nat) (w : World) (hi : Ints w a n l) :
    Calls Tryz.prog 53 #[.agg #[.int .i64 P, .int .i64 M, .slice am mn cm], .slice a n c, .int .i64 k] w fun e w' => e = .returned (.int .i64 (lstE (orderS P M) l k)) ∧ Below w.heap.size w w' := by
  have hl := hi.len
  go_enter Tryz.func53, Tryz.ntmps53
  go_upto_region 1 with fail
  obtain ⟨W, hW⟩ : ∃ W : World, W = w.alloc (.cells #[.int .i64 P, .int .i64 M, .slice am mn cm] 24) := ⟨_, rfl⟩
  rw [← hW]
  have hbW : Below w.heap.size w W := by rw [hW]; exact below1 _ _
  have x0 : Box W w.heap.size [.int .i64 P, .int .i64 M, .slice am mn cm] := by rw [hW]; exact Box.new _ _ _ rfl
  have c0 := x0.cell 0 rfl
  have c1 := x0.cell 1 rfl
  have c2 := x0.cell 2 rfl
  clear hW x0
  by_cases h1 : n = k
  · have HL : Hid (lstE (orderS P M) l k = elsE (orderS P M) l) := by show _ = _; rw [lstE, if_pos (by omega)]
    have Hc := Lib.hid (rEntries_any P M am mn cm a n c l W (hi.keep hbW))
    have h1' : ((n : Int) != k) = false := by rw [show (n : Int) = k by omega]; simp
    clear h1 hl
    generalize elsE (orderS P M) l = er at *
    go_wp2_with fail
    refine Hc.out.mono ?_
    rintro e w1 ⟨rfl, hb1⟩
    have hF := Below.next hbW hb1
    go_wp2_with fail
    go_ret
    exact ⟨ret_int HL.out.symm, hF⟩
  · have HL : Hid (lstE (orderS P M) l k = 4) := by show _ = _; rw [lstE, if_neg (by omega)]
    have h1' : ((n : Int) != k) = true := by simp only [bne_iff_ne, ne_eq]; omega
    clear h1 hl
    go_wp2_with fail
    go_ret
    exact ⟨ret_int HL.out.symm, hbW⟩

/-- the error of a code and a message -/
def encE (P M : Int) (mod : List Int) (N : Int) (L : List (List Int)) (x : List Int) : Int := if codeE P M mod N L = 0 then lstE (orderS P M) x L.length else codeE P M mod N L
theorem encE_zero {P M : Int} {mod : List Int} {N : Int} {L : List (List Int)} {x : List Int} (h : encE P M mod N L x = 0) : codeE P M mod N L = 0 ∧ x.length = L.length ∧ ∀ k, k < L.length → (tblOf P M.toNat mod).El (nth x k) := by
  unfold encE at h
  split at h
  · rename_i hE
    refine ⟨hE, ?_⟩
    unfold lstE at h
    split at h
    · rename_i hl
      refine ⟨hl, fun k hk => ?_⟩
      unfold elsE at h
      split at h
      · rename_i hq
        obtain ⟨m, rfl, hel, hq2, _⟩ := eq_ops (codeE_zero hE).1
        unfold elsQ at hq
        have h3 := List.all_eq_true.1 hq _ (nth_mem (i := k) (by rw [hl]; exact hk))
        unfold isQ at h3
        rw [Int.toNat_natCast]
        unfold Tbl.El
        rw [← hq2] at h3
        simpa using h3
      · omega
    · omega
  · rename_i h1; exact absurd h h1
def EncPost (P M : Int) (mod : List Int) (N : Int) (L : List (List Int)) (x : List Int) (w : World) (e : Ending) (w' : World) : Prop :=
  Below w.heap.size w w' ∧ ((encE P M mod N L x ≠ 0 ∧ e = .returned (.tuple #[.slice none 0 0, .int .i64 (encE P M mod N L x)])) ∨
    (encE P M mod N L x = 0 ∧ ∃ (m : Nat), N = m ∧ ∃ a1 c1, e = .returned (.tuple #[.slice a1 m c1, .int .i64 0]) ∧ Ints w' a1 m (cmbTo (tblOf P M.toNat mod).ops m x L L.length)))

set_option maxRecDepth 100000 in
set_option maxHeartbeats 4000000 in
theorem rEncode_any (P M : Int) (am : Option Addr) (mn cm : Nat) (mod : List Int) (N : Int) (a : Option Addr) (n c : Nat) (L : List (List Int)) (ax : Option Addr) (nx cx : Nat) (x : List Int) (w : World)
    (hmod : Ints w am mn mod) (hi : Mat w a n L) (hx : Ints w ax nx x) :
    Calls Tryz.prog 21 #[.agg #[.int .i64 P, .int .i64 M, .slice am mn cm, .int .i64 N, .slice a n c], .slice ax nx cx] w (EncPost P M mod N L x w) := by
  have hil := hi.len
  have Hil := Lib.hid hil
  go_enter Tryz.func21, Tryz.ntmps21
  go_wp2_with fail
  obtain ⟨W, hW⟩ : ∃ W : World, W = w.alloc (.cells #[.int .i64 P, .int .i64 M, .slice am mn cm, .int .i64 N, .slice a n c] 27) := ⟨_, rfl⟩
  rw [← hW]
  have hbW : Below w.heap.size w W := by rw [hW]; exact below1 _ _
  have x0 : Box W w.heap.size [.int .i64 P, .int .i64 M, .slice am mn cm, .int .i64 N, .slice a n c] := by rw [hW]; exact Box.new _ _ _ rfl
  have hS : ∀ V, Below W.heap.size W V → V.cell? ⟨w.heap.size, 0, none⟩ = some (.int .i64 P) ∧ V.cell? ⟨w.heap.size, 1, none⟩ = some (.int .i64 M) ∧ V.cell? ⟨w.heap.size, 2, none⟩ = some (.slice am mn cm) ∧ V.cell? ⟨w.heap.size, 3, none⟩ = some (.int .i64 N) ∧ V.cell? ⟨w.heap.size, 4, none⟩ = some (.slice a n c) := fun V hV => by
    have x1 := x0.keep hV
    exact ⟨x1.cell 0 rfl, x1.cell 1 rfl, x1.cell 2 rfl, x1.cell 3 rfl, x1.cell 4 rfl⟩
  have HS := Lib.hid hS
  have HbW := Lib.hid hbW
  clear hW x0 hS
  have hck := rCodeCheck_any P M am mn cm mod N a n c L W (hmod.keep hbW) (hi.keep hbW) fun h => hinv_all h
  rw [rcodeE_eq] at hck
  have Hck := Lib.hid hck
  clear hck hil
  refine Hck.out.mono ?_
  rintro e w1 ⟨rfl, hb1⟩
  have hbw1 := Below.next hbW hb1
  clear Hck
  by_cases hE : codeE P M mod N L = 0
  · obtain ⟨m, hm, hm1, hm64, _⟩ := codeE_fld hE
    subst hm
    obtain ⟨k, hk, hel, hq, hF, hA, _⟩ := eq_ops (codeE_zero hE).1
    subst hk
    obtain ⟨k', e2, hrf, hmods⟩ := fieldRB_rf (P := P) (M := (k : Int)) (mod := mod) (by rw [fieldRB_eq]; exact (codeE_zero hE).1)
    obtain rfl : k = k' := by omega
    have hR := (codeE_rws hE).choose_spec.2.2.2.2
    have hn : n ≤ 256 := by rw [← Hil.out]; exact (codeE_rws hE).choose_spec.2.2.2.1
    have hEn : encE P k mod m L x = lstE (orderS P k) x n := by rw [encE, if_pos hE, Hil.out]
    have HL := Lib.hid (rList12_any P k am mn cm ax nx cx x n w1 (hx.keep hbw1))
    obtain ⟨c0, c1, c2, c3, c4⟩ := HS.out w1 hb1
    by_cases hl : lstE (orderS P k) x n = 0
    · have hz : encE P k mod m L x = 0 := hEn.trans hl
      obtain ⟨_, hxl, hxe⟩ := encE_zero hz
      have hnx : nx = n := by rw [← hx.len, hxl]; exact Hil.out
      subst hnx
      have hRm : Rws (tblOf P k mod).El m L := by
        have h := codeE_fld hE
        obtain ⟨m', em, _, _, _, h⟩ := h
        obtain rfl : m = m' := by omega
        rw [Int.toNat_natCast] at h
        exact h
      rw [Int.toNat_natCast] at hxe
      rw [← hel] at hRm hxe
      have hag := cmbTo_agr hF hA hRm hxe
      have HC : Hid (∀ V, Below w.heap.size w V → Calls Tryz.prog 67 #[.agg #[.int .i64 P, .int .i64 k, .slice am mn cm], .slice ax nx cx, .slice a nx c, .int .i64 m] V fun e w' =>
          Below V.heap.size V w' ∧ ∃ a1 c1, e = .returned (.slice a1 m c1) ∧ Ints w' a1 m (cmbTo (tblOf P k mod).ops m x L L.length)) := fun V hV => by
        refine (rCombine_any P k am mn cm mod ax cx x a nx c L m V ⟨hrf, hmods V am mn (hmod.keep hV)⟩ (hx.keep hV) (hi.keep hV) (fun j hj => hxe j (by rw [Hil.out]; exact hj)) hRm
          (fun j hj => by rw [← hag j (by rw [Hil.out]; exact hj)]; exact (cmb_rs hF hRm hxe j (by rw [Hil.out]; exact hj)).1) (by omega) (by omega)).mono ?_
        rintro e w' ⟨a1, c1, rfl, hown, hb⟩
        refine ⟨hb, a1, c1, rfl, ?_⟩
        rw [hag _ (Nat.le_refl _), Hil.out]
        exact (Ints.own hown).1
      have HP : Hid (∀ a1 c1 w', Below w.heap.size w w' → Ints w' a1 m (cmbTo (tblOf P k mod).ops m x L L.length) → EncPost P k mod m L x w (.returned (.tuple #[.slice a1 m c1, .int .i64 0])) w') := fun a1 c1 w' h1 h2 =>
        ⟨h1, .inr ⟨hz, m, rfl, a1, c1, rfl, by rw [Int.toNat_natCast]; exact h2⟩⟩
      rw [hE]
      rw [hl] at HL
      clear hE hEn hl hz hxl hxe hRm hag hel hq hF hA hrf hmods e2 hR
      go_wp2_with fail
      refine HL.out.mono ?_
      rintro e w2 ⟨rfl, hb2⟩
      have hb12 := Below.next hb1 hb2
      clear c0 c1 c2 c3 c4 HL
      obtain ⟨c0, c1, c2, c3, c4⟩ := HS.out w2 hb12
      have Hc := Lib.hid (HC.out w2 (Below.next HbW.out hb12))
      clear HC
      go_wp2_with fail
      refine Hc.out.mono ?_
      rintro e w3 ⟨hb3, a1, c1', rfl, hI3⟩
      have HF := Lib.hid (HP.out a1 c1' w3 (Below.next HbW.out (Below.next hb12 hb3)) hI3)
      clear HP hI3 Hc
      go_wp2_with fail
      go_ret2
      exact HF.out
    · have hl' : (lstE (orderS P k) x n != 0) = true := by simpa using hl
      have hnz : encE P k mod m L x ≠ 0 := by rw [hEn]; exact hl
      have HP : Hid (∀ w', Below w.heap.size w w' → EncPost P k mod m L x w (.returned (.tuple #[.slice none 0 0, .int .i64 (lstE (orderS P k) x n)])) w') := fun w' h1 => ⟨h1, .inl ⟨hnz, by rw [hEn]⟩⟩
      rw [hE]
      clear hE hEn hnz hl hel hq hF hA hrf hmods e2 hR
      generalize lstE (orderS P k) x n = er at *
      go_wp2_with fail
      refine HL.out.mono ?_
      rintro e w2 ⟨rfl, hb2⟩
      have HF := Lib.hid (HP.out w2 (Below.next hbw1 hb2))
      clear HP HL
      go_wp2_with fail
      go_ret2
      exact HF.out
  · have hE1 : (codeE P M mod N L == 0) = false := by simpa using hE
    have hE2 : (codeE P M mod N L != 0) = true := by simpa using hE
    have hEn : encE P M mod N L x = codeE P M mod N L := by rw [encE, if_neg hE]
    have HP : Hid (EncPost P M mod N L x w (.returned (.tuple #[.slice none 0 0, .int .i64 (codeE P M mod N L)])) w1) := ⟨hbw1, .inl ⟨by rw [hEn]; exact hE, by rw [hEn]⟩⟩
    clear hE hEn
    generalize codeE P M mod N L = er at *
    go_wp2_with fail
    go_ret2
    exact HP.out
end

/- The walks of code.list at any list, code.Encode, codewrightref25.Weight. -/
section
open Go.RowKit

set_option maxHeartbeats 1000000 in
theorem listG_any {w : World} {b : Nat} {G : Tbl} (q : Nat) (x : Int) (hc : w.cell? ⟨q, 0, none⟩ = some (.pointer (some ⟨b, 0, none⟩))) (h : GFw w b G) :
    Calls Tryz.prog 140 #[.int .i64 x, .pointer (some ⟨q, 0, none⟩)] w fun e w' => e = .returned (.bool (!(decide (0 ≤ x) && decide (x < G.q)))) ∧ w = w' := by
  go_enter Tryz.func140, Tryz.ntmps140
  go_wp2_with fail
  refine (gIs x h).mono ?_
  rintro e w' ⟨rfl, rfl⟩
  obtain ⟨z, hz⟩ : ∃ z, (decide (0 ≤ x) && decide (x < G.q)) = z := ⟨_, rfl⟩
  have Hz := Lib.hid hz
  rw [hz]
  clear hz
  cases z
  · go_wp2_with fail
    go_ret
    exact ⟨ret_bool (by rw [Hz.out]; rfl), rfl⟩
  · go_wp2_with fail
    go_ret
    exact ⟨ret_bool (by rw [Hz.out]; rfl), rfl⟩

set_option maxRecDepth 100000 in
set_option maxHeartbeats 1600000 in
theorem indexLG_any (p : Int → Bool) (q : Nat) (a : Option Addr) (n c : Nat) (l : List Int) (w : World) (hi : Ints w a n l) (hf : ∀ k, k < n → Calls Tryz.prog 140 #[.int .i64 (nth l k), .pointer (some ⟨q, 0, none⟩)] w fun e w' => e = .returned (.bool (p (nth l k))) ∧ w = w') :
    Calls Tryz.prog 159 #[.slice a n c, .func (.func 140) #[] #[.pointer (some ⟨q, 0, none⟩)]] w fun e w' => ∃ z : Int, e = .returned (.int .i64 z) ∧ (0 ≤ z ↔ l.any p = true) ∧ w = w' := by
  have hpl := hi.pl
  have hmax := hi.max
  have HF := Lib.hid hf
  have Hl := Lib.hid hi.len
  unfold maxLen at hmax
  clear hf
  go_enter Tryz.func159, Tryz.ntmps159
  go_wp2_with fail
  go_loop [8] (fun iv => ∃ k : Nat, k ≤ n ∧ iv = .int .i64 k ∧ Hid (∀ j, j < k → p (nth l j) = false)) (fun iv => n - (intOf iv).toNat)
  case atStart => exact ⟨0, Nat.zero_le _, rfl, fun j hj => by omega⟩
  case round =>
    obtain ⟨k, hk, rfl, hno⟩ := hrel
    by_cases hlt : k < n
    · have ck := hi.cell k hlt
      have hfk := HF.out k hlt
      obtain ⟨z, hz⟩ : ∃ z, p (nth l k) = z := ⟨_, rfl⟩
      rw [hz] at hfk
      have Hk := Lib.hid hfk
      cases z
      · have Hn : Hid (∀ j, j < k + 1 → p (nth l j) = false) := fun j hj => by
          by_cases e : j = k
          · subst e; exact hz
          · exact hno.out j (by omega)
        clear hz hfk hno
        go_wp2_with fail
        refine Hk.out.mono ?_
        rintro e w' ⟨rfl, rfl⟩
        go_wp2_with fail
        go_round
        case rel => exact ⟨k + 1, by omega, by go_num, Hn.out⟩
        case measure => simp [intOf] <;> omega
      · have Hy : Hid (l.any p = true) := by
          show _ = _
          rw [List.any_eq_true]
          exact ⟨nth l k, nth_mem (by rw [Hl.out]; exact hlt), hz⟩
        clear hz hfk hno
        go_wp2_with fail
        refine Hk.out.mono ?_
        rintro e w' ⟨rfl, rfl⟩
        go_wp2_with fail
        go_ret
        exact ⟨k, rfl, ⟨fun _ => by first | exact Hy.out | exact List.any_eq_true.1 Hy.out, fun _ => Int.natCast_nonneg _⟩, rfl⟩
    · obtain rfl : k = n := by omega
      have Hy : Hid (l.any p = false) := by
        show _ = _
        rw [List.any_eq_false]
        intro x hx
        obtain ⟨j, hj, rfl⟩ := List.mem_iff_getElem.1 hx
        have := hno.out j (by rw [← Hl.out]; exact hj)
        rw [nth_getElem hj] at this
        rw [this]; decide
      go_wp2_with fail
      go_ret
      exact ⟨-1, rfl, ⟨fun h => absurd h (by omega), fun h => by have h2 : l.any p = true := (by first | exact h | exact List.any_eq_true.2 h); rw [Hy.out] at h2; exact absurd h2 (by decide)⟩, rfl⟩
theorem containsLG_any (p : Int → Bool) (q : Nat) (a : Option Addr) (n c : Nat) (l : List Int) (w : World) (hi : Ints w a n l) (hf : ∀ k, k < n → Calls Tryz.prog 140 #[.int .i64 (nth l k), .pointer (some ⟨q, 0, none⟩)] w fun e w' => e = .returned (.bool (p (nth l k))) ∧ w = w') :
    Calls Tryz.prog 139 #[.slice a n c, .func (.func 140) #[] #[.pointer (some ⟨q, 0, none⟩)]] w fun e w' => e = .returned (.bool (l.any p)) ∧ w = w' := by
  have Hc := Lib.hid (indexLG_any p q a n c l w hi hf)
  clear hf
  go_enter Tryz.func139, Tryz.ntmps139
  go_wp2_with fail
  refine Hc.out.mono ?_
  rintro e w' ⟨z, rfl, hz, rfl⟩
  by_cases h0 : 0 ≤ z
  · have Hz : Hid (l.any p = true) := hz.1 h0
    have h0' : decide (0 ≤ z) = true := by simpa using h0
    clear hz h0
    go_wp2_with fail
    go_ret
    exact ⟨ret_bool Hz.out.symm, rfl⟩
  · have Hz : Hid (l.any p = false) := by
      show _ = _
      cases h : l.any p
      · rfl
      · exact absurd (hz.2 h) h0
    have h0' : decide (0 ≤ z) = false := by simpa using h0
    clear hz h0
    go_wp2_with fail
    go_ret
    exact ⟨ret_bool Hz.out.symm, rfl⟩
theorem any_els (q : Int) (l : List Int) : l.any (fun x => !(decide (0 ≤ x) && decide (x < q))) = !(elsQ q l) := by
  unfold elsQ
  induction l with
  | nil => rfl
  | cons x l ih =>
    rw [List.any_cons, List.all_cons, ih]
    unfold isQ
    cases (decide (0 ≤ x) && decide (x < q)) <;> simp

set_option maxRecDepth 100000 in
set_option maxHeartbeats 4000000 in
theorem codeListG_any (P M : Int) (am : Option Addr) (mn cm : Nat) (mod : List Int) (ax : Option Addr) (nx cx : Nat) (x : List Int) (n : Nat) (w : World) (hmod : Ints w am mn mod) (hx : Ints w ax nx x) (hB : fieldB P M mod = true) :
    Calls Tryz.prog 98 #[.agg #[.int .i64 P, .int .i64 M, .slice am mn cm], .slice ax nx cx, .int .i64 n] w fun e w' => e = .returned (.int .i64 (lstE (tblOf P M.toNat mod).q x n)) ∧ Below w.heap.size w w' := by
  have hxl := hx.len
  go_enter Tryz.func98, Tryz.ntmps98
  go_upto_region 1 with fail
  obtain ⟨W, hW⟩ : ∃ W : World, W = w.alloc (.cells #[.int .i64 P, .int .i64 M, .slice am mn cm] 24) := ⟨_, rfl⟩
  rw [← hW]
  have hbW : Below w.heap.size w W := by rw [hW]; exact below1 _ _
  have x0 : Box W w.heap.size [.int .i64 P, .int .i64 M, .slice am mn cm] := by rw [hW]; exact Box.new _ _ _ rfl
  have c0 := x0.cell 0 rfl
  have c1 := x0.cell 1 rfl
  have c2 := x0.cell 2 rfl
  clear hW x0
  by_cases hnx : nx = n
  rotate_left
  · have hnn : ((nx : Int) != n) = true := by simp; omega
    have HL : Hid (lstE (tblOf P M.toNat mod).q x n = 4) := by show _ = _; rw [lstE, if_neg (by omega)]
    clear hnx hxl
    go_wp2_with fail
    go_ret
    exact ⟨ret_int HL.out.symm, hbW⟩
  obtain rfl : nx = n := hnx
  have hnn : ((nx : Int) != nx) = false := by simp
  have HL : Hid (lstE (tblOf P M.toNat mod).q x nx = if elsQ (tblOf P M.toNat mod).q x = true then 0 else 2) := by show _ = _; rw [lstE, if_pos hxl]; rfl
  clear hxl
  go_wp2_with fail
  refine (fieldNew_any P M am mn cm mod W (hmod.keep hbW)).mono ?_
  rintro e w4 (⟨hB2, _, _⟩ | ⟨_, b, rfl, hG, hbl, hb4⟩)
  · rw [hB] at hB2; cases hB2
  have hbw4 := Below.next hbW hb4
  have hb5 := below1 w4 (.cells #[.pointer (some ⟨b, 0, none⟩)] 89)
  have hc5 := cell_new w4 (.pointer (some ⟨b, 0, none⟩)) 89
  have hcc := containsLG_any (fun y => !(decide (0 ≤ y) && decide (y < (tblOf P M.toNat mod).q))) w4.heap.size ax nx cx x _ (hx.keep (Below.next hbw4 hb5)) fun k hk => listG_any w4.heap.size (nth x k) hc5 (hG.gf.keep hb5)
  rw [any_els] at hcc
  obtain ⟨z, hz⟩ : ∃ z, elsQ (tblOf P M.toNat mod).q x = z := ⟨_, rfl⟩
  rw [hz] at hcc HL
  have Hc := Lib.hid hcc
  have hF := Below.next hbw4 hb5
  have HF := Lib.hid hF
  clear c0 c1 c2 hG hbl hB hF hcc hz
  cases z
  · have HL2 : Hid (lstE (tblOf P M.toNat mod).q x nx = 2) := by show _ = _; rw [HL.out]; rfl
    go_wp2_with fail
    refine Hc.out.mono ?_
    rintro e w' ⟨rfl, rfl⟩
    go_wp2_with fail
    go_ret
    exact ⟨ret_int HL2.out.symm, HF.out⟩
  · have HL2 : Hid (lstE (tblOf P M.toNat mod).q x nx = 0) := by show _ = _; rw [HL.out]; rfl
    go_wp2_with fail
    refine Hc.out.mono ?_
    rintro e w' ⟨rfl, rfl⟩
    go_wp2_with fail
    go_ret
    exact ⟨ret_int HL2.out.symm, HF.out⟩

set_option maxRecDepth 100000 in
set_option maxHeartbeats 4000000 in
theorem encode_any (P M : Int) (am : Option Addr) (mn cm : Nat) (mod : List Int) (m : Nat) (a : Option Addr) (n c : Nat) (L : List (List Int)) (ax : Option Addr) (nx cx : Nat) (x : List Int) (w : World) (hmod : Ints w am mn mod) (hi : Mat w a n L) (hx : Ints w ax nx x) (hE : codeE P M mod m L = 0) :
    Calls Tryz.prog 52 #[.agg #[.int .i64 P, .int .i64 M, .slice am mn cm, .int .i64 m, .slice a n c], .slice ax nx cx] w fun e w' => Below w.heap.size w w' ∧
      ((lstE (tblOf P M.toNat mod).q x n ≠ 0 ∧ e = .returned (.tuple #[.slice none 0 0, .int .i64 (lstE (tblOf P M.toNat mod).q x n)])) ∨
       (lstE (tblOf P M.toNat mod).q x n = 0 ∧ ∃ a1 c1, e = .returned (.tuple #[.slice a1 m c1, .int .i64 0]) ∧ Ints w' a1 m (cmbTo (tblOf P M.toNat mod).ops m x L n))) := by
  obtain ⟨N', em, hm1, hm64, F, hR⟩ := codeE_fld hE
  obtain rfl : m = N' := by omega
  have hn256 : n ≤ 256 := by rw [← hi.len]; exact (codeE_rws hE).choose_spec.2.2.2.1
  have hfB := (codeE_zero hE).1
  have HCk : Hid (∀ V, Below w.heap.size w V → Calls Tryz.prog 63 #[.agg #[.int .i64 P, .int .i64 M, .slice am mn cm, .int .i64 m, .slice a n c]] V fun e w' => e = .returned (.int .i64 0) ∧ Below V.heap.size V w') := fun V hV => by
    have h := codeCheck_any P M am mn cm mod m a n c L V (hmod.keep hV) (hi.keep hV)
    rw [hE] at h
    exact h
  have HLi : Hid (∀ V, Below w.heap.size w V → Calls Tryz.prog 98 #[.agg #[.int .i64 P, .int .i64 M, .slice am mn cm], .slice ax nx cx, .int .i64 n] V fun e w' => e = .returned (.int .i64 (lstE (tblOf P M.toNat mod).q x n)) ∧ Below V.heap.size V w') := fun V hV =>
    codeListG_any P M am mn cm mod ax nx cx x n V (hmod.keep hV) (hx.keep hV) hfB
  have HVe : Hid (lstE (tblOf P M.toNat mod).q x n = 0 → ∀ V, Below w.heap.size w V → Calls Tryz.prog 56 #[.agg #[.int .i64 P, .int .i64 M, .slice am mn cm], .slice ax nx cx, .agg #[.int .i64 m, .slice a n c]] V fun e w' => ∃ a1 c1, e = .returned (.tuple #[.slice a1 m c1, .int .i64 0]) ∧ Ints w' a1 m (cmbTo (tblOf P M.toNat mod).ops m x L n) ∧ Below V.heap.size V w') := fun hz V hV => by
    unfold lstE at hz
    by_cases hl : x.length = n
    · rw [if_pos hl] at hz
      unfold elsE at hz
      by_cases hq : elsQ (tblOf P M.toNat mod).q x = true
      · have hnx : nx = n := by rw [← hx.len]; exact hl
        subst hnx
        refine vecM_any P M am mn cm mod ax cx x m a nx c L V (hmod.keep hV) (hx.keep hV) (hi.keep hV) hfB hR (fun k hk => ?_) hm1 hm64 hn256
        unfold elsQ isQ at hq
        rw [List.all_eq_true] at hq
        have h1 := hq _ (nth_mem (l := x) (i := k) (by omega))
        simp at h1
        unfold Tbl.El
        exact h1
      · rw [if_neg hq] at hz; omega
    · rw [if_neg hl] at hz; omega
  obtain ⟨er, her⟩ : ∃ er, lstE (tblOf P M.toNat mod).q x n = er := ⟨_, rfl⟩
  obtain ⟨X, hX⟩ : ∃ X, cmbTo (tblOf P M.toNat mod).ops m x L n = X := ⟨_, rfl⟩
  rw [her] at HLi HVe ⊢
  rw [hX] at HVe ⊢
  clear her hX hfB hE em F hR hmod hi hx
  go_enter Tryz.func52, Tryz.ntmps52
  go_wp2_with fail
  obtain ⟨W, hW⟩ : ∃ W : World, W = w.alloc (.cells #[.int .i64 P, .int .i64 M, .slice am mn cm, .int .i64 m, .slice a n c] 27) := ⟨_, rfl⟩
  rw [← hW]
  have hbW : Below w.heap.size w W := by rw [hW]; exact below1 _ _
  have x0 : Box W w.heap.size [.int .i64 P, .int .i64 M, .slice am mn cm, .int .i64 m, .slice a n c] := by rw [hW]; exact Box.new _ _ _ rfl
  have HS : Hid (∀ V, Below W.heap.size W V → V.cell? ⟨w.heap.size, 0, none⟩ = some (.int .i64 P) ∧ V.cell? ⟨w.heap.size, 1, none⟩ = some (.int .i64 M) ∧ V.cell? ⟨w.heap.size, 2, none⟩ = some (.slice am mn cm) ∧ V.cell? ⟨w.heap.size, 3, none⟩ = some (.int .i64 m) ∧ V.cell? ⟨w.heap.size, 4, none⟩ = some (.slice a n c)) := fun V hV => by
    have x1 := x0.keep hV
    exact ⟨x1.cell 0 rfl, x1.cell 1 rfl, x1.cell 2 rfl, x1.cell 3 rfl, x1.cell 4 rfl⟩
  have HbW := Lib.hid hbW
  have Hck := Lib.hid (HCk.out W hbW)
  clear hW x0 hbW HCk
  refine Hck.out.mono ?_
  rintro e w1 ⟨rfl, hb1⟩
  obtain ⟨c0, c1, c2, c3, c4⟩ := HS.out w1 hb1
  have Hli := Lib.hid (HLi.out w1 (Below.next HbW.out hb1))
  clear Hck HLi
  go_wp2_with fail
  refine Hli.out.mono ?_
  rintro e w2 ⟨rfl, hb2⟩
  have hB2 := Below.next hb1 hb2
  clear c0 c1 c2 c3 c4 Hli hb1
  by_cases hz : er = 0
  rotate_left
  · have hz' : (er != 0) = true := by simpa using hz
    have Hz := Lib.hid hz
    have hF := Below.next HbW.out hB2
    clear hz
    go_wp2_with fail
    go_ret2
    exact ⟨hF, .inl ⟨Hz.out, rfl⟩⟩
  subst hz
  have HV := Lib.hid (HVe.out rfl)
  have HS2 : Hid (∀ V, Below w2.heap.size w2 V → V.cell? ⟨w.heap.size, 0, none⟩ = some (.int .i64 P) ∧ V.cell? ⟨w.heap.size, 1, none⟩ = some (.int .i64 M) ∧ V.cell? ⟨w.heap.size, 2, none⟩ = some (.slice am mn cm) ∧ V.cell? ⟨w.heap.size, 3, none⟩ = some (.int .i64 m) ∧ V.cell? ⟨w.heap.size, 4, none⟩ = some (.slice a n c) ∧ Below w2.heap.size w2 V) := fun V hV => by
    obtain ⟨q0, q1, q2, q3, q4⟩ := HS.out V (Below.next hB2 hV)
    exact ⟨q0, q1, q2, q3, q4, hV⟩
  have Hbw := Lib.hid (Below.next HbW.out hB2)
  clear HVe hB2 hb2
  go_wp2_with fail
  go_cut [4, 5] (fun u v wx => ∃ a1 c1, u = .slice a1 m c1 ∧ v = .int .i64 0 ∧ Ints wx a1 m X ∧ Below w2.heap.size w2 wx)
  case first =>
    go_region_held3 (fun V => V.cell? ⟨w.heap.size, 0, none⟩ = some (.int .i64 P) ∧ V.cell? ⟨w.heap.size, 1, none⟩ = some (.int .i64 M) ∧ V.cell? ⟨w.heap.size, 2, none⟩ = some (.slice am mn cm) ∧ V.cell? ⟨w.heap.size, 3, none⟩ = some (.int .i64 m) ∧ V.cell? ⟨w.heap.size, 4, none⟩ = some (.slice a n c) ∧ Below w2.heap.size w2 V)
      ((refine HS2.out _ ?_; first | exact hb8 | exact hb7 | exact (Below.refl _ _).drew | assumption | (go_split_ands; assumption)))
      (first
        | (go_at_call 70; ((with_reducible refine (gen_any P M am mn cm m a n c _).mono ?_); rintro e w7 ⟨rfl, hb7'⟩; have hb7 : Below w2.heap.size w2 w7 := (by go_split_ands; exact Below.next (by assumption) hb7')))
        | (go_at_call 56; ((with_reducible refine (HV.out _ (Below.next Hbw.out (by go_split_ands; assumption))).mono ?_); rintro e w8 ⟨a8, k8, rfl, hI8, hb8'⟩; have hb8 : Below w2.heap.size w2 w8 := (by go_split_ands; exact Below.next (by assumption) hb8'))))
    all_goals (go_wp2_with fail; go_meet; exact ⟨a8, k8, rfl, rfl, hI8, hb8⟩)
  obtain ⟨a8, k8, rfl, rfl, hI8, hb8⟩ := hcut
  generalize wc = V at *
  have hF := Lib.hid (And.intro (Below.next Hbw.out hb8) hI8)
  clear hI8
  go_wp2_with fail
  go_ret2
  first
    | exact ⟨hF.out.1, .inr ⟨rfl, a8, k8, rfl, hF.out.2⟩⟩
    | exact ⟨hF.out.1, a8, ⟨k8, rfl⟩, hF.out.2⟩

set_option maxRecDepth 100000 in
set_option maxHeartbeats 1600000 in
theorem rWeight25_any (a : Option Addr) (n c : Nat) (l : List Int) (w : World) (h : Ints w a n l) :
    Calls Tryz.prog 54 #[.slice a n c] w fun e w' => e = .returned (.int .i64 (wtL l)) ∧ w' = w := by
  have Hl := Lib.hid h.len
  have hpl := h.pl
  have hmax := h.max
  unfold maxLen at hmax
  have hle : ∀ k, k ≤ n → (wtL (l.take k) : Int) ≤ k := fun k hk => by
    have h1 : wtL (l.take k) ≤ (l.take k).length := List.countP_le_length
    rw [List.length_take] at h1
    omega
  have Hle := Lib.hid hle
  have HT : Hid (wtL (l.take n) = wtL l) := by show _ = _; rw [List.take_of_length_le (by rw [Hl.out]; exact Nat.le_refl _)]
  clear hle
  go_enter Tryz.func54, Tryz.ntmps54
  go_wp2_with fail
  go_loopw [3, 4] (fun cv iv wr => ∃ k : Nat, k ≤ n ∧ iv = .int .i64 k ∧ cv = .int .i64 (wtL (l.take k)) ∧ wr = w) (fun _ iv _ => n - (intOf iv).toNat)
  case atStart => exact ⟨0, Nat.zero_le _, rfl, by simp [wtL], rfl⟩
  case round =>
    obtain ⟨k, hk, rfl, rfl, rfl⟩ := hrel
    by_cases hlt : k < n
    · have ck := h.cell k hlt
      have hkl : k < l.length := by rw [Hl.out]; exact hlt
      have hst : wtL (l.take (k + 1)) = wtL (l.take k) + (if nth l k ≠ 0 then 1 else 0) := by
        unfold wtL
        rw [List.take_succ_eq_append_getElem hkl, List.countP_append, List.countP_singleton, nth_getElem hkl]
        simp
      have hb := Hle.out k hk
      obtain ⟨t, ht⟩ : ∃ t, wtL (l.take k) = t := ⟨_, rfl⟩
      obtain ⟨y, hy⟩ : ∃ y, nth l k = y := ⟨_, rfl⟩
      rw [ht] at hst hb ⊢
      rw [hy] at hst ck
      clear ht hy hkl
      by_cases h0 : y = 0
      · have hd : (y != 0) = false := by simpa using h0
        have Hst : Hid (wtL (l.take (k + 1)) = t) := by show _ = _; rw [hst, if_neg (by simpa using h0)]; rfl
        clear h0 hst
        go_wp2_with fail
        go_roundw
        case rel => exact ⟨k + 1, by omega, by go_num, by rw [Hst.out], by simp⟩
        case measure => simp [intOf] <;> omega
      · have hd : (y != 0) = true := by simpa using h0
        have Hst : Hid (wtL (l.take (k + 1)) = t + 1) := by show _ = _; rw [hst, if_pos h0]
        clear h0 hst
        go_wp2_with fail
        go_roundw
        case rel => exact ⟨k + 1, by omega, by go_num, by rw [Hst.out]; go_num, by simp⟩
        case measure => simp [intOf] <;> omega
    · obtain rfl : k = n := by omega
      rw [HT.out]
      go_wp2_with fail
      go_ret
      exact ⟨rfl, rfl⟩
end

/- Lists of bytes; the walks of codewrightlaw25: member, perm. -/
section
open Go.RowKit

/-- a slice of bytes -/
structure U8s (w : World) (a : Option Addr) (n : Nat) (l : List Int) : Prop where
  len : l.length = n
  pl : Pl a n
  max : n ≤ maxLen
  cell : ∀ i, i < n → w.cell? ⟨ablk a, aoff a + i, none⟩ = some (.int .u8 (nth l i))
  bd : ∀ i, i < n → 0 ≤ nth l i ∧ nth l i ≤ 255
theorem U8s.keep {w w' : World} {a : Option Addr} {n : Nat} {l : List Int} (h : U8s w a n l) (hb : Below w.heap.size w w') : U8s w' a n l :=
  ⟨h.len, h.pl, h.max, fun i hi => (hb.cell (World.block_lt_of_cell? w _ (h.cell i hi))).trans (h.cell i hi), h.bd⟩

set_option maxRecDepth 100000 in
set_option maxHeartbeats 1600000 in
theorem member25_any (a : Option Addr) (n c : Nat) (l : List Int) (v : Int) (w : World) (h : Ints w a n l) :
    Calls Tryz.prog 37 #[.slice a n c, .int .i64 v] w fun e w' => e = .returned (.bool (decide (v ∈ l))) ∧ w' = w := by
  have Hl := Lib.hid h.len
  have hpl := h.pl
  have hmax := h.max
  unfold maxLen at hmax
  go_enter Tryz.func37, Tryz.ntmps37
  go_wp2_with fail
  go_loopw [9] (fun iv wr => ∃ k : Nat, k ≤ n ∧ iv = .int .i64 k ∧ Hid (inTo l v k = false) ∧ wr = w) (fun i _ => n - (intOf i).toNat)
  case atStart => exact ⟨0, Nat.zero_le _, rfl, by show _ = _; simp [inTo], rfl⟩
  case round =>
    obtain ⟨k, hk, rfl, hno, rfl⟩ := hrel
    by_cases hlt : k < n
    · have c1 := h.cell k hlt
      have Hs := Lib.hid (inTo_succ (l := l) v (show k < l.length by rw [Hl.out]; exact hlt))
      by_cases he : nth l k = v
      · have he' : (nth l k == v) = true := by rw [he]; simp
        have Hm : Hid (decide (v ∈ l) = true) := by show _ = _; rw [← he]; simpa using nth_mem (show k < l.length by rw [Hl.out]; exact hlt)
        clear he
        go_wp2_with fail
        go_ret
        exact ⟨ret_bool Hm.out.symm, rfl⟩
      · have he' : (nth l k == v) = false := by simpa using he
        have Hn2 : Hid (inTo l v (k + 1) = false) := by show _ = _; rw [Hs.out, hno.out, decide_eq_false he]; rfl
        clear he
        go_wp2_with fail
        go_roundw
        case rel => exact ⟨k + 1, by omega, by go_num, Hn2.out, by simp⟩
        case measure => simp [intOf] <;> omega
    · obtain rfl : k = n := by omega
      have Hm : Hid (decide (v ∈ l) = false) := by show _ = _; rw [← inTo_all v Hl.out]; exact hno.out
      go_wp2_with fail
      go_ret
      exact ⟨ret_bool Hm.out.symm, rfl⟩

theorem swap_perm (Q : List Int) {i j : Nat} (hi : i < Q.length) (hj : j < Q.length) : ((Q.set i (nth Q j)).set j (nth Q i)).Perm Q := by
  rw [List.perm_iff_count]
  intro x
  rw [List.count_set (by simpa using hj), List.count_set hi, List.getElem_set, nth_getElem hi, nth_getElem hj]
  have h1 : Q[i] = x → 0 < Q.count x := fun e => List.count_pos_iff.2 (e ▸ List.getElem_mem hi)
  by_cases e : i = j
  · subst e
    by_cases a : Q[i] = x
    · have := h1 a; simp [a]; omega
    · simp [a]
  · by_cases a : Q[i] = x
    · have := h1 a
      by_cases b : Q[j] = x <;> simp [a, b, e] <;> omega
    · by_cases b : Q[j] = x <;> simp [a, b, e]
def idsTo (m : Nat) : List Int := (List.range m).map Int.ofNat
theorem idsTo_succ (m : Nat) : idsTo (m + 1) = idsTo m ++ [(m : Int)] := by unfold idsTo; rw [List.range_succ, List.map_append]; rfl
theorem idsTo_len (m : Nat) : (idsTo m).length = m := by simp [idsTo]

set_option maxRecDepth 100000 in
set_option maxHeartbeats 3200000 in
theorem perm25_any (a : Option Addr) (n c : Nat) (l : List Int) (m : Nat) (w : World) (h : U8s w a n l) (hm : m ≤ 1000) :
    Calls Tryz.prog 36 #[.slice a n c, .int .i64 m] w fun e w' => Below w.heap.size w w' ∧ ∃ a1 c1 Q, e = .returned (.slice a1 m c1) ∧ Ints w' a1 m Q ∧ PermN m Q := by
  have hpl := h.pl
  have hmax := h.max
  unfold maxLen at hmax
  go_enter Tryz.func36, Tryz.ntmps36
  go_wp2_with fail
  go_loopw [5, 10] (fun ov iv wr => ∃ (k : Nat) (a1 : Option Addr) (c1 : Nat), k ≤ m ∧ iv = .int .i64 k ∧ ov = .slice a1 k c1 ∧ wr.ownsRow w.heap.size 3 1 (.slice a1 k c1) k ((idsTo k).map (Value.int .i64)) ∧ Below w.heap.size w wr) (fun _ iv _ => m - (intOf iv).toNat)
  case atStart => exact ⟨0, none, 0, Nat.zero_le _, rfl, rfl, own_none, Below.refl _ _⟩
  case round =>
    obtain ⟨k, a1, c1, hk, rfl, rfl, hown, hbr⟩ := hrel
    by_cases hlt : k < m
    · have Hs := Lib.hid (idsTo_succ k)
      have hsz := hbr.size
      have hcn := cell_new wr (.int .i64 k) 3
      go_wp2_with (at_builtin; refine wpList_push rfl _ _ 22 3 rfl (.int .i64 0) 8 Tryz.underlying22 infoInt rfl w.heap.size a1 k c1 _ rfl (hown.alloc _) ⟨wr.heap.size, 0, none⟩ 1 (.int .i64 k) rfl hcn rfl (by omega) (by unfold maxLen; omega) (by simp; omega) ?_; intro a5 c5 w5 hown5 hgr5 hap5)
      go_roundw
      case rel => exact ⟨k + 1, a5, c5, by omega, by go_num, rfl, by rw [Hs.out]; simpa using hown5, Below.app (Below.allocN hbr _) (hown.alloc _) hgr5 (Nat.le_refl _) (Below.allocN hbr _).size⟩
      case measure => simp [intOf] <;> omega
    · obtain rfl : k = m := by omega
      generalize wr = X at *
      go_wp2_with fail
      go_loopw [20] (fun iv wr => ∃ (i : Nat) (Q : List Int), i ≤ k ∧ iv = .int .i64 i ∧ Hid (PermN k Q) ∧ wr.ownsRow w.heap.size 3 1 (.slice a1 k c1) k (Q.map (Value.int .i64)) ∧ Below w.heap.size w wr) (fun iv _ => k - (intOf iv).toNat)
      case atStart => exact ⟨0, idsTo k, Nat.zero_le _, rfl, List.Perm.refl _, hown, hbr⟩
      case round =>
        clear hown hbr
        obtain ⟨i, Q, hi, rfl, hQ, hown, hbr⟩ := hrel
        by_cases hlt2 : i < k
        · obtain ⟨hints, hmine⟩ := Ints.own hown
          have hpl1 := hints.pl
          have HQl := Lib.hid hints.len
          have hj : ∃ j : Nat, j < k ∧ ∀ (hn : i < n), (i : Int) + nth l i % ((k : Int) - i) = j := by
            by_cases hn : i < n
            · have hb := h.bd i hn
              have h1 := Int.emod_nonneg (nth l i) (show ((k : Int) - i) ≠ 0 by omega)
              have h2 := Int.emod_lt_of_pos (nth l i) (show 0 < ((k : Int) - i) by omega)
              exact ⟨((i : Int) + nth l i % ((k : Int) - i)).toNat, by omega, fun _ => by omega⟩
            · exact ⟨i, hlt2, fun hn' => absurd hn' hn⟩
          obtain ⟨j, hjk, hje⟩ := hj
          have key : ∀ j : Nat, j < k → ∃ V : World, V = (wr.setCell ⟨ablk a1, aoff a1 + i, none⟩ (.int .i64 (nth Q j))).setCell ⟨ablk a1, aoff a1 + j, none⟩ (.int .i64 (nth Q i)) ∧ V.ownsRow w.heap.size 3 1 (.slice a1 k c1) k (((Q.set i (nth Q j)).set j (nth Q i)).map (Value.int .i64)) ∧ Below w.heap.size w V := fun j hj => by
            have o1 := own_set (own_set hown i hlt2 (.int .i64 (nth Q j))) j hj (.int .i64 (nth Q i))
            rw [← List.map_set, ← List.map_set] at o1
            have hB := (hmine (by omega)).1
            exact ⟨_, rfl, o1, (hbr.setCell (p := ⟨ablk a1, aoff a1 + i, none⟩) hB (.int .i64 (nth Q j))).setCell (p := ⟨ablk a1, aoff a1 + j, none⟩) hB (.int .i64 (nth Q i))⟩
          have Hkey := Lib.hid key
          have ci := hints.cell i hlt2
          have fi := (hmine (by omega)).2 i hlt2
          have Hown := Lib.hid (And.intro hown hbr)
          have hl2 : (i : Int) < k := by omega
          by_cases hn : i < n
          · have cl := (h.keep hbr).cell i hn
            have hb := h.bd i hn
            have hje := hje hn
            have cj := hints.cell j hjk
            have fj := (hmine (by omega)).2 j hjk
            have hjk2 : (j : Int) < k := by omega
            have kw1 : IntKind.i64.wrap ((k : Int) - i) = (k : Int) - i := IntWalk.i64_in _ (by omega)
            have kw2 : IntKind.i64.wrap (nth l i) = nth l i := IntWalk.i64_in _ (by omega)
            have kr : (nth l i).tmod ((k : Int) - i) = nth l i % ((k : Int) - i) := IntWalk.rem_in _ _ (by omega)
            have hk0 : ((k : Int) - i) ≠ 0 := by omega
            have hk0' : (((k : Int) - i) == 0) = false := by simp; omega
            obtain ⟨r, hr⟩ : ∃ r, nth l i % ((k : Int) - i) = r := ⟨_, rfl⟩
            rw [hr] at kr hje
            have kw3 : IntKind.i64.wrap r = r := IntWalk.i64_in _ (by omega)
            have kw4 : IntKind.i64.wrap ((i : Int) + r) = j := by rw [hje]; exact IntWalk.i64_in _ (by omega)
            have Hje := Lib.hid hje
            by_cases hij : j = i
            · subst hij
              obtain ⟨V, hV, oV, bV⟩ := Hkey.out j hjk
              have HV := Lib.hid hV
              have HoV := Lib.hid (And.intro oV bV)
              have k3 := World.cell?_setCell_same wr _ (.int .i64 (nth Q j)) ci
              have hP : Hid (PermN k ((Q.set j (nth Q j)).set j (nth Q j))) := (swap_perm Q (by rw [HQl.out]; exact hjk) (by rw [HQl.out]; exact hjk)).trans hQ.out
              clear hV oV bV hints hmine key Hkey hje hr
              go_wp2_with fail
              go_region
              go_wp2_with fail
              go_roundw
              case rel => exact ⟨j + 1, _, by omega, by go_num, hP.out, by rw [← HV.out]; exact own_keep HoV.out.1 (Below.refl _ _).drew, by rw [← HV.out]; exact Below.next HoV.out.2 (Below.refl _ _).drew⟩
              case measure => simp [intOf] <;> omega
            · obtain ⟨V, hV, oV, bV⟩ := Hkey.out j hjk
              have HV := Lib.hid hV
              have HoV := Lib.hid (And.intro oV bV)
              have k3 : (wr.setCell ⟨ablk a1, aoff a1 + i, none⟩ (.int .i64 (nth Q j))).cell? ⟨ablk a1, aoff a1 + j, none⟩ = some (.int .i64 (nth Q j)) := by
                rw [World.cell?_setCell_other _ _ _ _ (by simp <;> omega)]; exact cj
              have hP : Hid (PermN k ((Q.set i (nth Q j)).set j (nth Q i))) := (swap_perm Q (by rw [HQl.out]; exact hlt2) (by rw [HQl.out]; exact hjk)).trans hQ.out
              clear hV oV bV hints hmine key Hkey hje hr
              go_wp2_with fail
              go_region
              go_wp2_with fail
              go_roundw
              case rel => exact ⟨i + 1, _, by omega, by go_num, hP.out, by rw [← HV.out]; exact own_keep HoV.out.1 (Below.refl _ _).drew, by rw [← HV.out]; exact Below.next HoV.out.2 (Below.refl _ _).drew⟩
              case measure => simp [intOf] <;> omega
          · obtain ⟨V, hV, oV, bV⟩ := Hkey.out i hlt2
            have HV := Lib.hid hV
            have HoV := Lib.hid (And.intro oV bV)
            have k3 := World.cell?_setCell_same wr _ (.int .i64 (nth Q i)) ci
            have hP : Hid (PermN k ((Q.set i (nth Q i)).set i (nth Q i))) := (swap_perm Q (by rw [HQl.out]; exact hlt2) (by rw [HQl.out]; exact hlt2)).trans hQ.out
            clear hV oV bV hints hmine key Hkey hje
            go_wp2_with fail
            go_region
            go_wp2_with fail
            go_roundw
            case rel => exact ⟨i + 1, _, by omega, by go_num, hP.out, by rw [← HV.out]; exact own_keep HoV.out.1 (Below.refl _ _).drew, by rw [← HV.out]; exact Below.next HoV.out.2 (Below.refl _ _).drew⟩
            case measure => simp [intOf] <;> omega
        · obtain rfl : i = k := by omega
          have hF := Lib.hid (And.intro hown hbr)
          clear hown hbr
          go_wp2_with fail
          go_ret
          exact ⟨hF.out.2, a1, c1, Q, rfl, (Ints.own hF.out.1).1, hQ.out⟩
end

/- The walk of InfosetBound. -/
section
open Go.RowKit

set_option maxRecDepth 100000 in
set_option maxHeartbeats 16000000 in
theorem infBound_any (P M : Int) (am : Option Addr) (mn cm : Nat) (mod : List Int) (N : Int) (a : Option Addr) (n c : Nat) (L : List (List Int)) (av : Option Addr) (nv cv : Nat) (v : List Int) (z0 : Int) (w : World)
    (hmod : Ints w am mn mod) (hi : Mat w a n L) (hv : Ints w av nv v) (hz0 : 0 ≤ z0 ∧ z0 ≤ 255) :
    Calls Tryz.prog 12 #[.agg #[.int .i64 P, .int .i64 M, .slice am mn cm, .int .i64 N, .slice a n c], .slice av nv cv, .int .u8 z0] w fun e w' => e = .returned (.bool true) ∧ Below w.heap.size w w' := by
  have HF : Hid (∀ V, Below w.heap.size w V → Calls Tryz.prog 25 #[.agg #[.int .i64 P, .int .i64 M, .slice am mn cm, .int .i64 N, .slice a n c]] V (SomeBool V)) :=
    fun V hV => few25_any P M am mn cm N a n c L V (hi.keep hV)
  have HCk := Lib.hid (fun V (hV : Below w.heap.size w V) => rCheck_any P M am mn cm mod N a n c L V (hmod.keep hV) (hi.keep hV))
  have Hil := Lib.hid hi.len
  have hpla := hi.pl
  go_enter Tryz.func12, Tryz.ntmps12
  go_wp2_with fail
  obtain ⟨W, hW⟩ : ∃ W : World, W = w.alloc (.cells #[.int .i64 P, .int .i64 M, .slice am mn cm, .int .i64 N, .slice a n c] 27) := ⟨_, rfl⟩
  rw [← hW]
  have hbW : Below w.heap.size w W := by rw [hW]; exact below1 _ _
  have x0 : Box W w.heap.size [.int .i64 P, .int .i64 M, .slice am mn cm, .int .i64 N, .slice a n c] := by rw [hW]; exact Box.new _ _ _ rfl
  have HS : Hid (∀ V, Below W.heap.size W V → V.cell? ⟨w.heap.size, 0, none⟩ = some (.int .i64 P) ∧ V.cell? ⟨w.heap.size, 1, none⟩ = some (.int .i64 M) ∧ V.cell? ⟨w.heap.size, 2, none⟩ = some (.slice am mn cm) ∧ V.cell? ⟨w.heap.size, 3, none⟩ = some (.int .i64 N) ∧ V.cell? ⟨w.heap.size, 4, none⟩ = some (.slice a n c)) := fun V hV => by
    have x1 := x0.keep hV
    exact ⟨x1.cell 0 rfl, x1.cell 1 rfl, x1.cell 2 rfl, x1.cell 3 rfl, x1.cell 4 rfl⟩
  have HbW := Lib.hid hbW
  clear hW x0 hbW
  refine (awake_any W).mono ?_
  rintro e w1 ⟨rfl, hb1⟩
  obtain ⟨c0, c1, c2, c3, c4⟩ := HS.out w1 hb1
  go_wp2_with fail
  refine (HF.out w1 (Below.next HbW.out hb1)).mono ?_
  rintro e w2 ⟨z, rfl, hb2⟩
  have hB2 := Below.next hb1 hb2
  clear c0 c1 c2 c3 c4 HF
  cases z
  · go_wp2_with fail
    refine (awake_any w2).mono ?_
    rintro e w3 ⟨rfl, hb3⟩
    have hF := Below.next HbW.out (Below.next hB2 hb3)
    go_wp2_with fail
    go_ret
    exact ⟨rfl, hF⟩
  obtain ⟨c0, c1, c2, c3, c4⟩ := HS.out w2 hB2
  have Hck := Lib.hid (HCk.out w2 (Below.next HbW.out hB2))
  go_wp2_with fail
  refine Hck.out.mono ?_
  rintro e w3 ⟨rfl, hb3⟩
  have hB3 := Below.next hB2 hb3
  clear c0 c1 c2 c3 c4 Hck HCk hb1 hb2
  by_cases hE : codeE P M mod N L = 0
  rotate_left
  · have hE2 : (codeE P M mod N L != 0) = true := by simpa using hE
    clear hE
    generalize codeE P M mod N L = er at *
    go_wp2_with fail
    refine (awake_any w3).mono ?_
    rintro e w4 ⟨rfl, hb4⟩
    have hF := Below.next HbW.out (Below.next hB3 hb4)
    go_wp2_with fail
    go_ret
    exact ⟨rfl, hF⟩
  by_cases hno : 64 < nv
  · have hd : decide ((64 : Int) < nv) = true := by simp; omega
    rw [hE]
    clear hno hE
    go_wp2_with fail
    refine (awake_any w3).mono ?_
    rintro e w4 ⟨rfl, hb4⟩
    have hF := Below.next HbW.out (Below.next hB3 hb4)
    go_wp2_with fail
    go_ret
    exact ⟨rfl, hF⟩
  have hd64 : decide ((64 : Int) < nv) = false := by simp; omega
  clear hno
  obtain ⟨m, rfl, hm1, hm64, F, hR⟩ := codeE_fld hE
  have hn256 : n ≤ 256 := by rw [← Hil.out]; exact (codeE_rws hE).choose_spec.2.2.2.1
  obtain ⟨hch, hTl⟩ := fam_all hE
  have hL64 : L.length ≤ 64 := by have h := (code_full hE).len; rw [List.length_range] at h; omega
  have hfa : Hid (∀ V, Below w.heap.size w V → Calls Tryz.prog 39 #[.agg #[.int .i64 P, .int .i64 M, .slice am mn cm, .int .i64 m, .slice a n c]] V fun e w' => ∃ a1 c1, e = .returned (.tuple #[.slice a1 (famL (tblOf P M.toNat mod).ops L m).length c1, .int .i64 0]) ∧ StR w' a1 (famL (tblOf P M.toNat mod).ops L m).length (famL (tblOf P M.toNat mod).ops L m) ∧ Below V.heap.size V w') := fun V hV => by
    refine (family_any P M am mn cm mod m a n c L V (hmod.keep hV) (hi.keep hV)).mono ?_
    rintro e w' ⟨hb, ⟨h0, _⟩ | ⟨_, m', hm', k, a1, c1, R, T, hT, rfl, hO⟩⟩
    · exact absurd hE h0
    · obtain rfl : m = m' := by omega
      subst hT
      obtain rfl := hO.tl
      exact ⟨a1, c1, rfl, hO.str, hb⟩
  have hq : ((tblOf P M.toNat mod).q : Int) = orderS P M := by
    obtain ⟨m1, e1, _, h1, _⟩ := eq_ops (codeE_zero hE).1
    rw [show M.toNat = m1 by omega]; exact h1
  have HEn : Hid (∀ V, Below w.heap.size w V → Calls Tryz.prog 52 #[.agg #[.int .i64 P, .int .i64 M, .slice am mn cm, .int .i64 m, .slice a n c], .slice av nv cv] V fun e w' => Below V.heap.size V w' ∧
      ((lstE (orderS P M) v n ≠ 0 ∧ e = .returned (.tuple #[.slice none 0 0, .int .i64 (lstE (orderS P M) v n)])) ∨
       (lstE (orderS P M) v n = 0 ∧ ∃ a1 c1, e = .returned (.tuple #[.slice a1 m c1, .int .i64 0]) ∧ Ints w' a1 m (cmbTo (tblOf P M.toNat mod).ops m v L n)))) := fun V hV => by
    have h := encode_any P M am mn cm mod m a n c L av nv cv v V (hmod.keep hV) (hi.keep hV) (hv.keep hV) hE
    rw [hq] at h
    exact h
  have HLi : Hid (∀ V, Below w.heap.size w V → Calls Tryz.prog 53 #[.agg #[.int .i64 P, .int .i64 M, .slice am mn cm], .slice av nv cv, .int .i64 n] V fun e w' => e = .returned (.int .i64 (lstE (orderS P M) v n)) ∧ Below V.heap.size V w') := fun V hV => rList12_any P M am mn cm av nv cv v n V (hv.keep hV)
  have HBd : Hid (∀ X : List Int, X.length = m → ∀ u : Int, 0 ≤ u → u ≤ n → (∀ t ∈ famL (tblOf P M.toNat mod).ops L m, u < (wtL (pickL t.1 X) : Int)) → ∃ f : Int, flV n ((famL (tblOf P M.toNat mod).ops L m).map (·.2)) u = (f, 0) ∧ f ≤ (wtL X : Int)) := fun X hX u h0 h1 hw => by
    have h := fam_bound hE hX (v := u) ⟨h0, by rw [Hil.out]; exact h1⟩ hL64 hw
    rw [Hil.out] at h
    exact h
  have hn64 : n ≤ 64 := by rw [← Hil.out]; exact hL64
  rw [hE]
  obtain ⟨O, hO⟩ : ∃ O, (tblOf P M.toNat mod).ops = O := ⟨_, rfl⟩
  rw [hO] at hch hTl hfa HEn HBd
  obtain ⟨T, hT⟩ : ∃ T, famL O L m = T := ⟨_, rfl⟩
  rw [hT] at hch hTl hfa HBd
  have hTok : ∀ (T : List (List Int × Int)) (U : List Int), chainF O L m U T → ∀ t ∈ T, okSet m t.1 = true := fun T => by
    induction T with
    | nil => intro U _ t ht; simp at ht
    | cons t T ih =>
      rintro U ⟨q1, _, _, _, q5⟩ y hy
      rcases List.mem_cons.1 hy with rfl | hy
      · exact q1
      · exact ih _ q5 y hy
  have HTok := Lib.hid (hTok T [] hch)
  obtain ⟨k, hk⟩ : ∃ k, T.length = k := ⟨_, rfl⟩
  rw [hk] at hTl hfa
  have Hk := Lib.hid hk
  obtain ⟨er, her⟩ : ∃ er, lstE (orderS P M) v n = er := ⟨_, rfl⟩
  rw [her] at HEn HLi
  have Hz0 := Lib.hid hz0
  clear hE hR F hO hT hk hch hmod hb3 hq her hTok hL64 hz0 hv hi
  obtain ⟨c0, c1, c2, c3, c4⟩ := HS.out w3 hB3
  have Hen := Lib.hid (HEn.out w3 (Below.next HbW.out hB3))
  have hdk : decide ((m : Int) < k) = false := by simp; omega
  clear HEn hB2
  go_wp2_with fail
  refine Hen.out.mono ?_
  rintro e w4 ⟨hb4, ⟨hne, rfl⟩ | ⟨hz, a1, k1, rfl, hX⟩⟩
  · have hB4 := Below.next hB3 hb4
    have hne' : (er != 0) = true := by simpa using hne
    have Hne := Lib.hid hne'
    clear c0 c1 c2 c3 c4 Hen hb4 hne
    obtain ⟨c0, c1, c2, c3, c4⟩ := HS.out w4 hB4
    have Hfa := Lib.hid (hfa.out w4 (Below.next HbW.out hB4))
    go_wp2_with fail
    refine Hfa.out.mono ?_
    rintro e w5 ⟨af, cf, rfl, _, hb5⟩
    have hB5 := Below.next hB4 hb5
    clear c0 c1 c2 c3 c4 Hfa hb5
    obtain ⟨c0, c1, c2, c3, c4⟩ := HS.out w5 hB5
    have Hli := Lib.hid (HLi.out w5 (Below.next HbW.out hB5))
    go_wp2_with fail
    refine Hli.out.mono ?_
    rintro e w6 ⟨rfl, hb6⟩
    have hF := Below.next HbW.out (Below.next hB5 hb6)
    clear c0 c1 c2 c3 c4 Hli
    go_wp2_with fail
    go_ret
    exact ⟨ret_bool (by first | exact Hne.out | rfl), hF⟩
  · have hB4 := Below.next hB3 hb4
    obtain ⟨X, hXX⟩ : ∃ X, cmbTo O m v L n = X := ⟨_, rfl⟩
    rw [hXX] at hX
    have HX := Lib.hid hX
    subst hz
    clear c0 c1 c2 c3 c4 Hen hb4 hXX hX HLi
    obtain ⟨c0, c1, c2, c3, c4⟩ := HS.out w4 hB4
    have Hfa := Lib.hid (hfa.out w4 (Below.next HbW.out hB4))
    have hmm : ((m : Int) != m) = false := by simp
    have hzb := Hz0.out
    have kw1 : IntKind.i64.wrap ((n : Int) + 1) = (n : Int) + 1 := IntWalk.i64_in _ (by omega)
    have kw2 : IntKind.i64.wrap z0 = z0 := IntWalk.i64_in _ (by omega)
    have kn0 : ((n : Int) + 1) ≠ 0 := by omega
    have kn0' : (((n : Int) + 1) == 0) = false := by simp; omega
    obtain ⟨u, hu⟩ : ∃ u, z0 % ((n : Int) + 1) = u := ⟨_, rfl⟩
    have hu0 : 0 ≤ u := by rw [← hu]; exact Int.emod_nonneg _ (by omega)
    have hu1 : u ≤ n := by have h := Int.emod_lt_of_pos z0 (show 0 < ((n : Int) + 1) by omega); omega
    have kr : z0.tmod ((n : Int) + 1) = u := by rw [← hu]; exact IntWalk.rem_in _ _ (by omega)
    have kw3 : IntKind.i64.wrap u = u := IntWalk.i64_in _ (by omega)
    clear hu
    go_wp2_with fail
    refine Hfa.out.mono ?_
    rintro e X0 ⟨af, cf, rfl, hSt, hb5⟩
    have hbX := Below.next hB4 hb5
    have hplf := hSt.pl
    have HX0 := Lib.hid (HX.out.keep hb5)
    clear c0 c1 c2 c3 c4 Hfa hfa hb5 hB3 hB4
    obtain ⟨c0, c1, c2, c3, c4⟩ := HS.out X0 hbX
    go_wp2_with fail
    go_loopw [13, 74] (fun rv iv wr => ∃ (i : Nat) (ar : Option Addr) (cr : Nat), i ≤ k ∧ iv = .int .i64 i ∧ rv = .slice ar i cr ∧ wr.ownsRow X0.heap.size 3 1 (.slice ar i cr) i (((T.take i).map (·.2)).map (Value.int .i64)) ∧ Hid (∀ t ∈ T.take i, u < (wtL (pickL t.1 X) : Int)) ∧ Below X0.heap.size X0 wr) (fun _ iv _ => k - (intOf iv).toNat)
    case atStart => exact ⟨0, none, 0, Nat.zero_le _, rfl, rfl, by simpa using own_none, fun t ht => by simp at ht, Below.refl _ _⟩
    case round =>
      clear c0 c1 c2 c3 c4
      obtain ⟨i, ar, cr, hik, rfl, rfl, hown, hall, hbr⟩ := hrel
      have hbWr := Below.next hbX hbr
      by_cases hlt : i < k
      · have hiT : i < T.length := by rw [Hk.out]; exact hlt
        obtain ⟨sa, sc, p0, p1, hIS0⟩ := hSt.cell i hiT
        have q0 := cell_keep hbr p0
        have q1 := cell_keep hbr p1
        have hIS := hIS0.keep hbr
        have hok := HTok.out _ (List.getElem_mem hiT)
        have htk : T.take (i + 1) = T.take i ++ [T[i]] := List.take_succ_eq_append_getElem hiT
        have hall2 : u < (wtL (pickL T[i].1 X) : Int) → ∀ t ∈ T.take (i + 1), u < (wtL (pickL t.1 X) : Int) := fun h t ht => by
          rw [htk] at ht
          rcases List.mem_append.1 ht with ht | ht
          · exact hall.out t ht
          · rw [List.mem_singleton.1 ht]; exact h
        have hrk2 : (T.take (i + 1)).map (·.2) = (T.take i).map (·.2) ++ [T[i].2] := by rw [htk, List.map_append]; rfl
        obtain ⟨S, hS⟩ : ∃ S, T[i].1 = S := ⟨_, rfl⟩
        obtain ⟨r, hr⟩ : ∃ r, T[i].2 = r := ⟨_, rfl⟩
        rw [hS] at q0 hIS hIS0 hok hall2
        rw [hr] at q1 hrk2
        obtain ⟨Sn, hSn⟩ : ∃ Sn, S.length = Sn := ⟨_, rfl⟩
        rw [hSn] at q0 hIS hIS0
        have HSn := Lib.hid hSn
        have Hall2 := Lib.hid hall2
        have Hrk2 := Lib.hid hrk2
        have HIS := Lib.hid hIS0
        have hSi : InN m S := set_in hok
        have hSn64 : Sn ≤ 64 := by have h := okSet_len hok (by omega); rw [hSn] at h; omega
        have Hown := Lib.hid hown
        have Hok := Lib.hid hok
        have HSi := Lib.hid hSi
        clear hS hr hSn hiT hIS hIS0 hown p0 p1 htk hall2 hrk2 hok hSi
        obtain ⟨V, hV⟩ : ∃ V : World, V = wr.alloc (.cells #[.slice sa Sn sc, .int .i64 r] 60) := ⟨_, rfl⟩
        have xV : Box V wr.heap.size [.slice sa Sn sc, .int .i64 r] := by rw [hV]; exact Box.new _ _ _ rfl
        have hbV : Below wr.heap.size wr V := by rw [hV]; exact below1 _ _
        obtain ⟨g, hg⟩ : ∃ g, wr.heap.size = g := ⟨_, rfl⟩
        have HV := Lib.hid hV
        have Hg := Lib.hid hg
        obtain ⟨c0, c1, c2, c3, c4⟩ := HS.out _ (Below.next hbWr hbV)
        have e0 := xV.cell 0 rfl
        have e1 := xV.cell 1 rfl
        have hri := rising_any m sa Sn sc S V (HIS.out.keep (Below.next hbr hbV))
        rw [Hok.out] at hri
        rw [hV] at c0 c1 c2 c3 c4 e0 e1 hri
        have Hri := Lib.hid hri
        clear hV hg hri
        go_wp2_with fail
        refine Hri.out.mono ?_
        rintro e V1 ⟨rfl, hd1⟩
        rw [← HV.out] at hd1
        have hbV1 := Below.next hbV hd1.below
        have hb01 := Below.next hbr hbV1
        have xV1 := xV.keep hd1.below
        have e0 := xV1.cell 0 rfl
        have e1 := xV1.cell 1 rfl
        rw [Hg.out] at e0 e1
        have hpk := rPick_any a1 m k1 X sa Sn sc S V1 (HX0.out.keep hb01) (HIS.out.keep hb01) HSi.out (by omega)
        unfold NewInts at hpk
        have hpl : (pickL S X).length = Sn := by simp [pickL, HSn.out]
        rw [hpl] at hpk
        have Hpk := Lib.hid hpk
        have HxV1 := Lib.hid xV1
        rw [Hg.out]
        clear c0 c1 c2 c3 c4 q0 q1 Hri xV xV1 hd1 hbV hpk hpl
        go_wp2_with fail
        refine Hpk.out.mono ?_
        rintro e V2 ⟨a7, k7, rfl, hown7, hb2⟩
        have Hwt := Lib.hid (rWeight25_any a7 Sn k7 (pickL S X) V2 (Ints.own hown7).1)
        have hxV2 := HxV1.out.keep hb2
        have e1' := hxV2.cell 1 rfl
        rw [Hg.out] at e1'
        have hb02 := Below.next hb01 hb2
        have hown2 := own_keep Hown.out (Below.next hbV1 hb2)
        clear e0 e1 hown7 hxV2 Hpk
        go_wp2_with fail
        refine Hwt.out.mono ?_
        rintro e V3 ⟨rfl, rfl⟩
        clear Hwt
        obtain ⟨t, ht⟩ : ∃ t, wtL (pickL S X) = t := ⟨_, rfl⟩
        rw [ht] at Hall2 ⊢
        clear ht
        by_cases hle : (t : Int) ≤ u
        · have hd : decide ((t : Int) ≤ u) = true := by simpa using hle
          have hF := Below.next HbW.out (Below.next hbX hb02)
          clear hle hown2
          go_wp2_with fail
          go_ret
          exact ⟨rfl, hF⟩
        · have hd : decide ((t : Int) ≤ u) = false := by simpa using hle
          have Hal := Lib.hid (Hall2.out (by omega))
          have hsz := hb02.size
          have hcn := cell_new V3 (.int .i64 r) 3
          clear hle
          go_wp2_with (at_builtin; refine wpList_push rfl _ _ 22 3 rfl (.int .i64 0) 8 Tryz.underlying22 infoInt rfl X0.heap.size ar i cr _ rfl (hown2.alloc _) ⟨V3.heap.size, 0, none⟩ 1 (.int .i64 r) rfl hcn rfl (by omega) (by unfold maxLen; omega) (by simp; omega) ?_; intro a5 c5 w5 hown5 hgr5 hap5)
          go_roundw
          case rel => exact ⟨i + 1, a5, c5, by omega, by go_num, rfl, by rw [Hrk2.out]; simpa using hown5, Hal.out, Below.app (Below.allocN hb02 _) (hown2.alloc _) hgr5 (Nat.le_refl _) (Below.allocN hb02 _).size⟩
          case measure => simp [intOf] <;> omega
      · obtain rfl : i = k := by omega
        have hal := hall.out
        rw [List.take_of_length_le (by rw [Hk.out]; exact Nat.le_refl _)] at hown hal
        obtain ⟨f, hf, hfw⟩ := HBd.out X HX0.out.len u hu0 hu1 hal
        have hfl := floor_any n ar i cr (T.map (·.2)) u wr (Ints.own hown).1
        rw [hf] at hfl
        have Hfl := Lib.hid hfl
        have Hwt := Lib.hid (rWeight25_any a1 m k1 X wr (HX0.out.keep hbr))
        have hd : decide (f ≤ (wtL X : Int)) = true := by simpa using hfw
        have hF := Below.next HbW.out hbWr
        obtain ⟨t, ht⟩ : ∃ t, wtL X = t := ⟨_, rfl⟩
        rw [ht] at Hwt hd
        clear hal hf hfw hfl ht hall hown HBd
        go_wp2_with fail
        refine Hfl.out.mono ?_
        rintro e w6 ⟨rfl, rfl⟩
        go_wp2_with fail
        refine Hwt.out.mono ?_
        rintro e w7 ⟨rfl, rfl⟩
        go_wp2_with fail
        go_ret
        exact ⟨rfl, hF⟩
end

/- The arguments, opened: lists of bytes. -/
section
open Go.ChangeShapes Go.WideShapes Go.ChangeAt Go.RowKit

section
variable {H : Type} {enc : TypeId × Value → H} {W : World} {held : Bool} {b0 : Nat} {v : Value} {d : DataW H} {p : List MemPlace}
set_option maxRecDepth 100000 in
theorem arg_bytes (hv : Value.okWide Tryz.prog W .any b0 48 v) (h : DataW.Trod enc Tryz.prog W 0 (fun _ => true) held 48 v d p) : ∃ a n c l, v = .slice a n c ∧ U8s W a n l := by
  obtain ⟨a, n, c, rfl⟩ := okWide_slice Tryz.underlying48 hv
  obtain ⟨fuel, hf⟩ := h
  rcases open_ints Tryz.underlying48 Tryz.underlying5 (by kernel_rfl) hf with ⟨hcs, _⟩ | ⟨a', len, cap, zs, hcs, _, hl, hm, hz, _, hcell, hwf⟩
  · simp [Value.cells] at hcs
    obtain ⟨rfl, rfl, rfl⟩ := hcs
    exact ⟨none, 0, 0, [], rfl, rfl, fun h0 => by omega, by unfold maxLen; omega, fun i hi => by omega, fun i hi => by omega⟩
  · simp [Value.cells] at hcs
    obtain ⟨rfl, rfl, rfl⟩ := hcs
    simp only [if_true] at hz
    refine ⟨some a', n, c, zs.take n, rfl, by simp; omega, fun h0 => ?_, by omega, fun i hi => ?_, fun i hi => ?_⟩
    · exact congrArg some (plain_of (hcell 0 (by omega)))
    · rw [nth_take_getD _ _ _ hi]
      exact add_cell (hcell i (by omega))
    · have h2 := hwf (nth (zs.take n) i) (by
        have : nth (zs.take n) i ∈ zs.take n := nth_mem (by simp; omega)
        exact List.mem_of_mem_take this)
      simp [Lit.wf, IntKind.min, IntKind.max, IntKind.signed, IntKind.bits] at h2
      omega
end
end

/- InfosetBound: the statement. -/
section
open Go.ChangeShapes Go.WideShapes Go.ChangeAt Go.RowKit

set_option maxRecDepth 100000 in
theorem infBound_lifted (os : Os) (started : os.Started) (H : Type) (enc : TypeId × Value → H) :
    ReturnsInHanded {} Tryz.checked os 12 .any (Rows.infosetBoundSpec.pre6 enc Tryz.prog Tryz.f12 Rows.infosetBoundRow.domain false) (Rows.infosetBoundSpec.post enc Tryz.prog Tryz.f12 false true false false) := by
  refine returnsInHanded_of_change (C := Tryz.checked) Tryz.own started (by kernel_rfl) Tryz.func12
    (ChangeSpec.witness6 (enc := enc) (C := Tryz.checked) false ⟨#[], #[.agg #[.int .i64 0, .int .i64 0, .slice none 0 0, .int .i64 0, .slice none 0 0], .slice none 0 0, .int .u8 0], []⟩ 8 (by kernel_rfl) (by kernel_rfl) (by kernel_rfl) (by kernel_rfl)) ?_
  intro W base args ds gs before hval0 hW hcnd _
  have hval : ∀ (j : Nat) t v, Tryz.f12.params[j]? = some t → args[j]? = some v → Value.okWide Tryz.prog W .any base t v := hval0
  have hW' := hW
  obtain ⟨p, q, hA0, hV, rfl, hfz, hnd⟩ := hW
  have hA : DataW.TrodAll enc Tryz.prog W 0 (fun _ => true) true Tryz.f12.params.toList args.toList ds p := hA0
  rw [Tryz.params12] at hA hval
  obtain ⟨v0, vs0, d0, ds0, p0, q0, hargs, rfl, rfl, h0, r0⟩ := trodAll_cons hA
  obtain ⟨v1, vs1, d1, ds1, p1, q1, rfl, rfl, rfl, h1, r1⟩ := trodAll_cons r0
  obtain ⟨v2, vs2, d2, ds2, p2, q2, rfl, rfl, rfl, h2, r2⟩ := trodAll_cons r1
  obtain ⟨rfl, rfl, rfl⟩ := trodAll_nil r2
  obtain rfl : args = #[v0, v1, v2] := by cases args; simp_all
  obtain ⟨rfl, rfl⟩ := trodVars_none hV
  have k0 := h0
  have k1 := h1
  have lt0 : ∀ x ∈ p0, x.block < W.heap.size := by obtain ⟨m, hm⟩ := k0; exact DataW.trod_lt m _ _ _ hm
  have lt1 : ∀ x ∈ p1, x.block < W.heap.size := by obtain ⟨m, hm⟩ := k1; exact DataW.trod_lt m _ _ _ hm
  obtain ⟨P, M, am, mn, cm, mod, N, a, n, c, L, rfl, hI0, hM0⟩ := arg_code (hval 0 _ v0 rfl rfl) h0
  obtain ⟨a1x, n1x, c1x, Q1, rfl, hQ1⟩ := arg_ints (hval 1 _ v1 rfl rfl) h1
  obtain ⟨z2, rfl, rfl, rfl, w2⟩ := open_int Tryz.underlying5 (hval 2 _ v2 rfl rfl) h2
  have wb2 : 0 ≤ z2 ∧ z2 ≤ 255 := by have h := w2; simp [Lit.wf, IntKind.min, IntKind.max, IntKind.signed, IntKind.bits] at h; omega
  clear hA0 hval0
  refine (infBound_any P M am mn cm mod N a n c L a1x n1x c1x Q1 z2 W hI0 hM0 hQ1 wb2).mono fun e W' ⟨he, bel⟩ => ?_
  subst he
  exact ⟨_, rfl, _, _, _, [], _, [], hW', trodAll_mk1 (shut_bool Tryz.underlying4 _), (trodAll_cons_mk (Below.trod Tryz.laid (by kernel_rfl) (of_decide_eq_true (by kernel_rfl)) k0 bel lt0) (trodAll_cons_mk (Below.trod Tryz.laid (by kernel_rfl) (of_decide_eq_true (by kernel_rfl)) k1 bel lt1) (trodAll_cons_mk (shut_int Tryz.underlying5 w2) trodAll_mk0))), rfl, bel.frame _, fun h => by cases h⟩

theorem infBound_over : Rows.infosetBoundRow.holds Tryz.pinned (OpenSpec.ofChange Rows.infosetBoundSpec) :=
  OpenClaim.holds_of_wide 12 Tryz.f12 rfl rfl rfl rfl rfl rfl rfl ⟨rfl, rfl, rfl, rfl, rfl⟩ rfl rfl rfl rfl rfl (by kernel_rfl) Tryz.func12 (by kernel_rfl)
    (of_decide_eq_true (by kernel_rfl)) (by unfold Func.isWrapper; first | (rw [if_pos (by decide +kernel)]; kernel_rfl) | (rw [if_neg (by decide +kernel)]; exact ⟨rfl, rfl⟩))
    (fun os started H enc _ => infBound_lifted os started H enc)

theorem infBound_holds : Rows.InfosetBoundSaid := infBound_over
#print axioms infBound_holds
end

end Go.Proofs.YtakmnncmeefceaaGreat
