/- InfosetDisjoint: the statement. -/
import Derived.Test.YtakmnncmeefceaaGreatH4
import Derived.Test.YtakmnncmeefceaaGreatG11
import Derived.Test.YtakmnncmeefceaaGreatG20
import Derived.Test.YtakmnncmeefceaaGreatG27
import Derived.Test.YtakmnncmeefceaaGreatG23
import Derived.Test.YtakmnncmeefceaaGreatH3
import Derived.Test.YtakmnncmeefceaaGreatG30
import Derived.Test.YtakmnncmeefceaaGreatG29
import Derived.Test.YtakmnncmeefceaaGreatRows
namespace Go.Proofs.YtakmnncmeefceaaGreat
set_option linter.unusedVariables false
set_option linter.unusedSimpArgs false
set_option linter.unusedSectionVars false

/- Information sets are bases (plain laws): greedy sets are information sets, and exchanges exist. -/
section
section
variable {O : FOps} {El : Int → Prop} {m : Nat} {L : List (List Int)}
theorem rkQ_out (F : Fld O El) (hL : Rws El m L) {Q : List Int} {x : Int} (h : ¬ clV O El L.length (colS L) (gA Q) x.toNat) : rkQ O L (Q ++ [x]) = rkQ O L Q + 1 := by
  have h1 := rkQ_rk F hL (Q ++ [x])
  rw [gA_snoc] at h1
  exact h1.uniq (Rk.ind _ h (rkQ_rk F hL Q))
theorem rkQ_step (F : Fld O El) (hL : Rws El m L) (Q : List Int) (x : Int) : rkQ O L (Q ++ [x]) ≤ rkQ O L Q + 1 := by
  have h1 := rkQ_rk F hL (Q ++ [x])
  rw [gA_snoc] at h1
  exact (rk_step (rkQ_rk F hL Q) h1).1
theorem isB_iff {Q : List Int} : isB O L Q = true ↔ Q.length = L.length ∧ rkQ O L Q = Q.length := by
  unfold isB rkQ
  simp
theorem exch_ex (F : Fld O El) (hL : Rws El m L) {A B : List Int} {t : Nat} {i : Int} (hA : isB O L A = true) (hB : isB O L B = true) (hnA : A.Nodup) (ht : t < A.length) (hi : nth A t = i) (hiB : ¬ i ∈ B) : ∃ j ∈ B, exP O L A t j = true := by
  refine Classical.byContradiction fun hno => ?_
  have hno' : ∀ j ∈ B, exP O L A t j = false := fun j hj => by
    by_cases h : exP O L A t j = true
    · exact absurd ⟨j, hj, h⟩ hno
    · simpa using h
  obtain ⟨A', hA'⟩ : ∃ A', A.filter (fun x => decide (x ≠ i)) = A' := ⟨_, rfl⟩
  have hp : ∀ j, (A' ++ [j]).Perm (A.set t j) := fun j => by rw [← hA']; exact filt_perm hnA ht hi j
  have hset : A.set t i = A := by rw [← hi, nth_getElem ht]; exact List.set_getElem_self ht
  have hpA := hp i
  rw [hset] at hpA
  obtain ⟨ha1, ha2⟩ := isB_iff.1 hA
  obtain ⟨hb1, hb2⟩ := isB_iff.1 hB
  have hl : A'.length + 1 = L.length := by
    have := hpA.length_eq
    rw [List.length_append] at this
    simp at this; omega
  have hr1 := rkQ_step F hL A' i
  rw [rkQ_perm F hL hpA] at hr1
  have hr2 : rkQ O L A' ≤ A'.length := grS_len _ _ _
  have hcl : ∀ j ∈ B, clV O El L.length (colS L) (gA A') j.toNat := fun j hj => by
    by_cases hjA : j ∈ A
    · refine (col_clo F hL).mem _ _ (mem_gA.2 ⟨j, ?_, rfl⟩)
      rw [← hA', List.mem_filter]
      exact ⟨hjA, by simpa using fun e : j = i => hiB (e ▸ hj)⟩
    · refine Classical.byContradiction fun hc => ?_
      have h1 := hno' j hj
      unfold exP at h1
      simp only [hjA, not_false_eq_true, decide_true, Bool.true_and] at h1
      rw [← isB_perm F hL (hp j)] at h1
      have h2 := rkQ_out F hL hc
      have h3 : isB O L (A' ++ [j]) = true := isB_iff.2 ⟨by rw [List.length_append]; simp; omega, by rw [h2, List.length_append]; simp; omega⟩
      rw [h1] at h3; exact absurd h3 (by decide)
  have h4 := rkQ_span F hL (Q := B) (Q' := A') fun x hx => by
    obtain ⟨y, hy, rfl⟩ := mem_gA.1 hx
    exact hcl y hy
  omega
/-- the greedy choice over all positions -/
theorem gr_basis (F : Fld O El) (hL : Rws El m L) (hfull : Rk (clV O El L.length (colS L)) (List.range m) L.length) {Q : List Int} (hQ : InN m Q) (hall : ∀ x, x < m → (x : Int) ∈ Q) : isB O L (grS O L Q) = true := by
  have h1 : (grS O L Q).length = L.length := by
    refine (rkQ_rk F hL Q).same (col_clo F hL) hfull fun x => ?_
    rw [mem_gA, List.mem_range]
    constructor
    · rintro ⟨y, hy, rfl⟩
      obtain ⟨j, hj, rfl⟩ := List.mem_iff_getElem.1 hy
      have := hQ j hj
      rw [nth_getElem hj] at this
      omega
    · intro hx
      exact ⟨x, hall x hx, by simp⟩
  have h2 := (gr_out F hL Q Q.length).1
  exact isB_iff.2 ⟨h1, (rkQ_rk F hL (grS O L Q)).uniq h2⟩
end
/-- a code's rows are independent -/
theorem code_full {P M : Int} {mod : List Int} {m : Nat} {L : List (List Int)} (hE : codeE P M mod m L = 0) : Rk (clV (tblOf P M.toNat mod).ops (tblOf P M.toNat mod).El L.length (colS L)) (List.range m) L.length := by
  obtain ⟨N', e, hm1, hm64, F, hR⟩ := codeE_fld hE
  obtain rfl : m = N' := by omega
  have h6 := (spaceE_zero (codeE_zero hE).2.2.2).2
  rw [Int.toNat_natCast] at h6
  have hcan : canO (tblOf P M.toNat mod).ops m L = L := h6
  have h := canO_rk F hR
  rwa [hcan] at h
theorem grS_nodup {O : FOps} {L : List (List Int)} {Q : List Int} (h : Q.Nodup) : (grS O L Q).Nodup := by
  have key : ∀ k, k ≤ Q.length → (grTo O L Q k).2.Nodup ∧ ∀ x ∈ (grTo O L Q k).2, x ∈ Q.take k := fun k => by
    induction k with
    | zero => intro _; exact ⟨by simp [grTo], fun x hx => by simp [grTo] at hx⟩
    | succ k ih =>
      intro hk
      obtain ⟨h1, h2⟩ := ih (by omega)
      have e : Q.take (k + 1) = Q.take k ++ [nth Q k] := by rw [List.take_succ_eq_append_getElem (by omega), nth_getElem (by omega)]
      rw [grTo]
      split
      · have hn : ¬ nth Q k ∈ Q.take k := by
          have h3 : (Q.take (k + 1)).Nodup := (List.take_sublist _ _).nodup h
          rw [e, List.nodup_append] at h3
          intro hm
          exact h3.2.2 _ hm _ (by simp) rfl
        refine ⟨?_, fun x hx => ?_⟩
        · rw [List.nodup_append]
          exact ⟨h1, by simp, fun x hx y hy => by rw [List.mem_singleton] at hy; subst hy; exact fun e => hn (e ▸ h2 _ hx)⟩
        · rw [e, List.mem_append]
          rcases List.mem_append.1 hx with hx | hx
          · exact .inl (h2 x hx)
          · exact .inr hx
      · exact ⟨h1, fun x hx => by rw [e, List.mem_append]; exact .inl (h2 x hx)⟩
  exact (key _ (Nat.le_refl _)).1
/-- all positions, in some order -/
def PermN (m : Nat) (Q : List Int) : Prop := Q.Perm ((List.range m).map Int.ofNat)
theorem PermN.mem {m : Nat} {Q : List Int} (h : PermN m Q) {x : Int} : x ∈ Q ↔ ∃ j : Nat, j < m ∧ x = j := by
  rw [h.mem_iff, List.mem_map]
  constructor
  · rintro ⟨j, hj, rfl⟩; exact ⟨j, List.mem_range.1 hj, rfl⟩
  · rintro ⟨j, hj, rfl⟩; exact ⟨j, List.mem_range.2 hj, rfl⟩
theorem PermN.len {m : Nat} {Q : List Int} (h : PermN m Q) : Q.length = m := by rw [h.length_eq]; simp
theorem PermN.nodup {m : Nat} {Q : List Int} (h : PermN m Q) : Q.Nodup := by
  refine h.nodup_iff.2 ?_
  rw [List.nodup_iff_pairwise_ne, List.pairwise_map]
  exact List.nodup_range.imp fun h e => h (Int.ofNat.inj e)
theorem PermN.inN {m : Nat} {Q : List Int} (h : PermN m Q) : InN m Q := fun j hj => by
  obtain ⟨i, hi, e⟩ := h.mem.1 (nth_mem hj)
  omega
section
variable {P M : Int} {mod : List Int} {m : Nat} {L : List (List Int)}
theorem perm_greE (hE : codeE P M mod m L = 0) {Q : List Int} (hQ : PermN m Q) : greE P M mod m L Q = 0 := by
  have h : okSet m (sortL Q) = true := okSet_sort hQ.nodup fun x hx => by
    obtain ⟨j, hj, rfl⟩ := hQ.mem.1 hx
    omega
  rw [greE, rankE, if_pos hE, setsE_one, if_pos h]
/-- what the greedy choice over all positions is -/
theorem perm_set (hE : codeE P M mod m L = 0) {Q : List Int} (hQ : PermN m Q) :
    okSet m (sortL (grS (tblOf P M.toNat mod).ops L Q)) = true ∧ isB (tblOf P M.toNat mod).ops L (sortL (grS (tblOf P M.toNat mod).ops L Q)) = true := by
  obtain ⟨N', e, hm1, hm64, F, hR⟩ := codeE_fld hE
  obtain rfl : m = N' := by omega
  refine ⟨okSet_sort (grS_nodup hQ.nodup) fun x hx => ?_, ?_⟩
  · obtain ⟨j, hj, rfl⟩ := hQ.mem.1 (grTo_sub _ L Q _ (Nat.le_refl _) x hx)
    omega
  · rw [isB_perm F hR (sortL_perm _)]
    exact gr_basis F hR (code_full hE) hQ.inN fun x hx => hQ.mem.2 ⟨x, hx, rfl⟩
theorem set_rankE (hE : codeE P M mod m L = 0) {Q : List Int} (hQ : okSet m Q = true) : rankE P M mod m L Q = 0 := by rw [rankE, if_pos hE, setsE_one, if_pos hQ]
theorem set_isV (hE : codeE P M mod m L = 0) {Q : List Int} (hQ : okSet m Q = true) : isV P M mod m L Q = isB (tblOf P M.toNat mod).ops L Q := by
  unfold isV isB
  rw [set_rankE hE hQ]
  by_cases h1 : (grS (tblOf P M.toNat mod).ops L Q).length = Q.length
  · rw [h1]; simp
  · simp [h1]
/-- the exchange -/
theorem exV_ok (hE : codeE P M mod m L = 0) {A B : List Int} (hA : okSet m A = true) (hB : okSet m B = true) (bA : isB (tblOf P M.toNat mod).ops L A = true) (bB : isB (tblOf P M.toNat mod).ops L B = true) {i : Int} (hi : i ∈ A) (hiB : ¬ i ∈ B) :
    ∃ j, exV P M mod m L A B i = (j, 0) ∧ ¬ j ∈ A ∧ j ∈ B ∧ okSet m (sortL (A.filter (fun x => decide (x ≠ i)) ++ [j])) = true ∧ isB (tblOf P M.toNat mod).ops L (sortL (A.filter (fun x => decide (x ≠ i)) ++ [j])) = true := by
  obtain ⟨N', e, hm1, hm64, F, hR⟩ := codeE_fld hE
  obtain rfl : m = N' := by omega
  obtain ⟨t, hix, htl, hti⟩ := ix_in hi
  have htx : (A.findIdx fun x => x == i) = t := by rw [ixV, if_pos hi] at hix; omega
  have hn := okSet_nodup hA
  obtain ⟨j0, hj0, he0⟩ := exch_ex F hR bA bB hn htl hti hiB
  obtain ⟨j, hj⟩ : ∃ j, B.find? (exP (tblOf P M.toNat mod).ops L A t) = some j := by
    cases h : B.find? (exP (tblOf P M.toNat mod).ops L A t) with
    | some j => exact ⟨j, rfl⟩
    | none =>
      rw [List.find?_eq_none] at h
      exact absurd he0 (h j0 hj0)
  have hjp := List.find?_some hj
  have hjB := List.mem_of_find?_eq_some hj
  rw [exP_filt F hR hn htl hti] at hjp
  simp only [Bool.and_eq_true, decide_eq_true_eq] at hjp
  have hs : setsE (m : Int) [A, B] = 0 := by simp [setsE, hA, hB]
  have hk : rk2E P M mod m L A B = 0 := by rw [rk2E, if_pos hE, hs]
  refine ⟨j, ?_, hjp.1, hjB, okSet_sort ?_ fun x hx => ?_, hjp.2⟩
  · rw [exV, hk, bA, bB, htx, hj, if_neg (by decide), if_neg (by decide), if_neg (by simpa using hi)]
  · rw [List.nodup_append]
    refine ⟨(List.filter_sublist).nodup hn, by simp, fun x hx y hy => ?_⟩
    rw [List.mem_singleton] at hy; subst hy
    intro e; subst e
    exact hjp.1 ((List.mem_filter.1 hx).1)
  · rcases List.mem_append.1 hx with hx | hx
    · have hx := (List.mem_filter.1 hx).1
      obtain ⟨k, hk, rfl⟩ := List.mem_iff_getElem.1 hx
      have := okSet_at hA hk
      rw [nth_getElem hk] at this
      exact ⟨this.1, this.2.1⟩
    · rw [List.mem_singleton] at hx; subst hx
      obtain ⟨k, hk, e⟩ := List.mem_iff_getElem.1 hjB
      have := okSet_at hB hk
      rw [nth_getElem hk, e] at this
      exact ⟨this.1, this.2.1⟩
end
end

/- The family of a code (plain laws): its members are information sets with new positions, the positions left are zero columns, and the bound for the weight. -/
section
theorem grTo_mono (O : FOps) (L : List (List Int)) (Q : List Int) {k : Nat} : ∀ d, ∀ x ∈ (grTo O L Q k).2, x ∈ (grTo O L Q (k + d)).2
  | 0, x, hx => hx
  | d + 1, x, hx => by
    have h := grTo_mono O L Q d x hx
    rw [← Nat.add_assoc, grTo]
    split
    · exact List.mem_append.2 (.inl h)
    · exact h
theorem grTo_take (O : FOps) (L : List (List Int)) (Q : List Int) : ∀ k, k ≤ Q.length → ∀ x ∈ (grTo O L Q k).2, x ∈ Q.take k
  | 0, _, x, hx => by simp [grTo] at hx
  | k + 1, hk, x, hx => by
    have e : Q.take (k + 1) = Q.take k ++ [nth Q k] := by rw [List.take_succ_eq_append_getElem (by omega), nth_getElem (by omega)]
    rw [e, List.mem_append]
    rw [grTo] at hx
    split at hx
    · rcases List.mem_append.1 hx with hx | hx
      · exact .inl (grTo_take O L Q k (by omega) x hx)
      · exact .inr hx
    · exact .inl (grTo_take O L Q k (by omega) x hx)
theorem newF_none {U S : List Int} (h : newF U S S.length = 0) : ∀ x ∈ S, x ∈ U := fun x hx => by
  rw [newF_count _ _ _ (Nat.le_refl _), List.take_of_length_le (Nat.le_refl _)] at h
  have h0 : S.countP (fun x => decide (¬ x ∈ U)) = 0 := by omega
  rw [List.countP_eq_zero] at h0
  have := h0 x hx
  simpa using this
theorem ordF_perm (m : Nat) (U : List Int) : PermN m (ordF m U) := by
  have h1 : (ordF m U).Nodup := by
    rw [ordF, List.nodup_append]
    refine ⟨(frTo_pair false U m).imp fun h => by omega, (frTo_pair true U m).imp fun h => by omega, fun x hx y hy e => ?_⟩
    subst e
    obtain ⟨j, _, e1, h1⟩ := (mem_frTo m).1 hx
    obtain ⟨i, _, e2, h2⟩ := (mem_frTo m).1 hy
    obtain rfl : i = j := by omega
    rw [h1] at h2; exact absurd h2 (by decide)
  refine (List.perm_ext_iff_of_nodup h1 ?_).2 fun x => ?_
  · rw [List.nodup_iff_pairwise_ne, List.pairwise_map]
    exact List.nodup_range.imp fun h e => h (Int.ofNat.inj e)
  · rw [mem_ordF, List.mem_map]
    constructor
    · rintro ⟨j, hj, rfl⟩; exact ⟨j, List.mem_range.2 hj, rfl⟩
    · rintro ⟨j, hj, rfl⟩; exact ⟨j, List.mem_range.1 hj, rfl⟩
section
variable {O : FOps} {El : Int → Prop} {m : Nat} {L : List (List Int)}
theorem cl_nil_zero (F : Fld O El) {x : Nat} (h : clV O El L.length (colS L) [] x) : ∀ i, i < L.length → nth (nthR L i) x = 0 := fun i hi => by
  have h1 := h _ (Lin.coord F hi) (by simp)
  rwa [nth_colS _ _ _ hi] at h1
theorem fam_end (F : Fld O El) (hL : Rws El m L) {U : List Int} (h : newF U (choF O L m U) (choF O L m U).length = 0) {j : Nat} (hj : j < m) (hjU : ¬ (j : Int) ∈ U) : ∀ i, i < L.length → nth (nthR L i) j = 0 := by
  have h1 := newF_none h
  have hk : (frTo false U m).length ≤ (ordF m U).length := by rw [ordF, List.length_append]; omega
  have htk : (ordF m U).take (frTo false U m).length = frTo false U m := by rw [ordF, List.take_left']; rfl
  have hnil : (grTo O L (ordF m U) (frTo false U m).length).2 = [] := by
    rw [List.eq_nil_iff_forall_not_mem]
    intro x hx
    have h2 := grTo_take O L (ordF m U) _ hk x hx
    rw [htk] at h2
    obtain ⟨i, _, rfl, h3⟩ := (mem_frTo m).1 h2
    have h4 := grTo_mono O L (ordF m U) ((ordF m U).length - (frTo false U m).length) _ hx
    rw [show (frTo false U m).length + ((ordF m U).length - (frTo false U m).length) = (ordF m U).length by omega] at h4
    have h5 := h1 _ h4
    simp at h3
    exact h3 h5
  have h6 := (gr_out F hL (ordF m U) (frTo false U m).length).2.2 j (by
    rw [mem_grL]
    have hm : (j : Int) ∈ frTo false U m := (mem_frTo m).2 ⟨j, hj, rfl, by simpa using hjU⟩
    obtain ⟨i, hi, e⟩ := List.mem_iff_getElem.1 hm
    refine ⟨i, hi, ?_⟩
    have e2 : nth (ordF m U) i = nth (frTo false U m) i := by rw [← htk, nth_take hi]
    rw [e2, nth_getElem hi, e]
    simp)
  rw [hnil] at h6
  exact cl_nil_zero F h6
/-- the members of a family, one behind the other -/
def chainF (O : FOps) (L : List (List Int)) (m : Nat) : List Int → List (List Int × Int) → Prop
  | U, [] => ∀ j, j < m → ¬ (j : Int) ∈ U → ∀ i, i < L.length → nth (nthR L i) j = 0
  | U, t :: T => okSet m t.1 = true ∧ isB O L t.1 = true ∧ 1 ≤ t.2 ∧ t.2 = newF U t.1 t.1.length ∧ chainF O L m (U ++ t.1) T
theorem fam_chain {P M : Int} {mod : List Int} (hE : codeE P M mod m L = 0) : ∀ (f : Nat) (U : List Int) (T0 : List (List Int × Int)), (frTo false U m).length < f →
    ∃ T, famGo (tblOf P M.toNat mod).ops L m f U T0 = T0 ++ T ∧ chainF (tblOf P M.toNat mod).ops L m U T ∧ T.length ≤ (frTo false U m).length
  | 0, _, _, h => by omega
  | f + 1, U, T0, h => by
    obtain ⟨N', e, hm1, hm64, F, hR⟩ := codeE_fld hE
    obtain rfl : m = N' := by omega
    rw [famGo]
    by_cases h0 : newF U (choF (tblOf P M.toNat mod).ops L m U) (choF (tblOf P M.toNat mod).ops L m U).length = 0
    · rw [if_pos h0]
      exact ⟨[], by simp, fun j hj hjU => fam_end F hR h0 hj hjU, by simp⟩
    · rw [if_neg h0]
      have hless := fam_less h0
      obtain ⟨T, h1, h2, h3⟩ := fam_chain hE f (U ++ sortL (choF (tblOf P M.toNat mod).ops L m U)) (T0 ++ [(sortL (choF (tblOf P M.toNat mod).ops L m U), newF U (choF (tblOf P M.toNat mod).ops L m U) (choF (tblOf P M.toNat mod).ops L m U).length)]) (by omega)
      obtain ⟨p1, p2⟩ := perm_set hE (ordF_perm m U)
      have hbd := newF_bd U (choF (tblOf P M.toNat mod).ops L m U) (choF (tblOf P M.toNat mod).ops L m U).length
      refine ⟨(sortL (choF (tblOf P M.toNat mod).ops L m U), newF U (choF (tblOf P M.toNat mod).ops L m U) (choF (tblOf P M.toNat mod).ops L m U).length) :: T, by rw [h1]; simp, ⟨p1, p2, by omega, ?_, h2⟩, by simp; omega⟩
      exact (newF_perm (sortL_perm _)).symm
theorem fam_all {P M : Int} {mod : List Int} (hE : codeE P M mod m L = 0) : chainF (tblOf P M.toNat mod).ops L m [] (famL (tblOf P M.toNat mod).ops L m) ∧ (famL (tblOf P M.toNat mod).ops L m).length ≤ m := by
  have hl : (frTo false [] m).length ≤ m := frTo_len _ _ _
  obtain ⟨T, h1, h2, h3⟩ := fam_chain hE (m + 1) [] [] (by omega)
  rw [famL, h1, List.nil_append]
  exact ⟨h2, by omega⟩
end
/-- weights -/
def wtL (x : List Int) : Nat := x.countP fun y => decide (y ≠ 0)
def wtU (x : List Int) (U : List Int) (m : Nat) : Nat := (List.range m).countP fun j => decide (nth x j ≠ 0 ∧ (j : Int) ∈ U)
theorem countP_point {p p' : Nat → Bool} {s : Nat} (h : ∀ j, j ≠ s → p j = p' j) : ∀ m, (List.range m).countP p' + (if s < m ∧ p s = true then 1 else 0) = (List.range m).countP p + (if s < m ∧ p' s = true then 1 else 0)
  | 0 => by simp
  | m + 1 => by
    have ih := countP_point h m
    rw [List.range_succ, List.countP_append, List.countP_append, List.countP_singleton, List.countP_singleton]
    by_cases e : s = m
    · subst e
      simp at ih
      by_cases h1 : p s = true <;> by_cases h2 : p' s = true <;> simp [h1, h2] <;> omega
    · have h3 := h m (fun e2 => e e2.symm)
      rw [h3]
      by_cases h4 : s < m
      · simp only [h4, show s < m + 1 by omega, true_and] at ih ⊢; omega
      · simp only [h4, show ¬ s < m + 1 by omega, false_and] at ih ⊢; simp at ih ⊢; omega
theorem wtU_one (x U : List Int) (m : Nat) {s : Int} (h0 : 0 ≤ s) (hm : s < m) : wtU x (U ++ [s]) m = wtU x U m + (if nth x s.toNat ≠ 0 ∧ ¬ s ∈ U then 1 else 0) := by
  have h := countP_point (p := fun j => decide (nth x j ≠ 0 ∧ (j : Int) ∈ U)) (p' := fun j => decide (nth x j ≠ 0 ∧ (j : Int) ∈ U ++ [s])) (s := s.toNat) (fun j hj => by
    have : ((j : Int) ∈ U ++ [s]) ↔ ((j : Int) ∈ U) := by
      rw [List.mem_append, List.mem_singleton]
      exact ⟨fun h => h.elim id fun e => absurd (by omega) hj, .inl⟩
    simp [this]) m
  have e : ((s.toNat : Nat) : Int) = s := by omega
  have hlt : s.toNat < m := by omega
  unfold wtU
  simp only [e, hlt, true_and, decide_eq_true_eq, List.mem_append, List.mem_singleton, or_true, and_true] at h
  have h' : (List.range m).countP (fun j => decide (nth x j ≠ 0 ∧ (j : Int) ∈ U ++ [s])) = (List.range m).countP (fun j => decide (nth x j ≠ 0 ∧ ((j : Int) ∈ U ∨ (j : Int) = s))) := by simp
  rw [h']
  by_cases h1 : nth x s.toNat = 0
  · simp [h1] at h ⊢; exact h
  · by_cases h2 : s ∈ U
    · simp [h1, h2] at h ⊢; omega
    · simp [h1, h2] at h ⊢; omega
theorem wtU_add (x : List Int) (m : Nat) : ∀ (S U : List Int), S.Nodup → (∀ s ∈ S, 0 ≤ s ∧ s < (m : Int)) → wtU x (U ++ S) m = wtU x U m + S.countP fun s => decide (nth x s.toNat ≠ 0 ∧ ¬ s ∈ U)
  | [], U, _, _ => by simp
  | s :: S, U, hn, hb => by
    rw [List.nodup_cons] at hn
    have h1 := hb s (List.mem_cons_self ..)
    have ih := wtU_add x m S (U ++ [s]) hn.2 fun y hy => hb y (List.mem_cons_of_mem _ hy)
    rw [List.append_assoc, List.singleton_append] at ih
    rw [ih, wtU_one x U m h1.1 h1.2, List.countP_cons]
    have e : S.countP (fun y => decide (nth x y.toNat ≠ 0 ∧ ¬ y ∈ U ++ [s])) = S.countP (fun y => decide (nth x y.toNat ≠ 0 ∧ ¬ y ∈ U)) := by
      refine List.countP_congr fun y hy => ?_
      have : y ≠ s := fun e => hn.1 (e ▸ hy)
      simp [this]
    rw [e]
    simp only [decide_eq_true_eq]
    omega
theorem wtU_le (x U : List Int) (m : Nat) (hx : x.length = m) : wtU x U m ≤ wtL x := by
  have h : wtL x = (List.range m).countP fun j => decide (nth x j ≠ 0) := by
    have e : x = (List.range m).map (nth x) := by
      refine List.ext_getElem (by simp [hx]) fun i h1 h2 => ?_
      rw [List.getElem_map, List.getElem_range, nth_getElem h1]
    conv => lhs; rw [wtL, e, List.countP_map]
    rfl
  rw [h]
  exact List.countP_mono_left fun j _ h => by simp at h ⊢; exact h.1
/-- each member adds to the weight -/
theorem chain_bound {O : FOps} {L : List (List Int)} {m : Nat} {x : List Int} {v : Int} : ∀ (T : List (List Int × Int)) (U : List Int), chainF O L m U T → (∀ t ∈ T, v < (wtL (pickL t.1 x) : Int)) →
    flTo L.length v (T.map (·.2)) T.length + wtU x U m ≤ (wtU x (U ++ (T.map (·.1)).flatten) m : Int)
  | [], U, _, _ => by simp [flTo]
  | t :: T, U, h, hw => by
    obtain ⟨h1, h2, h3, h4, h5⟩ := h
    have ih := chain_bound T (U ++ t.1) h5 fun y hy => hw y (List.mem_cons_of_mem _ hy)
    have hl : t.1.length = L.length := (isB_iff.1 h2).1
    have hin : ∀ s ∈ t.1, 0 ≤ s ∧ s < (m : Int) := fun s hs => by
      obtain ⟨k, hk, rfl⟩ := List.mem_iff_getElem.1 hs
      have := okSet_at h1 hk
      rw [nth_getElem hk] at this
      exact ⟨this.1, this.2.1⟩
    have ha := wtU_add x m t.1 U (okSet_nodup h1) hin
    have hwt := hw t (List.mem_cons_self ..)
    have hfl : ∀ (r : Int) (R : List Int), ∀ k, flTo L.length v (r :: R) (k + 1) = max 0 (v + 1 - (L.length - r)) + flTo L.length v R k := fun r R k => by
      induction k with
      | zero => simp [flTo, nth]
      | succ k ih => rw [flTo, ih, flTo]; simp [nth]; omega
    have hc : (wtL (pickL t.1 x) : Int) ≤ (t.1.countP fun s => decide (nth x s.toNat ≠ 0 ∧ ¬ s ∈ U) : Nat) + (L.length - t.2) := by
      have e1 : wtL (pickL t.1 x) = t.1.countP fun s => decide (nth x s.toNat ≠ 0) := by
        unfold wtL pickL; rw [List.countP_map]; rfl
      have e2 : t.2 = (t.1.countP (fun s => decide (¬ s ∈ U)) : Nat) := by
        rw [h4, newF_count _ _ _ (Nat.le_refl _), List.take_of_length_le (Nat.le_refl _)]
      have e3 : ∀ S : List Int, (S.countP fun s => decide (nth x s.toNat ≠ 0)) + S.countP (fun s => decide (¬ s ∈ U)) ≤ (S.countP fun s => decide (nth x s.toNat ≠ 0 ∧ ¬ s ∈ U)) + S.length := fun S => by
        induction S with
        | nil => simp
        | cons s S ih =>
          rw [List.countP_cons, List.countP_cons, List.countP_cons, List.length_cons]
          by_cases p1 : nth x s.toNat = 0 <;> by_cases p2 : s ∈ U <;> simp [p1, p2] at ih ⊢ <;> omega
      have := e3 t.1
      omega
    rw [List.map_cons, List.length_cons, hfl, List.map_cons, List.flatten_cons, ← List.append_assoc]
    omega
/-- the bound for the weight -/
theorem fam_bound {P M : Int} {mod : List Int} {m : Nat} {L : List (List Int)} (hE : codeE P M mod m L = 0) {x : List Int} (hx : x.length = m) {v : Int} (hv : 0 ≤ v ∧ v ≤ (L.length : Int)) (hl : L.length ≤ 64)
    (hw : ∀ t ∈ famL (tblOf P M.toNat mod).ops L m, v < (wtL (pickL t.1 x) : Int)) :
    ∃ f : Int, flV L.length ((famL (tblOf P M.toNat mod).ops L m).map (·.2)) v = (f, 0) ∧ f ≤ (wtL x : Int) := by
  obtain ⟨h1, h2⟩ := fam_all hE
  obtain ⟨m', e, hm1, hm64, _, _⟩ := codeE_fld hE
  generalize famL (tblOf P M.toNat mod).ops L m = T at *
  have hb := chain_bound T [] h1 hw
  have hle := wtU_le x ([] ++ (T.map (·.1)).flatten) m hx
  have hr : ∀ (T : List (List Int × Int)) (U : List Int), chainF (tblOf P M.toNat mod).ops L m U T → (T.map (·.2)).all (flQ L.length) = true := fun T => by
    induction T with
    | nil => intro U _; rfl
    | cons t T ih =>
      rintro U ⟨q1, q2, q3, q4, q5⟩
      have hbd := newF_bd U t.1 t.1.length
      have hl : t.1.length = L.length := (isB_iff.1 q2).1
      rw [List.map_cons, List.all_cons, ih _ q5, Bool.and_true]
      unfold flQ
      simp; omega
  refine ⟨flTo L.length v (T.map (·.2)) T.length, ?_, ?_⟩
  · rw [flV, if_pos, List.length_map]
    refine ⟨?_, hr T [] h1⟩
    unfold flB
    simp [List.length_map]
    omega
  · omega
end

/- The walk of InfosetDisjoint. -/
section
open Go.RowKit

def usedB (m : Nat) (U : List Int) : List Bool := (List.range m).map fun (j : Nat) => decide ((j : Int) ∈ U)
theorem usedB_len (m : Nat) (U : List Int) : (usedB m U).length = m := by simp [usedB]
theorem usedB_at {m : Nat} (U : List Int) {j : Nat} (h : j < m) : nthB (usedB m U) j = decide ((j : Int) ∈ U) := by
  unfold nthB usedB
  simp [List.getD_eq_getElem?_getD, List.getElem?_map, List.getElem?_range h]
theorem usedB_ext {m : Nat} {U V : List Int} (h : ∀ x, x ∈ U ↔ x ∈ V) : usedB m U = usedB m V := by
  unfold usedB
  refine List.map_congr_left fun j _ => ?_
  simp [h]
theorem usedB_set {m : Nat} (U : List Int) {s : Int} (h0 : 0 ≤ s) : usedB m (U ++ [s]) = (usedB m U).set s.toNat true := by
  refine List.ext_getElem (by simp [usedB]) fun i h1 h2 => ?_
  rw [List.getElem_set]
  unfold usedB
  simp only [List.getElem_map, List.getElem_range, List.mem_append, List.mem_singleton]
  by_cases e : s.toNat = i
  · rw [if_pos e]
    have : (i : Int) = s := by omega
    simp [this]
  · rw [if_neg e]
    have : ¬ (i : Int) = s := by omega
    simp [this]
theorem usedB_nil (m : Nat) : (usedB m []).map Value.bool = List.replicate m (Value.bool false) := by
  refine List.ext_getElem (by simp [usedB]) fun i h1 h2 => ?_
  simp [usedB]

set_option maxRecDepth 100000 in
set_option maxHeartbeats 16000000 in
theorem infDisjoint_any (P M : Int) (am : Option Addr) (mn cm : Nat) (mod : List Int) (N : Int) (a : Option Addr) (n c : Nat) (L : List (List Int)) (w : World)
    (hmod : Ints w am mn mod) (hi : Mat w a n L) :
    Calls Tryz.prog 9 #[.agg #[.int .i64 P, .int .i64 M, .slice am mn cm, .int .i64 N, .slice a n c]] w fun e w' => e = .returned (.bool true) ∧ Below w.heap.size w w' := by
  have HF : Hid (∀ V, Below w.heap.size w V → Calls Tryz.prog 25 #[.agg #[.int .i64 P, .int .i64 M, .slice am mn cm, .int .i64 N, .slice a n c]] V (SomeBool V)) :=
    fun V hV => few25_any P M am mn cm N a n c L V (hi.keep hV)
  have HCk := Lib.hid (fun V (hV : Below w.heap.size w V) => rCheck_any P M am mn cm mod N a n c L V (hmod.keep hV) (hi.keep hV))
  have Hil := Lib.hid hi.len
  have hpla := hi.pl
  go_enter Tryz.func9, Tryz.ntmps9
  go_wp2_with fail
  obtain ⟨W, hW⟩ : ∃ W : World, W = w.alloc (.cells #[.int .i64 P, .int .i64 M, .slice am mn cm, .int .i64 N, .slice a n c] 27) := ⟨_, rfl⟩
  rw [← hW]
  have hbW : Below w.heap.size w W := by rw [hW]; exact below1 _ _
  have x0 : Box W w.heap.size [.int .i64 P, .int .i64 M, .slice am mn cm, .int .i64 N, .slice a n c] := by rw [hW]; exact Box.new _ _ _ rfl
  have HS : Hid (∀ V, Below W.heap.size W V → V.cell? ⟨w.heap.size, 0, none⟩ = some (.int .i64 P) ∧ V.cell? ⟨w.heap.size, 1, none⟩ = some (.int .i64 M) ∧ V.cell? ⟨w.heap.size, 2, none⟩ = some (.slice am mn cm) ∧ V.cell? ⟨w.heap.size, 3, none⟩ = some (.int .i64 N) ∧ V.cell? ⟨w.heap.size, 4, none⟩ = some (.slice a n c)) := fun V hV => by
    have x1 := x0.keep hV
    exact ⟨x1.cell 0 rfl, x1.cell 1 rfl, x1.cell 2 rfl, x1.cell 3 rfl, x1.cell 4 rfl⟩
  have HbW := Lib.hid hbW
  clear hW x0 hbW
  refine (awake_any W).mono ?_
  rintro e w1 ⟨rfl, hb1⟩
  obtain ⟨c0, c1, c2, c3, c4⟩ := HS.out w1 hb1
  go_wp2_with fail
  refine (HF.out w1 (Below.next HbW.out hb1)).mono ?_
  rintro e w2 ⟨z, rfl, hb2⟩
  have hB2 := Below.next hb1 hb2
  clear c0 c1 c2 c3 c4 HF
  cases z
  · go_wp2_with fail
    refine (awake_any w2).mono ?_
    rintro e w3 ⟨rfl, hb3⟩
    have hF := Below.next HbW.out (Below.next hB2 hb3)
    go_wp2_with fail
    go_ret
    exact ⟨rfl, hF⟩
  obtain ⟨c0, c1, c2, c3, c4⟩ := HS.out w2 hB2
  have Hck := Lib.hid (HCk.out w2 (Below.next HbW.out hB2))
  go_wp2_with fail
  refine Hck.out.mono ?_
  rintro e w3 ⟨rfl, hb3⟩
  have hB3 := Below.next hB2 hb3
  clear c0 c1 c2 c3 c4 Hck HCk hb1 hb2
  by_cases hE : codeE P M mod N L = 0
  rotate_left
  · have hE2 : (codeE P M mod N L != 0) = true := by simpa using hE
    clear hE
    generalize codeE P M mod N L = er at *
    go_wp2_with fail
    refine (awake_any w3).mono ?_
    rintro e w4 ⟨rfl, hb4⟩
    have hF := Below.next HbW.out (Below.next hB3 hb4)
    go_wp2_with fail
    go_ret
    exact ⟨rfl, hF⟩
  obtain ⟨m, rfl, hm1, hm64, F, hR⟩ := codeE_fld hE
  have hn256 : n ≤ 256 := by rw [← Hil.out]; exact (codeE_rws hE).choose_spec.2.2.2.1
  obtain ⟨hch, hTl⟩ := fam_all hE
  have hfa : Hid (∀ V, Below w.heap.size w V → Calls Tryz.prog 39 #[.agg #[.int .i64 P, .int .i64 M, .slice am mn cm, .int .i64 m, .slice a n c]] V fun e w' => ∃ a1 c1, e = .returned (.tuple #[.slice a1 (famL (tblOf P M.toNat mod).ops L m).length c1, .int .i64 0]) ∧ StR w' a1 (famL (tblOf P M.toNat mod).ops L m).length (famL (tblOf P M.toNat mod).ops L m) ∧ Below V.heap.size V w') := fun V hV => by
    refine (family_any P M am mn cm mod m a n c L V (hmod.keep hV) (hi.keep hV)).mono ?_
    rintro e w' ⟨hb, ⟨h0, _⟩ | ⟨_, m', hm', k, a1, c1, R, T, hT, rfl, hO⟩⟩
    · exact absurd hE h0
    · obtain rfl : m = m' := by omega
      subst hT
      obtain rfl := hO.tl
      exact ⟨a1, c1, rfl, hO.str, hb⟩
  have HIs : Hid (∀ V aq nq cq Q, Below w.heap.size w V → Ints V aq nq Q → okSet m Q = true → isB (tblOf P M.toNat mod).ops L Q = true → Calls Tryz.prog 28 #[.agg #[.int .i64 P, .int .i64 M, .slice am mn cm, .int .i64 m, .slice a n c], .slice aq nq cq] V fun e w' =>
      e = .returned (.tuple #[.bool true, .int .i64 0]) ∧ Below V.heap.size V w') := fun V aq nq cq Q hV hq hQ hB => by
    refine (infIs_any P M am mn cm mod m a n c L aq nq cq Q V (hmod.keep hV) (hi.keep hV) hq).mono ?_
    rintro e w' ⟨rfl, hbb⟩
    exact ⟨by rw [set_isV hE hQ, set_rankE hE hQ, hB], hbb⟩
  have HRl : Hid (∀ k, k < n → (nthR L k).length = m) := fun k hk => (hR _ (nthR_mem (by rw [Hil.out]; exact hk))).1
  rw [hE]
  obtain ⟨O, hO⟩ : ∃ O, (tblOf P M.toNat mod).ops = O := ⟨_, rfl⟩
  rw [hO] at hch hTl hfa HIs
  obtain ⟨T, hT⟩ : ∃ T, famL O L m = T := ⟨_, rfl⟩
  rw [hT] at hch hTl hfa
  have Hch := Lib.hid hch
  obtain ⟨k, hk⟩ : ∃ k, T.length = k := ⟨_, rfl⟩
  rw [hk] at hTl hfa
  have Hk := Lib.hid hk
  have hiW := hi
  clear hE hR F hO hT hk hch hmod hb3
  obtain ⟨c0, c1, c2, c3, c4⟩ := HS.out w3 hB3
  have Hfa := Lib.hid (hfa.out w3 (Below.next HbW.out hB3))
  have hdk : decide ((m : Int) < k) = false := by simp; omega
  go_wp2_with fail
  refine Hfa.out.mono ?_
  rintro e X0 ⟨af, cf, rfl, hSt, hb4⟩
  have hbX := Below.next hB3 hb4
  have hplf := hSt.pl
  clear c0 c1 c2 c3 c4 Hfa hfa hb4 hB3 hB2
  obtain ⟨_, _, _, c3, _⟩ := HS.out X0 hbX
  go_wp2_with (at_make; refine wpList_mk rfl _ _ 58 4 rfl (.bool false) 1 Tryz.underlying58 infoBool rfl m rfl rfl (by omega) (by unfold maxLen; omega) ?_; intro a5 X1 hown hbel hge hlt5)
  have hown0 : X1.ownsRow X0.heap.size 4 1 (.slice a5 m m) m ((usedB m []).map Value.bool) := by rw [usedB_nil]; exact hown
  clear hown c3 hge hlt5
  go_loopw [48] (fun iv wr => ∃ (i : Nat) (U : List Int), i ≤ k ∧ iv = .int .i64 i ∧ Hid (chainF O L m U (T.drop i)) ∧ wr.ownsRow X0.heap.size 4 1 (.slice a5 m m) m ((usedB m U).map Value.bool) ∧ Below X0.heap.size X0 wr) (fun iv _ => k - (intOf iv).toNat)
  case atStart => exact ⟨0, [], Nat.zero_le _, rfl, by show chainF O L m [] _; rw [List.drop_zero]; exact Hch.out, hown0, hbel⟩
  case round =>
    clear hown0 hbel
    obtain ⟨i, U, hik, rfl, hcn, hown, hbr⟩ := hrel
    have hbWr := Below.next hbX hbr
    by_cases hlt : i < k
    · have hiT : i < T.length := by rw [Hk.out]; exact hlt
      obtain ⟨sa, sc, p0, p1, hIS0⟩ := hSt.cell i hiT
      have q0 := cell_keep hbr p0
      have q1 := cell_keep hbr p1
      have hIS := hIS0.keep hbr
      clear p0 p1
      have hcn2 := hcn.out
      rw [List.drop_eq_getElem_cons hiT] at hcn2
      obtain ⟨g1, g2, g3, g4, g5⟩ := hcn2
      obtain ⟨S, hS⟩ : ∃ S, T[i].1 = S := ⟨_, rfl⟩
      obtain ⟨r, hr⟩ : ∃ r, T[i].2 = r := ⟨_, rfl⟩
      rw [hS] at q0 hIS hIS0 g1 g2 g4 g5
      rw [hr] at q1 g3 g4
      obtain ⟨Sn, hSn⟩ : ∃ Sn, S.length = Sn := ⟨_, rfl⟩
      rw [hSn] at q0 hIS hIS0 g4
      have HSn := Lib.hid hSn
      have Hg4 := Lib.hid g4
      have Hg5 := Lib.hid g5
      have Hok := Lib.hid g1
      have HIsr := Lib.hid (fun V (hV : Below wr.heap.size wr V) => HIs.out V sa Sn sc S (Below.next HbW.out (Below.next hbWr hV)) (hIS.keep hV) g1 g2)
      have hSn64 : Sn ≤ 256 := by have h := (isB_iff.1 g2).1; rw [hSn, Hil.out] at h; omega
      have HIS := Lib.hid hIS0
      have hplS := hIS.pl
      have hr1 : decide (r < 1) = false := by simp; omega
      have Hown := Lib.hid hown
      have hltm : ablk a5 < wr.heap.size := (own_lt_pos hown (by omega)).2
      clear hS hr hSn g1 g2 g4 g5 hiT hIS hIS0 hown
      obtain ⟨V, hV⟩ : ∃ V : World, V = wr.alloc (.cells #[.slice sa Sn sc, .int .i64 r] 60) := ⟨_, rfl⟩
      have xV : Box V wr.heap.size [.slice sa Sn sc, .int .i64 r] := by rw [hV]; exact Box.new _ _ _ rfl
      have hbV : Below wr.heap.size wr V := by rw [hV]; exact below1 _ _
      obtain ⟨g, hg⟩ : ∃ g, wr.heap.size = g := ⟨_, rfl⟩
      have HV := Lib.hid hV
      have Hg := Lib.hid hg
      obtain ⟨c0, c1, c2, c3, c4⟩ := HS.out _ (Below.next hbWr hbV)
      have e0 := xV.cell 0 rfl
      have e1 := xV.cell 1 rfl
      rw [hV] at c0 c1 c2 c3 c4 e0 e1
      have Hisr := Lib.hid (HIsr.out V hbV)
      rw [hV] at Hisr
      clear hV hg
      go_wp2_with fail
      refine Hisr.out.mono ?_
      rintro e V1 ⟨rfl, hb5⟩
      rw [← HV.out] at hb5
      have hbV1 := Below.next hbV hb5
      have xV1 := xV.keep hb5
      have e0 := xV1.cell 0 rfl
      have e1 := xV1.cell 1 rfl
      have hown1 := own_keep Hown.out hbV1
      have hb01 := Below.next hbr hbV1
      have HbV1 := Lib.hid (And.intro hbV1 hb01)
      rw [Hg.out] at e0 e1 hltm
      rw [Hg.out]
      clear c0 c1 c2 c3 c4 q0 q1 Hisr xV xV1 hb5 hbV hbV1 HIsr
      go_wp2_with fail
      go_loopw [10, 73] (fun fv jv ws => ∃ q : Nat, q ≤ Sn ∧ jv = .int .i64 q ∧ fv = .int .i64 (newF U S q) ∧ ws.ownsRow X0.heap.size 4 1 (.slice a5 m m) m ((usedB m (U ++ S.take q)).map Value.bool) ∧ ws.cell? ⟨g, 0, none⟩ = some (.slice sa Sn sc) ∧ ws.cell? ⟨g, 1, none⟩ = some (.int .i64 r) ∧ Below X0.heap.size X0 ws) (fun _ jv _ => Sn - (intOf jv).toNat)
      case atStart => exact ⟨0, Nat.zero_le _, rfl, rfl, by simpa using hown1, e0, e1, hb01⟩
      case round =>
        clear hown1 hb01 e0 e1
        obtain ⟨q, hq, rfl, rfl, hown2, e0, e1, hbs⟩ := hrel
        generalize wr = ws at *
        by_cases hltq : q < Sn
        · have hqS : q < S.length := by rw [HSn.out]; exact hltq
          have cs := (HIS.out.keep hbs).cell q hltq
          have hsb := okSet_at Hok.out hqS
          obtain ⟨s, hs⟩ : ∃ s : Nat, nth S q = s := ⟨(nth S q).toNat, by omega⟩
          have hsm : s < m := by omega
          have hst : newF U S (q + 1) = if nth S q ∈ U then newF U S q else newF U S q + 1 := rfl
          have htk : S.take (q + 1) = S.take q ++ [(s : Int)] := by rw [List.take_succ_eq_append_getElem hqS, ← nth_getElem hqS, hs]
          have hnt : ¬ (s : Int) ∈ S.take q := fun h => by
            have h1 : (S.take (q + 1)).Nodup := (List.take_sublist _ _).nodup (okSet_nodup Hok.out)
            rw [htk, List.nodup_append] at h1
            exact h1.2.2 _ h _ (by simp) rfl
          rw [hs] at cs hst
          obtain ⟨hbl, hmine⟩ := Bools.own hown2
          have hplu := hbl.pl
          have cu := hbl.cell s hsm
          have fu := (hmine (by omega)).2 s hsm
          have hBu := (hmine (by omega)).1
          rw [usedB_at _ hsm] at cu
          have hsm2 : (s : Int) < m := by omega
          have hbd := newF_bd U S q
          obtain ⟨_, _, _, c3, _⟩ := HS.out ws (Below.next hbX hbs)
          obtain ⟨t, ht⟩ : ∃ t, newF U S q = t := ⟨_, rfl⟩
          rw [ht] at hst hbd ⊢
          clear hs hsb ht hbl hmine
          by_cases hu : (s : Int) ∈ U
          · rw [if_pos hu] at hst
            rw [show decide ((s : Int) ∈ U ++ S.take q) = true by simp [hu]] at cu
            have Hst := Lib.hid hst
            have Hus : Hid (usedB m (U ++ S.take (q + 1)) = usedB m (U ++ S.take q)) := usedB_ext fun x => by
              rw [htk]
              simp only [List.mem_append, List.mem_singleton]
              constructor
              · rintro (h | h | h)
                · exact .inl h
                · exact .inr h
                · rw [h]; exact .inl hu
              · rintro (h | h)
                · exact .inl h
                · exact .inr (.inl h)
            have Hown2 := Lib.hid hown2
            clear hu hst htk hnt hown2
            go_wp2_with fail
            go_roundw
            case rel => exact ⟨q + 1, by omega, by go_num, by rw [Hst.out], by rw [Hus.out]; exact Hown2.out, e0, e1, hbs⟩
            case measure => simp [intOf] <;> omega
          · rw [if_neg hu] at hst
            rw [show decide ((s : Int) ∈ U ++ S.take q) = false by simp [hu, hnt]] at cu
            have Hst := Lib.hid hst
            have kz : IntKind.i64.wrap (t + 1) = t + 1 := IntWalk.i64_in _ (by omega)
            have o1 := own_set hown2 s hsm (.bool true)
            rw [← List.map_set] at o1
            have hus : (usedB m (U ++ S.take q)).set s true = usedB m (U ++ S.take (q + 1)) := by
              rw [htk, ← List.append_assoc, usedB_set _ (by omega), Int.toNat_natCast]
            rw [hus] at o1
            have hne : (⟨ablk a5, aoff a5 + s, none⟩ : Addr).block ≠ g := by show ablk a5 ≠ g; omega
            have E0 := Lib.hid ((World.cell?_setCell_other ws ⟨ablk a5, aoff a5 + s, none⟩ ⟨g, 0, none⟩ (.bool true) (by simp <;> omega)).trans e0)
            have E1 := Lib.hid ((World.cell?_setCell_other ws ⟨ablk a5, aoff a5 + s, none⟩ ⟨g, 1, none⟩ (.bool true) (by simp <;> omega)).trans e1)
            have Ho := Lib.hid (And.intro o1 (hbs.setCell (p := ⟨ablk a5, aoff a5 + s, none⟩) hBu (.bool true)))
            clear hu hst htk hnt hown2 o1 hus hne
            go_wp2_with fail
            go_roundw
            case rel => exact ⟨q + 1, by omega, by go_num, by rw [Hst.out], Ho.out.1, E0.out, E1.out, Ho.out.2⟩
            case measure => simp [intOf] <;> omega
        · obtain rfl : q = Sn := by omega
          have hrk : newF U S q = r := Hg4.out.symm
          rw [List.take_of_length_le (by rw [HSn.out]; exact Nat.le_refl _)] at hown2
          have Ho := Lib.hid (And.intro hown2 hbs)
          have hrr : (r != r) = false := by simp
          rw [hrk]
          clear hrk hown2 hbs
          go_wp2_with fail
          go_roundw
          case rel => exact ⟨i + 1, U ++ S, by omega, by go_num, Hg5.out, Ho.out.1, Ho.out.2⟩
          case measure => simp [intOf] <;> omega
    · obtain rfl : i = k := by omega
      have hend := hcn.out
      rw [List.drop_of_length_le (by rw [Hk.out]; exact Nat.le_refl _)] at hend
      have Hend : Hid (∀ j, j < m → ¬ (j : Int) ∈ U → ∀ q, q < n → nth (nthR L q) j = 0) := fun j hj hjU q hq => hend j hj hjU q (by rw [Hil.out]; exact hq)
      have hbwr := Below.next HbW.out hbWr
      have hiY := hi.keep hbwr
      obtain ⟨c0, c1, c2, c3, c4⟩ := HS.out wr hbWr
      obtain ⟨hbl, _⟩ := Bools.own hown
      have hplu := hbl.pl
      clear hend hcn hown
      generalize wr = Y at *
      go_wp2_with fail
      go_loopw [103] (fun iv ws => ∃ j : Nat, j ≤ m ∧ iv = .int .i64 j ∧ ws = Y) (fun iv _ => m - (intOf iv).toNat)
      case atStart => exact ⟨0, Nat.zero_le _, rfl, rfl⟩
      case round =>
        obtain ⟨j, hj, rfl, rfl⟩ := hrel
        by_cases hltj : j < m
        · have cu := hbl.cell j hltj
          rw [usedB_at _ hltj] at cu
          have hltj2 : (j : Int) < m := by omega
          generalize wr = Y at *
          go_wp2_with fail
          go_loopw [109] (fun iv ws => ∃ q : Nat, q ≤ n ∧ iv = .int .i64 q ∧ ws = Y) (fun iv _ => n - (intOf iv).toNat)
          case atStart => exact ⟨0, Nat.zero_le _, rfl, rfl⟩
          case round =>
            obtain ⟨q, hq, rfl, rfl⟩ := hrel
            by_cases hltq : q < n
            · obtain ⟨ra, rn, rc, hcell, hrow⟩ := hiY.cell q hltq
              have hrn : rn = m := by rw [← hrow.len]; exact HRl.out q hltq
              subst hrn
              have hplr := hrow.pl
              by_cases hu : (j : Int) ∈ U
              · rw [show decide ((j : Int) ∈ U) = true by simpa using hu] at cu
                clear hu
                go_wp2_with fail
                go_roundw
                case rel => exact ⟨q + 1, by omega, by go_num, by simp⟩
                case measure => simp [intOf] <;> omega
              · rw [show decide ((j : Int) ∈ U) = false by simpa using hu] at cu
                have cr := hrow.cell j hltj
                rw [Hend.out j hltj hu q hltq] at cr
                clear hu
                go_wp2_with fail
                go_roundw
                case rel => exact ⟨q + 1, by omega, by go_num, by simp⟩
                case measure => simp [intOf] <;> omega
            · obtain rfl : q = n := by omega
              go_wp2_with fail
              go_roundw
              case rel => exact ⟨j + 1, by omega, by go_num, by simp⟩
              case measure => simp [intOf] <;> omega
        · obtain rfl : j = m := by omega
          go_wp2_with fail
          go_ret
          exact ⟨rfl, hbwr⟩
end

/- InfosetDisjoint: the statement. -/
section
open Go.ChangeShapes Go.WideShapes Go.ChangeAt Go.RowKit

set_option maxRecDepth 100000 in
theorem infDisjoint_lifted (os : Os) (started : os.Started) (H : Type) (enc : TypeId × Value → H) :
    ReturnsInHanded {} Tryz.checked os 9 .any (Rows.infosetDisjointSpec.pre6 enc Tryz.prog Tryz.f9 Rows.infosetDisjointRow.domain false) (Rows.infosetDisjointSpec.post enc Tryz.prog Tryz.f9 false true false false) := by
  refine returnsInHanded_of_change (C := Tryz.checked) Tryz.own started (by kernel_rfl) Tryz.func9
    (ChangeSpec.witness6 (enc := enc) (C := Tryz.checked) false ⟨#[], #[.agg #[.int .i64 0, .int .i64 0, .slice none 0 0, .int .i64 0, .slice none 0 0]], []⟩ 8 (by kernel_rfl) (by kernel_rfl) (by kernel_rfl) (by kernel_rfl)) ?_
  intro W base args ds gs before hval0 hW hcnd _
  have hval : ∀ (j : Nat) t v, Tryz.f9.params[j]? = some t → args[j]? = some v → Value.okWide Tryz.prog W .any base t v := hval0
  have hW' := hW
  obtain ⟨p, q, hA0, hV, rfl, hfz, hnd⟩ := hW
  have hA : DataW.TrodAll enc Tryz.prog W 0 (fun _ => true) true Tryz.f9.params.toList args.toList ds p := hA0
  rw [Tryz.params9] at hA hval
  obtain ⟨v0, vs0, d0, ds0, p0, q0, hargs, rfl, rfl, h0, r0⟩ := trodAll_cons hA
  obtain ⟨rfl, rfl, rfl⟩ := trodAll_nil r0
  obtain rfl : args = #[v0] := by cases args; simp_all
  obtain ⟨rfl, rfl⟩ := trodVars_none hV
  have k0 := h0
  have lt0 : ∀ x ∈ p0, x.block < W.heap.size := by obtain ⟨m, hm⟩ := k0; exact DataW.trod_lt m _ _ _ hm
  obtain ⟨P, M, am, mn, cm, mod, N, a, n, c, L, rfl, hI0, hM0⟩ := arg_code (hval 0 _ v0 rfl rfl) h0
  clear hA0 hval0
  refine (infDisjoint_any P M am mn cm mod N a n c L W hI0 hM0).mono fun e W' ⟨he, bel⟩ => ?_
  subst he
  exact ⟨_, rfl, _, _, _, [], _, [], hW', trodAll_mk1 (shut_bool Tryz.underlying4 _), (trodAll_cons_mk (Below.trod Tryz.laid (by kernel_rfl) (of_decide_eq_true (by kernel_rfl)) k0 bel lt0) trodAll_mk0), rfl, bel.frame _, fun h => by cases h⟩

theorem infDisjoint_over : Rows.infosetDisjointRow.holds Tryz.pinned (OpenSpec.ofChange Rows.infosetDisjointSpec) :=
  OpenClaim.holds_of_wide 9 Tryz.f9 rfl rfl rfl rfl rfl rfl rfl ⟨rfl, rfl, rfl, rfl, rfl⟩ rfl rfl rfl rfl rfl (by kernel_rfl) Tryz.func9 (by kernel_rfl)
    (of_decide_eq_true (by kernel_rfl)) (by unfold Func.isWrapper; first | (rw [if_pos (by decide +kernel)]; kernel_rfl) | (rw [if_neg (by decide +kernel)]; exact ⟨rfl, rfl⟩))
    (fun os started H enc _ => infDisjoint_lifted os started H enc)

theorem infDisjoint_holds : Rows.InfosetDisjointSaid := infDisjoint_over
#print axioms infDisjoint_holds
end

end Go.Proofs.YtakmnncmeefceaaGreat
