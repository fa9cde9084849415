/- The walks of the reference of layer 4: divides, irreducible. -/
import Derived.Test.YtapjcccpokhhhaaG11
import Derived.Test.YtapjcccpokhhhaaG8
import Derived.Test.YtapjcccpokhhhaaG9
import Derived.Test.YtapjcccpokhhhaaG7
namespace Go.Proofs.Ytapjcccpokhhhaa
set_option linter.unusedVariables false
set_option linter.unusedSimpArgs false
set_option linter.unusedSectionVars false

/- The kernel of a canonical matrix; canonical matrices are fixed. -/
section
section
variable {O : FOps} {El : Int → Prop} {m n : Nat}

/-- the rows are 0 ahead of their pivots, which ascend -/
structure Lead (L : List (List Int)) (P : List Int) : Prop where
  lead : ∀ i x, i < P.length → x < (nth P i).toNat → nth (nthR L i) x = 0
  asc : ∀ i j, i < j → j < P.length → nth P i < nth P j
theorem elim_lead (F : Fld O El) {L : List (List Int)} (hL : Rws El m L) : ∀ k, k ≤ m → Lead (elimTo O L k).1 (elimTo O L k).2
  | 0, _ => ⟨fun i x hi => by simp [elimTo] at hi, fun i j _ hj => by simp [elimTo] at hj⟩
  | k + 1, hk => by
    have ih := elim_lead F hL k (by omega)
    obtain ⟨h1, _, _⟩ := elim_inv F hL k (by omega)
    have hR := elim_rws F hL k (by omega)
    have hb := findRow_bd (L := (elimTo O L k).1) (c := k) (k := (elimTo O L k).2.length) h1.le
    by_cases hlt : (elimTo O L k).2.length < (elimTo O L k).1.length
    · rw [elimTo_next (Lk := (elimTo O L k).1) (P := (elimTo O L k).2) rfl hlt]
      split
      · exact ih
      · rename_i hf
        have hfl : findRow (elimTo O L k).1 k (elimTo O L k).2.length < (elimTo O L k).1.length := by omega
        have hne : nth (nthR (elimTo O L k).1 (findRow (elimTo O L k).1 k (elimTo O L k).2.length)) k ≠ 0 := findTo_stop _ k _ _ (by show findRow _ k _ < _; omega)
        generalize findRow (elimTo O L k).1 k (elimTo O L k).2.length = r at *
        generalize (elimTo O L k).1 = A at *
        generalize (elimTo O L k).2 = P at *
        have hp : El (nth (nthR A r) k) := Vc.at (hR.row hfl) (by omega)
        have hpi := F.cl.inv _ hp hne
        refine ⟨fun i x hi hx => ?_, fun i j hij hj => ?_⟩
        · rw [List.length_append, List.length_singleton] at hi
          have hx' : x < m := by
            rw [nth_push] at hx
            by_cases e : i < P.length
            · rw [if_pos e] at hx; have := h1.lt i e; omega
            · rw [if_neg e, if_pos (by omega)] at hx; omega
          rw [nth_pivotS F hR hlt hfl (by omega) hne (i := i) (by omega) hx']
          rw [nth_push] at hx
          by_cases e : i < P.length
          · rw [if_pos e] at hx
            have h2 := h1.lt i e
            rw [if_neg (by omega), show sw P.length r i = i by unfold sw; rw [if_neg (by omega), if_neg (by omega)], h1.zero r x hb.1 hfl (by omega), F.mzero hpi, F.zmul (Vc.at (hR.row (by omega)) (by omega)), F.nzero, F.add_zero _ (Vc.at (hR.row (by omega)) hx')]
            exact ih.lead i x e hx
          · rw [if_neg e, if_pos (by omega)] at hx
            rw [if_pos (by omega), h1.zero r x hb.1 hfl (by omega), F.mzero hpi]
        · rw [List.length_append, List.length_singleton] at hj
          rw [nth_push, nth_push, if_pos (by omega)]
          by_cases e : j < P.length
          · rw [if_pos e]; exact ih.asc i j hij e
          · rw [if_neg e, if_pos (by omega)]
            have := h1.lt i (by omega)
            omega
    · have hfull : (elimTo O L k).2.length = L.length := by have := elimTo_length O L k; have := h1.le; omega
      rw [elimTo_full hfull 1]
      exact ih

theorem inv_one (F : Fld O El) : O.inv 1 = 1 := by
  have h := F.mul_inv 1 F.one (by decide)
  rwa [F.one_mul _ (F.cl.inv 1 F.one (by decide))] at h
theorem clearTo_id (O : FOps) {R : List (List Int)} {t c : Nat} (h : ∀ i, i < R.length → i ≠ t → nth (nthR R i) c = 0) : ∀ i, i ≤ R.length → clearTo O t c R i = R
  | 0, _ => rfl
  | i + 1, hi => by
    unfold clearTo
    rw [clearTo_id O h i (by omega)]
    split
    · rfl
    · rename_i e
      unfold clearRow
      rw [if_pos (h i (by omega) e), set_nthR]
/-- a canonical matrix stays -/
theorem elim_fix (F : Fld O El) {R : List (List Int)} {P : List Int} (hP : Piv R P m) (hl : Lead R P) (hlen : R.length = P.length) : ∀ k, k ≤ m →
    ∃ t, t ≤ P.length ∧ elimTo O R k = (R, P.take t) ∧ (∀ j, j < t → nth P j < k) ∧ (∀ j, t ≤ j → j < P.length → (k : Int) ≤ nth P j)
  | 0, _ => ⟨0, Nat.zero_le _, by simp [elimTo], fun j hj => by omega, fun j _ hj => (hP.lt j hj).1⟩
  | k + 1, hk => by
    obtain ⟨t, ht, he, h1, h2⟩ := elim_fix F hP hl hlen k (by omega)
    have htl : (P.take t).length = t := by rw [List.length_take]; omega
    by_cases htt : t = P.length
    · refine ⟨t, ht, ?_, fun j hj => by have := h1 j hj; omega, fun j h3 h4 => by omega⟩
      have hfull : (elimTo O R k).2.length = R.length := by rw [he]; show (P.take t).length = _; omega
      rw [elimTo_full hfull 1, he]
    · have htR : t < R.length := by omega
      rw [elimTo_next (Lk := R) (P := P.take t) he.symm (by rw [htl]; exact htR), htl]
      by_cases hpk : nth P t = k
      · have h11 := hP.one t t (by omega) htR
        rw [hpk, if_pos rfl, Int.toNat_natCast] at h11
        have hf : findRow R k t = t := by rw [findRow_step htR, if_neg (by rw [h11]; decide)]
        rw [hf, if_neg (by omega)]
        have hpv : pivotS O R t t k = R := by
          rw [pivotS_eq, if_pos rfl]
          have hn : normRow O R t k = R := by unfold normRow; rw [h11, if_pos (inv_one F)]
          rw [hn]
          refine clearTo_id O (fun i hi hit => ?_) _ (Nat.le_refl _)
          have := hP.one t i (by omega) hi
          rw [hpk, if_neg hit, Int.toNat_natCast] at this
          exact this
        rw [hpv]
        refine ⟨t + 1, by omega, ?_, fun j hj => ?_, fun j h3 h4 => ?_⟩
        · rw [List.take_succ_eq_append_getElem (by omega), ← nth_getElem, hpk]
        · by_cases e : j = t
          · subst e; omega
          · have := h1 j (by omega); omega
        · have := hl.asc t j (by omega) h4
          omega
      · have hgt : (k : Int) < nth P t := by have := h2 t (Nat.le_refl _) (by omega); omega
        have hz : ∀ i, t ≤ i → i < R.length → nth (nthR R i) k = 0 := fun i h3 h4 => by
          refine hl.lead i k (by omega) ?_
          by_cases e : i = t
          · subst e; omega
          · have := hl.asc t i (by omega) (by omega); omega
        have hf : ∀ d i, d = R.length - i → t ≤ i → i ≤ R.length → findRow R k i = R.length := by
          intro d
          induction d with
          | zero => intro i h3 _ h5; rw [findRow_end (by omega)]; omega
          | succ d ih =>
            intro i h3 h4 h5
            rw [findRow_step (by omega), if_pos (hz i h4 (by omega))]
            exact ih (i + 1) (by omega) (by omega) (by omega)
        rw [hf _ t rfl (Nat.le_refl _) (by omega), if_pos rfl]
        refine ⟨t, ht, rfl, fun j hj => by have := h1 j hj; omega, fun j h3 h4 => ?_⟩
        by_cases e : j = t
        · subst e; omega
        · have := hl.asc t j (by omega) h4; omega
theorem elim_fixed (F : Fld O El) {R : List (List Int)} {P : List Int} (hP : Piv R P m) (hl : Lead R P) (hlen : R.length = P.length) : elimTo O R m = (R, P) := by
  obtain ⟨t, ht, he, h1, h2⟩ := elim_fix F hP hl hlen m (Nat.le_refl _)
  have : t = P.length := by
    apply Classical.byContradiction
    intro h
    have h3 := h2 t (Nat.le_refl _) (by omega)
    have h4 := hP.lt t (by omega)
    omega
  rw [he, this, List.take_length]

/-- the canonical rows of L -/
def canO (O : FOps) (m : Nat) (L : List (List Int)) : List (List Int) := (elimTo O L m).1.take (elimTo O L m).2.length
theorem nthR_takeK {L : List (List Int)} {t i : Nat} (h : i < t) : nthR (L.take t) i = nthR L i := by
  unfold nthR
  simp only [List.getD_eq_getElem?_getD, List.getElem?_take]
  rw [if_pos h]
theorem canO_len (F : Fld O El) {L : List (List Int)} (hL : Rws El m L) : (canO O m L).length = (elimTo O L m).2.length := by
  have h1 := (elim_inv F hL m (Nat.le_refl _)).1.le
  unfold canO
  rw [List.length_take]; omega
theorem canO_rws (F : Fld O El) {L : List (List Int)} (hL : Rws El m L) : Rws El m (canO O m L) := fun r hr => elim_rws F hL m (Nat.le_refl _) r (List.mem_of_mem_take hr)
theorem canO_piv (F : Fld O El) {L : List (List Int)} (hL : Rws El m L) : Piv (canO O m L) (elimTo O L m).2 m ∧ Lead (canO O m L) (elimTo O L m).2 := by
  have h1 := (elim_inv F hL m (Nat.le_refl _)).1
  have h2 := elim_lead F hL m (Nat.le_refl _)
  have hl := canO_len F hL
  refine ⟨⟨by omega, h1.lt, fun j i hj hi => ?_, fun i x hi1 hi2 _ => by omega⟩, ⟨fun i x hi hx => ?_, h2.asc⟩⟩
  · unfold canO
    rw [nthR_takeK (by omega)]
    exact h1.one j i hj (by have := h1.le; omega)
  · unfold canO
    rw [nthR_takeK hi]
    exact h2.lead i x hi hx
theorem canO_idem (F : Fld O El) {L : List (List Int)} (hL : Rws El m L) : canO O m (canO O m L) = canO O m L := by
  obtain ⟨h1, h2⟩ := canO_piv F hL
  have hl := canO_len F hL
  have h3 := elim_fixed F h1 h2 hl
  have e : canO O m (canO O m L) = (canO O m L).take (elimTo O L m).2.length := by
    show (elimTo O (canO O m L) m).1.take (elimTo O (canO O m L) m).2.length = _
    rw [h3]
  rw [e, List.take_of_length_le (by omega)]
theorem RS.nul (F : Fld O El) {L : List (List Int)} {f : Nat → Int} (h : ∀ x, x < m → f x = 0) : RS O El m L f := by
  refine ⟨fun _ => 0, ⟨fun _ _ => F.zero, fun v r x hv hr hx => ?_, fun r x hr hx => (F.mzero hx).symm⟩, fun x hx => h x hx⟩
  show (0 : Int) = O.add 0 (O.neg (O.mul x 0))
  rw [F.mzero hx, F.nzero, F.add_zero 0 F.zero]
theorem canO_rsub (F : Fld O El) {L : List (List Int)} (hL : Rws El m L) : RSub O El m (canO O m L) L ∧ RSub O El m L (canO O m L) := by
  obtain ⟨h1, h2, h3⟩ := elim_inv F hL m (Nat.le_refl _)
  have hl := canO_len F hL
  refine ⟨fun i hi => ?_, h3.trans fun i hi => ?_⟩
  · have e : nthR (canO O m L) i = nthR (elimTo O L m).1 i := by unfold canO; exact nthR_takeK (by omega)
    rw [e]; exact h2 i (by have := h1.le; omega)
  · by_cases e : i < (elimTo O L m).2.length
    · have e2 : nthR (elimTo O L m).1 i = nthR (canO O m L) i := by unfold canO; exact (nthR_takeK e).symm
      rw [e2]; exact RS.row F (by omega)
    · exact RS.nul F fun x hx => h1.zero i x (by omega) hi hx
/-- the number of the canonical rows is the rank of their columns -/
theorem canO_rk (F : Fld O El) {L : List (List Int)} (hL : Rws El m L) : Rk (clV O El (canO O m L).length (colS (canO O m L))) (List.range m) (canO O m L).length := by
  have h := piv_rk F (canO_rws F hL)
  obtain ⟨h1, h2⟩ := canO_piv F hL
  rw [elim_fixed F h1 h2 (canO_len F hL)] at h
  rw [canO_len F hL]
  rw [canO_len F hL] at h
  exact h

/-- the row of the kernel for the column c: behind i pivots -/
def kerTo (O : FOps) (m : Nat) (R : List (List Int)) (P : List Int) (c : Nat) : Nat → List Int
  | 0 => (List.replicate m 0).set c 1
  | i + 1 => (kerTo O m R P c i).set (nth P i).toNat (O.neg (nth (nthR R i) c))
/-- the rows for the columns below k that are no pivots -/
def kerL (O : FOps) (m : Nat) (R : List (List Int)) (P : List Int) : Nat → List (List Int)
  | 0 => []
  | k + 1 => if (k : Int) ∈ P then kerL O m R P k else kerL O m R P k ++ [kerTo O m R P k P.length]
/-- these columns -/
def npL (P : List Int) : Nat → List Nat
  | 0 => []
  | k + 1 => if (k : Int) ∈ P then npL P k else npL P k ++ [k]
theorem kerTo_len (O : FOps) (m : Nat) (R : List (List Int)) (P : List Int) (c : Nat) : ∀ i, (kerTo O m R P c i).length = m
  | 0 => by simp [kerTo]
  | i + 1 => by rw [kerTo, List.length_set, kerTo_len O m R P c i]
theorem kerL_len (O : FOps) (m : Nat) (R : List (List Int)) (P : List Int) : ∀ k, (kerL O m R P k).length = (npL P k).length
  | 0 => rfl
  | k + 1 => by
    rw [kerL, npL]
    split
    · exact kerL_len O m R P k
    · rw [List.length_append, List.length_append, kerL_len O m R P k]; rfl
theorem mem_npL {P : List Int} {x : Nat} : ∀ k, x ∈ npL P k ↔ x < k ∧ ¬ (x : Int) ∈ P
  | 0 => by simp [npL]
  | k + 1 => by
    rw [npL]
    split
    · rename_i h
      rw [mem_npL k]
      constructor
      · rintro ⟨h1, h2⟩; exact ⟨by omega, h2⟩
      · rintro ⟨h1, h2⟩
        by_cases e : x = k
        · subst e; exact absurd h h2
        · exact ⟨by omega, h2⟩
    · rename_i h
      rw [List.mem_append, mem_npL k, List.mem_singleton]
      constructor
      · rintro (⟨h1, h2⟩ | rfl)
        · exact ⟨by omega, h2⟩
        · exact ⟨by omega, h⟩
      · rintro ⟨h1, h2⟩
        by_cases e : x = k
        · exact .inr e
        · exact .inl ⟨by omega, h2⟩
theorem kerL_at (O : FOps) (m : Nat) (R : List (List Int)) (P : List Int) {j : Nat} : ∀ k, j < (npL P k).length → nthR (kerL O m R P k) j = kerTo O m R P ((npL P k).getD j 0) P.length
  | 0, h => by simp [npL] at h
  | k + 1, h => by
    rw [kerL, npL] at *
    split
    · rename_i hc
      rw [if_pos hc] at h
      exact kerL_at O m R P k h
    · rename_i hc
      rw [if_neg hc, List.length_append, List.length_singleton] at h
      have hl := kerL_len O m R P k
      by_cases e : j < (npL P k).length
      · have e1 : nthR (kerL O m R P k ++ [kerTo O m R P k P.length]) j = nthR (kerL O m R P k) j := by
          unfold nthR; simp only [List.getD_eq_getElem?_getD]; rw [List.getElem?_append_left (by omega)]
        have e2 : (npL P k ++ [k]).getD j 0 = (npL P k).getD j 0 := by simp only [List.getD_eq_getElem?_getD]; rw [List.getElem?_append_left e]
        rw [e1, e2]; exact kerL_at O m R P k e
      · have ej : j = (npL P k).length := by omega
        have e1 : nthR (kerL O m R P k ++ [kerTo O m R P k P.length]) j = kerTo O m R P k P.length := by
          unfold nthR; simp only [List.getD_eq_getElem?_getD]; rw [List.getElem?_append_right (by omega)]; simp [ej, hl]
        have e2 : (npL P k ++ [k]).getD j 0 = k := by simp only [List.getD_eq_getElem?_getD]; rw [List.getElem?_append_right (by omega)]; simp [ej]
        rw [e1, e2]

variable {R : List (List Int)} {P : List Int}
theorem kerTo_other (hP : Piv R P m) {c x : Nat} (hx : x < m) (hxc : x ≠ c) : ∀ i, i ≤ P.length → (∀ j, j < i → (nth P j).toNat ≠ x) → nth (kerTo O m R P c i) x = 0
  | 0, _, _ => by
    by_cases hc : c < m
    · rw [kerTo, nth_set _ _ _ _ (by simpa using hc), if_neg hxc]; simp [nth, List.getD_eq_getElem?_getD, List.getElem?_replicate]; split <;> rfl
    · rw [kerTo, List.set_eq_of_length_le (by simp; omega)]; simp [nth, List.getD_eq_getElem?_getD, List.getElem?_replicate]; split <;> rfl
  | i + 1, hi, h => by
    have hb := hP.lt i (by omega)
    rw [kerTo, nth_set _ _ _ _ (by rw [kerTo_len]; omega), if_neg (fun e => h i (by omega) e.symm)]
    exact kerTo_other hP hx hxc i (by omega) fun j hj => h j (by omega)
theorem kerTo_self (hP : Piv R P m) {c : Nat} (hc : c < m) (hn : ¬ (c : Int) ∈ P) : ∀ i, i ≤ P.length → nth (kerTo O m R P c i) c = 1
  | 0, _ => by rw [kerTo, nth_set _ _ _ _ (by simpa using hc), if_pos rfl]
  | i + 1, hi => by
    have hb := hP.lt i (by omega)
    have hne : c ≠ (nth P i).toNat := fun e => hn (by
      have : nth P i ∈ P := nth_mem (by omega)
      rwa [show nth P i = (c : Int) by omega] at this)
    rw [kerTo, nth_set _ _ _ _ (by rw [kerTo_len]; omega), if_neg hne]
    exact kerTo_self hP hc hn i (by omega)
theorem kerTo_piv (hP : Piv R P m) (hl : Lead R P) {c j : Nat} : ∀ i, i ≤ P.length → j < i → nth (kerTo O m R P c i) (nth P j).toNat = O.neg (nth (nthR R j) c)
  | 0, _, h => by omega
  | i + 1, hi, h => by
    have hb := hP.lt i (by omega)
    have hbj := hP.lt j (by omega)
    rw [kerTo, nth_set _ _ _ _ (by rw [kerTo_len]; omega)]
    by_cases e : j = i
    · subst e; rw [if_pos rfl]
    · have := hl.asc j i (by omega) (by omega)
      rw [if_neg (by omega)]
      exact kerTo_piv hP hl i (by omega) (by omega)
theorem kerTo_vc (F : Fld O El) (hR : Rws El m R) (hP : Piv R P m) (hlen : R.length = P.length) {c : Nat} (hc : c < m) : ∀ i, i ≤ P.length → Vc El m (kerTo O m R P c i)
  | 0, _ => ⟨kerTo_len O m R P c 0, fun y hy => by
    rw [kerTo] at hy
    rcases List.mem_or_eq_of_mem_set hy with h | rfl
    · rw [List.eq_of_mem_replicate h]; exact F.zero
    · exact F.one⟩
  | i + 1, hi => ⟨kerTo_len O m R P c (i + 1), fun y hy => by
    rw [kerTo] at hy
    rcases List.mem_or_eq_of_mem_set hy with h | rfl
    · exact (kerTo_vc F hR hP hlen hc i (by omega)).2 y h
    · exact F.cl.neg _ (Vc.at (hR.row (by omega)) hc)⟩
theorem npL_at {P : List Int} {k j : Nat} (h : j < (npL P k).length) : (npL P k).getD j 0 < k ∧ ¬ (((npL P k).getD j 0 : Nat) : Int) ∈ P := by
  have e : (npL P k).getD j 0 = (npL P k)[j] := by simp [List.getD_eq_getElem?_getD, h]
  rw [e]
  exact (mem_npL k).1 (List.getElem_mem h)
theorem kerL_rws (F : Fld O El) (hR : Rws El m R) (hP : Piv R P m) (hlen : R.length = P.length) : Rws El m (kerL O m R P m) := fun r hr => by
  obtain ⟨j, hj, rfl⟩ := List.mem_iff_getElem.1 hr
  have hj' : j < (npL P m).length := by rw [← kerL_len O m R P m]; exact hj
  rw [← nthR_getElem hj, kerL_at O m R P m hj']
  exact kerTo_vc F hR hP hlen (npL_at hj').1 P.length (Nat.le_refl _)
/-- the kernel's rows are orthogonal -/
theorem ker_orth (F : Fld O El) (hR : Rws El m R) (hP : Piv R P m) (hl : Lead R P) (hlen : R.length = P.length) : Orth O m R (kerL O m R P m) := fun i j hi hj => by
  rw [kerL_len] at hj
  rw [kerL_at O m R P m hj]
  obtain ⟨hc, hn⟩ := npL_at hj
  generalize (npL P m).getD j 0 = c at *
  have hb := hP.lt i (by omega)
  have hne : c ≠ (nth P i).toNat := fun e => hn (by
    have : nth P i ∈ P := nth_mem (by omega)
    rwa [show nth P i = (c : Int) by omega] at this)
  have hx : El (nth (nthR R i) c) := Vc.at (hR.row hi) hc
  have e1 : nth (kerTo O m R P c P.length) c = 1 := kerTo_self hP hc hn _ (Nat.le_refl _)
  have e2 : nth (kerTo O m R P c P.length) (nth P i).toNat = O.neg (nth (nthR R i) c) := kerTo_piv hP hl _ (Nat.le_refl _) (by omega)
  have e3 : nth (nthR R i) (nth P i).toNat = 1 := by rw [hP.one i i (by omega) hi, if_pos rfl]
  rw [dotN_two F hne (by rw [e1, F.mone hx]; exact hx) (by rw [e2, e3, F.one_mul _ (F.cl.neg _ hx)]; exact F.cl.neg _ hx) m fun p hp hpc hpi => ?_, if_pos hc, if_pos (by omega), e1, e2, e3, F.mone hx, F.one_mul _ (F.cl.neg _ hx), F.add_neg _ hx]
  show O.mul (nth (nthR R i) p) (nth (kerTo O m R P c P.length) p) = 0
  have hxp : El (nth (nthR R i) p) := Vc.at (hR.row hi) hp
  by_cases hpp : ∃ q, q < P.length ∧ (nth P q).toNat = p
  · obtain ⟨q, hq, rfl⟩ := hpp
    have hqi : i ≠ q := fun e => hpi (by rw [e])
    rw [hP.one q i hq hi, if_neg hqi, F.zmul ((kerTo_vc F hR hP hlen hc _ (Nat.le_refl _)).at hp)]
  · rw [kerTo_other hP hp hpc _ (Nat.le_refl _) fun q hq e => hpp ⟨q, hq, e⟩, F.mzero hxp]

/-- the columns that are no pivots are independent in the kernel -/
theorem ker_ind (F : Fld O El) (hP : Piv R P m) : ∀ k, k ≤ (npL P m).length → Rk (clV O El (kerL O m R P m).length (colS (kerL O m R P m))) (((npL P m).take k).reverse) k
  | 0, _ => .nil
  | k + 1, hk => by
    have ih := ker_ind F hP k (by omega)
    have hkl : k < (npL P m).length := by omega
    have hnd : ∀ K, (npL P K).Nodup := fun K => by
      induction K with
      | zero => exact List.nodup_nil
      | succ K ih =>
        rw [npL]
        split
        · exact ih
        · rw [List.nodup_append]
          refine ⟨ih, by simp, fun a ha b hb => ?_⟩
          rw [List.mem_singleton] at hb
          rw [hb]
          have := (mem_npL K).1 ha
          omega
    have etk : ((npL P m).take (k + 1)).reverse = (npL P m)[k] :: ((npL P m).take k).reverse := by rw [List.take_succ_eq_append_getElem hkl, List.reverse_append]; rfl
    rw [etk]
    refine .ind _ (fun hc => ?_) ih
    have hlk : k < (kerL O m R P m).length := by rw [kerL_len]; exact hkl
    have hat := npL_at (P := P) (k := m) hkl
    have eg : (npL P m).getD k 0 = (npL P m)[k] := by simp [List.getD_eq_getElem?_getD, hkl]
    rw [eg] at hat
    have h1 := hc (fun v => nth v k) (Lin.coord F hlk) fun y hy => by
      rw [List.mem_reverse] at hy
      show nth (colS _ y) k = 0
      rw [nth_colS _ y k hlk, kerL_at O m R P m hkl, eg]
      have hym := (mem_npL m).1 (List.mem_of_mem_take hy)
      have hyk : y ≠ (npL P m)[k] := fun e => by
        obtain ⟨q, hq, e2⟩ := List.mem_iff_getElem.1 hy
        rw [List.length_take] at hq
        rw [List.getElem_take] at e2
        have h3 := (List.getElem_inj (hnd m)).1 (e2.trans e)
        omega
      refine kerTo_other hP hym.1 hyk _ (Nat.le_refl _) fun q hq e => hym.2 ?_
      have h4 := hP.lt q hq
      have : nth P q ∈ P := nth_mem hq
      rwa [show nth P q = (y : Int) by omega] at this
    have h2 : nth (colS (kerL O m R P m) (npL P m)[k]) k = 0 := h1
    rw [nth_colS _ _ k hlk, kerL_at O m R P m hkl, eg, kerTo_self hP hat.1 hat.2 _ (Nat.le_refl _)] at h2
    exact absurd h2 (by decide)

theorem npL_count (P : List Int) (hP : ∀ j, j < P.length → 0 ≤ nth P j ∧ nth P j < m) (ha : ∀ i j, i < j → j < P.length → nth P i < nth P j) : (npL P m).length + P.length = m := by
  have key : ∀ k, k ≤ m → ∃ t, t ≤ P.length ∧ (npL P k).length + t = k ∧ (∀ j, j < t → nth P j < k) ∧ (∀ j, t ≤ j → j < P.length → (k : Int) ≤ nth P j) := by
    intro k
    induction k with
    | zero => intro _; exact ⟨0, Nat.zero_le _, rfl, fun j hj => by omega, fun j _ hj => (hP j hj).1⟩
    | succ k ih =>
      intro hk
      obtain ⟨t, h1, h2, h3, h4⟩ := ih (by omega)
      rw [npL]
      by_cases hm : (k : Int) ∈ P
      · rw [if_pos hm]
        obtain ⟨q, hq, e⟩ := List.mem_iff_getElem.1 hm
        rw [← nth_getElem hq] at e
        have hqt : q = t := by
          by_cases h5 : q < t
          · have := h3 q h5; omega
          · by_cases h6 : t < q
            · have h7 := ha t q h6 hq
              have h8 := h4 t (Nat.le_refl _) (by omega)
              omega
            · omega
        subst hqt
        refine ⟨q + 1, by omega, by omega, fun j hj => ?_, fun j h5 h6 => ?_⟩
        · by_cases e2 : j = q
          · subst e2; omega
          · have := h3 j (by omega); omega
        · have := ha q j (by omega) h6; omega
      · rw [if_neg hm, List.length_append, List.length_singleton]
        refine ⟨t, h1, by omega, fun j hj => by have := h3 j hj; omega, fun j h5 h6 => ?_⟩
        have h7 := h4 j h5 h6
        have h8 : nth P j ≠ k := fun e => hm (by rw [← e]; exact nth_mem h6)
        omega
  obtain ⟨t, h1, h2, h3, h4⟩ := key m (Nat.le_refl _)
  have : t = P.length := by
    apply Classical.byContradiction
    intro h
    have h5 := h4 t (Nat.le_refl _) (by omega)
    have h6 := hP t (by omega)
    omega
  omega

/-- the canonical kernel: its number of rows, and it is orthogonal -/
theorem ker_canon (F : Fld O El) (hR : Rws El m R) (hP : Piv R P m) (hl : Lead R P) (hlen : R.length = P.length) :
    R.length + (canO O m (kerL O m R P m)).length = m ∧ Orth O m R (canO O m (kerL O m R P m)) := by
  have hK := kerL_rws F hR hP hlen
  have hcnt := npL_count (m := m) P hP.lt hl.asc
  have hkl := kerL_len O m R P m
  obtain ⟨r1, r2⟩ := canO_rsub F hK
  have hO := ker_orth F hR hP hl hlen
  refine ⟨?_, fun i j hi hj => ?_⟩
  · have h1 := canO_rk F hK
    have h2 := ker_ind F hP (O := O) (El := El) (R := R) (npL P m).length (Nat.le_refl _)
    have hle := (elimTo_piv O (kerL O m R P m) m).2
    have hcl := canO_len F hK
    -- the rank of the kernel's rows is that of the canonical ones
    have h3 := Rk.map (cl' := clV O El (canO O m (kerL O m R P m)).length (colS (canO O m (kerL O m R P m)))) (fun y => y < m) id (fun l x hl hx => by rw [List.map_id]; exact ⟨r1.cl hl hx, r2.cl hl hx⟩) h2 (fun y hy => by
      rw [List.mem_reverse] at hy
      exact ((mem_npL m).1 (List.mem_of_mem_take hy)).1)
    have h4 := Rk.le (col_clo F (canO_rws F hK)) h3 h1 (fun x hx => (col_clo F (canO_rws F hK)).mem _ _ (by
      rw [List.map_id, List.mem_reverse] at hx
      exact List.mem_range.2 ((mem_npL m).1 (List.mem_of_mem_take hx)).1))
    omega
  · obtain ⟨e, he, he2⟩ := r1 j hj
    rw [dotN_congr (a' := fun p => nth (nthR R i) p) (b' := fun p => e (colS (kerL O m R P m) p)) m fun p hp => ⟨rfl, he2 p hp⟩]
    exact form_dot F hK he (fun p hp => Vc.at (hR.row hi) hp) fun q hq => hO i q hi hq
end
end

/- The walks of the reference of layer 4: Order, prime, digits, Is, In, Digits, Value. -/
section
open Go.RowKit

/-- the parameters of a field's description that is in range -/
structure RF (P : Int) (m : Nat) : Prop where
  p2 : 2 ≤ P
  p256 : P ≤ 256
  m1 : 1 ≤ m
  m8 : m ≤ 8
  pw : P ^ m ≤ 256
theorem RF.res {P : Int} {m : Nat} (h : RF P m) : Res P m := ⟨h.p2, h.m1⟩
theorem RF.order {P : Int} {m : Nat} (h : RF P m) : orderS P m = P ^ m := by
  have := h.p2; have := h.p256; have := h.m1; have := h.m8
  have e := orderS_in (p := P) (m := m) (by omega) (by simpa using h.pw)
  rwa [Int.toNat_natCast] at e
theorem RF.of {P M : Int} (h : orderS P M ≠ 0) : ∃ m : Nat, M = m ∧ RF P m := by
  obtain ⟨h1, h2, h3, h4, h5, h6⟩ := orderS_ne h
  exact ⟨M.toNat, by omega, ⟨h1, h2, by omega, by omega, h5⟩⟩
end

/- The walks of the reference of layer 4: Digits, Value, Add, Neg. -/
section
open Go.RowKit

def addD (P : Int) (a b : List Int) : List Int := List.zipWith (fun u v => (u + v) % P) a b
theorem valu_addD {P : Int} : ∀ (m : Nat) (x y : Int), valu P (addD P (digs x P m) (digs y P m)) = fsum P m x y
  | 0, _, _ => rfl
  | m + 1, x, y => by
    simp only [digs, addD, List.zipWith_cons_cons, valu, fsum]
    have := valu_addD (P := P) m (x / P) (y / P)
    unfold addD at this
    rw [this, Int.add_emod x y]
def negD (P : Int) (a : List Int) : List Int := a.map fun u => (P - u) % P
theorem valu_negD {P : Int} : ∀ (m : Nat) (x : Int), valu P (negD P (digs x P m)) = fneg P m x
  | 0, _ => rfl
  | m + 1, x => by
    simp only [digs, negD, List.map_cons, valu, fneg]
    have := valu_negD (P := P) m (x / P)
    unfold negD at this
    rw [this]
theorem Dig.zip {P : Int} (hP : 0 < P) (f : Int → Int → Int) (a b : List Int) : Dig P (List.zipWith (fun u v => (f u v) % P) a b) := by
  refine Dig.of_mem hP fun x hx => ?_
  rw [List.mem_iff_getElem] at hx
  obtain ⟨i, hi, rfl⟩ := hx
  rw [List.getElem_zipWith]
  exact ⟨Int.emod_nonneg _ (by omega), Int.emod_lt_of_pos _ hP⟩
theorem Dig.mapD {P : Int} (hP : 0 < P) (a : List Int) : Dig P (negD P a) := by
  refine Dig.of_mem hP fun x hx => ?_
  unfold negD at hx
  obtain ⟨y, _, rfl⟩ := List.mem_map.1 hx
  exact ⟨Int.emod_nonneg _ (by omega), Int.emod_lt_of_pos _ hP⟩
/-- the bounds that Value asks -/
theorem Dig.bds {P : Int} {m : Nat} (hf : RF P m) {l : List Int} (h : Dig P l) (hl : l.length = m) : ∀ k, 0 ≤ valu P (l.drop k) * P ∧ valu P (l.drop k) * P ≤ 1000000000 ∧ 0 ≤ nth l k ∧ nth l k ≤ 1000000000 := by
  intro k
  have hP : 0 < P := by have := hf.p2; omega
  have hP2 := hf.p256
  have h1 := h.tail_bd hP hl hf.pw k
  have h2 := h k
  have h3 := mul_bd h1.1 (show valu P (l.drop k) ≤ 256 by omega) (show 0 ≤ P by omega) hP2
  exact ⟨h3.1, by omega, h2.1, by omega⟩
end

/- The walks of the reference of layer 4: Add, Neg. -/
section
open Go.RowKit

theorem digs_b {P : Int} {m : Nat} (hf : RF P m) (x : Int) (i : Nat) : 0 ≤ nth (digs x P m) i ∧ nth (digs x P m) i < P := Dig.digs (by have := hf.p2; omega) m x i
end

/- The walk of the reference's product. -/
section
open Go.RowKit

/-- the product of the polynomials, not reduced: its rounds -/
def cvJ (P : Int) (a b : List Int) (i : Nat) (c : List Int) : Nat → List Int
  | 0 => c
  | j + 1 => (cvJ P a b i c j).set (i + j) ((nth (cvJ P a b i c j) (i + j) + nth a i * nth b j) % P)
def cvI (P : Int) (a b : List Int) (M n : Nat) : Nat → List Int
  | 0 => List.replicate n 0
  | i + 1 => cvJ P a b i (cvI P a b M n i) M
/-- the reduction, from the highest power on: its rounds -/
def rdJ (P : Int) (M : Nat) (mod : List Int) (i : Nat) (c : List Int) : Nat → List Int
  | 0 => c
  | j + 1 => (rdJ P M mod i c j).set (i - M + j) ((nth (rdJ P M mod i c j) (i - M + j) + (P - nth (rdJ P M mod i c j) i) * nth mod j) % P)
def rdT (P : Int) (M : Nat) (mod : List Int) (c : List Int) : Nat → List Int
  | 0 => c
  | k + 1 => rdJ P M mod (2 * M - 2 - k) (rdT P M mod c k) M
def mulL (P : Int) (M : Nat) (mod : List Int) (a b : List Int) : List Int := (rdT P M mod (cvI P a b M (2 * M - 1) M) (M - 1)).take M
def mulR (P : Int) (M : Nat) (mod : List Int) (x y : Int) : Int := valu P (mulL P M mod (digs x P M) (digs y P M))

theorem Dig.set {P : Int} {l : List Int} (h : Dig P l) (i : Nat) {x : Int} (h0 : 0 ≤ x) (h1 : x < P) : Dig P (l.set i x) := by
  intro j
  by_cases hi : i < l.length
  · rw [nth_set _ _ _ _ hi]
    split
    · exact ⟨h0, h1⟩
    · exact h j
  · rw [List.set_eq_of_length_le (by omega)]; exact h j
theorem Dig.setMod {P : Int} (hP : 0 < P) {l : List Int} (h : Dig P l) (i : Nat) (x : Int) : Dig P (l.set i (x % P)) := h.set i (Int.emod_nonneg _ (by omega)) (Int.emod_lt_of_pos _ hP)
theorem cvJ_len (P : Int) (a b : List Int) (i : Nat) (c : List Int) : ∀ j, (cvJ P a b i c j).length = c.length
  | 0 => rfl
  | j + 1 => by rw [cvJ, List.length_set, cvJ_len P a b i c j]
theorem cvJ_dig {P : Int} (hP : 0 < P) (a b : List Int) (i : Nat) {c : List Int} (h : Dig P c) : ∀ j, Dig P (cvJ P a b i c j)
  | 0 => h
  | j + 1 => Dig.setMod hP (cvJ_dig hP a b i h j) _ _
theorem cvI_len (P : Int) (a b : List Int) (M n : Nat) : ∀ i, (cvI P a b M n i).length = n
  | 0 => by simp [cvI]
  | i + 1 => by rw [cvI, cvJ_len, cvI_len P a b M n i]
theorem cvI_dig {P : Int} (hP : 0 < P) (a b : List Int) (M n : Nat) : ∀ i, Dig P (cvI P a b M n i)
  | 0 => Dig.replicate hP n
  | i + 1 => cvJ_dig hP a b i (cvI_dig hP a b M n i) M
theorem rdJ_len (P : Int) (M : Nat) (mod : List Int) (i : Nat) (c : List Int) : ∀ j, (rdJ P M mod i c j).length = c.length
  | 0 => rfl
  | j + 1 => by rw [rdJ, List.length_set, rdJ_len P M mod i c j]
theorem rdJ_dig {P : Int} (hP : 0 < P) (M : Nat) (mod : List Int) (i : Nat) {c : List Int} (h : Dig P c) : ∀ j, Dig P (rdJ P M mod i c j)
  | 0 => h
  | j + 1 => Dig.setMod hP (rdJ_dig hP M mod i h j) _ _
theorem rdT_len (P : Int) (M : Nat) (mod : List Int) (c : List Int) : ∀ k, (rdT P M mod c k).length = c.length
  | 0 => rfl
  | k + 1 => by rw [rdT, rdJ_len, rdT_len P M mod c k]
theorem rdT_dig {P : Int} (hP : 0 < P) (M : Nat) (mod : List Int) {c : List Int} (h : Dig P c) : ∀ k, Dig P (rdT P M mod c k)
  | 0 => h
  | k + 1 => rdJ_dig hP M mod _ (rdT_dig hP M mod h k) M
theorem Dig.take {P : Int} (hP : 0 < P) {l : List Int} (h : Dig P l) (k : Nat) : Dig P (l.take k) := by
  intro i
  have e : nth (l.take k) i = if i < k then nth l i else 0 := by
    simp only [nth, List.getD_eq_getElem?_getD, List.getElem?_take]; split <;> rfl
  rw [e]; split
  · exact h i
  · omega
theorem mulL_len (P : Int) {M : Nat} (mod : List Int) (a b : List Int) (hM : 1 ≤ M) : (mulL P M mod a b).length = M := by
  unfold mulL; rw [List.length_take, rdT_len, cvI_len]; omega
theorem mulL_dig {P : Int} (hP : 0 < P) (M : Nat) (mod : List Int) (a b : List Int) : Dig P (mulL P M mod a b) := Dig.take hP (rdT_dig hP M mod (cvI_dig hP a b M _ M) _) M

/-- what the product asks of the low coefficients -/
structure Mods (w : World) (P : Int) (m : Nat) (am : Option Addr) (mn : Nat) (mod : List Int) : Prop where
  ints : Ints w am mn mod
  low : 1 < m → mn = m
  dig : Dig P mod
theorem Mods.keep {w w' : World} {P : Int} {m : Nat} {am : Option Addr} {mn : Nat} {mod : List Int} (h : Mods w P m am mn mod) (hb : Below w.heap.size w w') : Mods w' P m am mn mod := ⟨h.ints.keep hb, h.low, h.dig⟩

theorem nth_take {l : List Int} {k i : Nat} (h : i < k) : nth (l.take k) i = nth l i := by
  simp only [nth, List.getD_eq_getElem?_getD, List.getElem?_take, if_pos h]
theorem Ints.take {w : World} {a : Option Addr} {n : Nat} {l : List Int} (h : Ints w a n l) {k : Nat} (hk : k ≤ n) : Ints w a k (l.take k) :=
  ⟨by rw [List.length_take, h.len]; omega, fun h0 => h.pl (by omega), Nat.le_trans hk h.max, fun i hi => by rw [nth_take hi]; exact h.cell i (by omega)⟩
end

/- The walks of the reference of layer 4: divides, irreducible. -/
section
open Go.RowKit

/-- what divides computes: its rounds -/
def dvJ (P : Int) (low : List Int) (v : Nat) (c : Int) (r : List Int) : Nat → List Int
  | 0 => r
  | j + 1 => (dvJ P low v c r j).set (v + j) ((nth (dvJ P low v c r j) (v + j) + (P - c) * nth low j) % P)
def dvT (P : Int) (low : List Int) (n : Nat) (r : List Int) : Nat → List Int
  | 0 => r
  | k + 1 => (dvJ P low (n - 1 - k - low.length) (nth (dvT P low n r k) (n - 1 - k)) (dvT P low n r k) low.length).set (n - 1 - k) 0
def dvB (P : Int) (low mod : List Int) : Bool := (dvT P low (mod.length + 1) (mod ++ [1]) (mod.length + 1 - low.length)).all fun x => x == 0

theorem dvJ_len (P : Int) (low : List Int) (v : Nat) (c : Int) (r : List Int) : ∀ j, (dvJ P low v c r j).length = r.length
  | 0 => rfl
  | j + 1 => by rw [dvJ, List.length_set, dvJ_len P low v c r j]
theorem dvT_len (P : Int) (low : List Int) (n : Nat) (r : List Int) : ∀ k, (dvT P low n r k).length = r.length
  | 0 => rfl
  | k + 1 => by rw [dvT, List.length_set, dvJ_len, dvT_len P low n r k]
theorem dvJ_dig {P : Int} (hP : 0 < P) (low : List Int) (v : Nat) (c : Int) {r : List Int} (h : Dig P r) : ∀ j, Dig P (dvJ P low v c r j)
  | 0 => h
  | j + 1 => Dig.setMod hP (dvJ_dig hP low v c h j) _ _
theorem dvT_dig {P : Int} (hP : 0 < P) (low : List Int) (n : Nat) {r : List Int} (h : Dig P r) : ∀ k, Dig P (dvT P low n r k)
  | 0 => h
  | k + 1 => Dig.set (dvJ_dig hP low _ _ (dvT_dig hP low n h k) _) _ (by omega) hP
theorem Dig.snoc {P : Int} {l : List Int} (h : Dig P l) {x : Int} (h0 : 0 ≤ x) (h1 : x < P) : Dig P (l ++ [x]) := by
  intro i
  by_cases hi : i < l.length
  · have e : nth (l ++ [x]) i = nth l i := by simp only [nth, List.getD_eq_getElem?_getD]; rw [List.getElem?_append_left hi]
    rw [e]; exact h i
  · by_cases hj : i = l.length
    · subst hj
      have e : nth (l ++ [x]) l.length = x := by simp [nth]
      rw [e]; exact ⟨h0, h1⟩
    · rw [nth_out (by simp; omega)]; omega

/-- no monic polynomial of a degree from 1 to half of its own divides the one with the low coefficients mod -/
def irD (P : Int) (mod : List Int) (d q : Nat) : Bool := (List.range q).all fun v => !dvB P (digs v P d) mod
def irTo (P : Int) (mod : List Int) (k : Nat) : Bool := (List.range k).all fun d => irD P mod (d + 1) (P ^ (d + 1)).toNat
def irrB (P : Int) (mod : List Int) : Bool := irTo P mod (mod.length / 2)

theorem range_all_succ {p : Nat → Bool} {k : Nat} (h : (List.range k).all p = true) (hk : p k = true) : (List.range (k + 1)).all p = true := by
  rw [List.range_succ, List.all_append, h]; simp [hk]
theorem range_all_no {p : Nat → Bool} {k n : Nat} (hk : k < n) (h : p k = false) : (List.range n).all p = false := by
  rw [List.all_eq_false]; exact ⟨k, List.mem_range.2 hk, by simp [h]⟩
end

end Go.Proofs.Ytapjcccpokhhhaa
