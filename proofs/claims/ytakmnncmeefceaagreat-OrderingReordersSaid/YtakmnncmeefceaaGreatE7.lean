/- The dual code is a code; its dimensions. -/
import Derived.Test.YtakmnncmeefceaaGreatE1
namespace Go.Proofs.YtakmnncmeefceaaGreat
set_option linter.unusedVariables false
set_option linter.unusedSimpArgs false
set_option linter.unusedSectionVars false

/- Ranks of a code and of the code that is orthogonal to it. -/
section
section
variable {O : FOps} {El : Int → Prop} {m n : Nat}

/-- the sum of the products -/
def dotN (O : FOps) (a b : Nat → Int) : Nat → Int
  | 0 => 0
  | t + 1 => O.add (dotN O a b t) (O.mul (a t) (b t))
theorem dotN_el (F : Fld O El) {a b : Nat → Int} : ∀ t, (∀ p, p < t → El (a p)) → (∀ p, p < t → El (b p)) → El (dotN O a b t)
  | 0, _, _ => F.zero
  | t + 1, ha, hb => F.cl.add _ _ (dotN_el F t (fun p hp => ha p (by omega)) fun p hp => hb p (by omega)) (F.cl.mul _ _ (ha t (by omega)) (hb t (by omega)))
theorem dotN_comm (F : Fld O El) {a b : Nat → Int} : ∀ t, (∀ p, p < t → El (a p)) → (∀ p, p < t → El (b p)) → dotN O a b t = dotN O b a t
  | 0, _, _ => rfl
  | t + 1, ha, hb => by
    rw [dotN, dotN, dotN_comm F t (fun p hp => ha p (by omega)) fun p hp => hb p (by omega), F.mul_comm _ _ (ha t (by omega)) (hb t (by omega))]
theorem dotN_congr {a b a' b' : Nat → Int} : ∀ t, (∀ p, p < t → a p = a' p ∧ b p = b' p) → dotN O a b t = dotN O a' b' t
  | 0, _ => rfl
  | t + 1, h => by rw [dotN, dotN, dotN_congr t fun p hp => h p (by omega), (h t (by omega)).1, (h t (by omega)).2]
theorem dotN_zero (F : Fld O El) {a b : Nat → Int} : ∀ t, (∀ p, p < t → O.mul (a p) (b p) = 0) → dotN O a b t = 0
  | 0, _ => rfl
  | t + 1, h => by rw [dotN, dotN_zero F t fun p hp => h p (by omega), h t (by omega), F.add_zero 0 F.zero]
theorem dotN_one (F : Fld O El) {a b : Nat → Int} {x : Nat} (hx : El (O.mul (a x) (b x))) : ∀ t, (∀ p, p < t → p ≠ x → O.mul (a p) (b p) = 0) → dotN O a b t = if x < t then O.mul (a x) (b x) else 0
  | 0, _ => rfl
  | t + 1, h => by
    rw [dotN, dotN_one F hx t fun p hp => h p (by omega)]
    by_cases e : t = x
    · subst e
      rw [if_neg (by omega), if_pos (by omega), F.zadd hx]
    · rw [h t (by omega) e]
      by_cases e2 : x < t
      · rw [if_pos e2, if_pos (by omega), F.add_zero _ hx]
      · rw [if_neg e2, if_neg (by omega), F.add_zero 0 F.zero]
theorem dotN_two (F : Fld O El) {a b : Nat → Int} {x y : Nat} (hxy : x ≠ y) (hx : El (O.mul (a x) (b x))) (hy : El (O.mul (a y) (b y))) : ∀ t, (∀ p, p < t → p ≠ x → p ≠ y → O.mul (a p) (b p) = 0) →
    dotN O a b t = O.add (if x < t then O.mul (a x) (b x) else 0) (if y < t then O.mul (a y) (b y) else 0)
  | 0, _ => by rw [if_neg (by omega), if_neg (by omega)]; exact (F.add_zero 0 F.zero).symm
  | t + 1, h => by
    rw [dotN, dotN_two F hxy hx hy t fun p hp => h p (by omega)]
    by_cases e : t = x
    · subst e
      rw [if_neg (Nat.lt_irrefl t), if_pos (Nat.lt_succ_self t)]
      by_cases e2 : y < t
      · rw [if_pos e2, if_pos (show y < t + 1 by omega), F.zadd hy, F.add_comm _ _ hy hx]
      · rw [if_neg e2, if_neg (show ¬ y < t + 1 by omega), F.zadd F.zero, F.zadd hx, F.add_zero _ hx]
    · by_cases e1 : t = y
      · subst e1
        by_cases e2 : x < t
        · rw [if_pos e2, if_neg (by omega), if_pos (by omega), if_pos (by omega), F.add_zero _ hx]
        · rw [if_neg e2, if_neg (by omega), if_neg (by omega), if_pos (by omega), F.add_zero 0 F.zero]
      · rw [h t (by omega) e e1]
        by_cases e2 : x < t
        · by_cases e3 : y < t
          · rw [if_pos e2, if_pos e3, if_pos (by omega), if_pos (by omega), F.add_zero _ (F.cl.add _ _ hx hy)]
          · rw [if_pos e2, if_neg e3, if_pos (by omega), if_neg (by omega), F.add_zero _ (F.cl.add _ _ hx F.zero)]
        · by_cases e3 : y < t
          · rw [if_neg e2, if_pos e3, if_neg (by omega), if_pos (by omega), F.add_zero _ (F.cl.add _ _ F.zero hy)]
          · rw [if_neg e2, if_neg e3, if_neg (by omega), if_neg (by omega), F.add_zero _ (F.cl.add _ _ F.zero F.zero)]

/-- the sum of the columns with the weights r -/
def colN (O : FOps) (r : Nat → Int) (K : List (List Int)) : Nat → List Int
  | 0 => List.replicate K.length 0
  | t + 1 => subRow O (colN O r K t) (O.neg (r t)) (colS K t)
theorem colN_vc (F : Fld O El) {r : Nat → Int} {K : List (List Int)} (hK : Rws El m K) : ∀ t, (∀ p, p < t → El (r p)) → Vc El K.length (colN O r K t)
  | 0, _ => ⟨by simp [colN], fun y hy => by
    have := List.eq_of_mem_replicate hy
    rw [this]; exact F.zero⟩
  | t + 1, hr => (colN_vc F hK t fun p hp => hr p (by omega)).sub F (colS_vc hK F.zero t) (F.cl.neg _ (hr t (by omega)))
theorem colN_at (F : Fld O El) {r : Nat → Int} {K : List (List Int)} (hK : Rws El m K) {j : Nat} (hj : j < K.length) : ∀ t, t ≤ m → (∀ p, p < t → El (r p)) → nth (colN O r K t) j = dotN O r (fun p => nth (nthR K j) p) t
  | 0, _, _ => by simp [colN, dotN, nth, List.getD_eq_getElem?_getD, List.getElem?_replicate, hj]
  | t + 1, ht, hr => by
    have hv := colN_vc F hK t fun p hp => hr p (by omega)
    have hc := colS_vc hK F.zero t
    have hrt := hr t (by omega)
    have hx : El (nth (nthR K j) t) := Vc.at (hK.row hj) (by omega)
    rw [colN, nth_subRow O _ _ _ j (by rw [hc.1, hv.1]) (by rw [hv.1]; exact hj), colN_at F hK hj t (by omega) fun p hp => hr p (by omega), nth_colS K t j hj, F.neg_mul hrt hx, F.neg_neg (F.cl.mul _ _ hrt hx)]
    rfl
theorem colN_form (F : Fld O El) {r : Nat → Int} {K : List (List Int)} (hK : Rws El m K) {φ : List Int → Int} (hφ : Lin O El K.length φ) : ∀ t, (∀ p, p < t → El (r p)) → φ (colN O r K t) = dotN O r (fun p => φ (colS K p)) t
  | 0, _ => hφ.zero F (colN_vc F hK 0 fun p hp => by omega) fun i hi => by simp [colN, nth, List.getD_eq_getElem?_getD, List.getElem?_replicate, hi]
  | t + 1, hr => by
    have hv := colN_vc F hK t fun p hp => hr p (by omega)
    have hc := colS_vc hK F.zero t
    have hrt := hr t (by omega)
    have hx := hφ.el _ hc
    rw [colN, hφ.sub _ _ _ hv hc (F.cl.neg _ hrt), colN_form F hK hφ t fun p hp => hr p (by omega), F.neg_mul hrt hx, F.neg_neg (F.cl.mul _ _ hrt hx)]
    rfl
theorem form_dot (F : Fld O El) {r : Nat → Int} {K : List (List Int)} (hK : Rws El m K) {φ : List Int → Int} (hφ : Lin O El K.length φ) (hr : ∀ p, p < m → El (r p)) (h : ∀ j, j < K.length → dotN O r (fun p => nth (nthR K j) p) m = 0) :
    dotN O r (fun p => φ (colS K p)) m = 0 := by
  rw [← colN_form F hK hφ m hr]
  exact hφ.zero F (colN_vc F hK m hr) fun i hi => by rw [colN_at F hK hi m (Nat.le_refl _) hr]; exact h i hi

/-- the rows of the one are orthogonal to those of the other -/
def Orth (O : FOps) (m : Nat) (G K : List (List Int)) : Prop := ∀ i j, i < G.length → j < K.length → dotN O (fun p => nth (nthR G i) p) (fun p => nth (nthR K j) p) m = 0
variable {G K : List (List Int)}
theorem Orth.symm (F : Fld O El) (hG : Rws El m G) (hK : Rws El m K) (h : Orth O m G K) : Orth O m K G := fun i j hi hj => by
  rw [dotN_comm F m (fun p hp => Vc.at (hK.row hi) hp) fun p hp => Vc.at (hG.row hj) hp]
  exact h j i hj hi
theorem Orth.forms (F : Fld O El) (hG : Rws El m G) (hK : Rws El m K) (h : Orth O m G K) {φ ψ : List Int → Int} (hφ : Lin O El K.length φ) (hψ : Lin O El G.length ψ) :
    dotN O (fun p => φ (colS K p)) (fun p => ψ (colS G p)) m = 0 := by
  have hcφ : ∀ p, p < m → El (φ (colS K p)) := fun p _ => hφ.el _ (colS_vc hK F.zero p)
  refine form_dot F hG hψ hcφ fun i hi => ?_
  rw [dotN_comm F m hcφ fun p hp => Vc.at (hG.row hi) hp]
  exact form_dot F hK hφ (fun p hp => Vc.at (hG.row hi) hp) fun j hj => h i j hi hj
/-- what is not in the closure of the ones is in that of the others -/
theorem Orth.cl (F : Fld O El) (hG : Rws El m G) (hK : Rws El m K) (h : Orth O m G K) {A B : List Nat} {x : Nat} (hx : x < m) (hAB : ∀ p, p < m → p ≠ x → p ∈ A ∨ p ∈ B) (hn : ¬ clV O El G.length (colS G) A x) :
    clV O El K.length (colS K) B x := by
  intro φ hφ h0
  apply Classical.byContradiction
  intro hne
  apply hn
  intro ψ hψ hA
  have hd := h.forms F hG hK hφ hψ
  have e1 := hφ.el _ (colS_vc hK F.zero x)
  have e2 := hψ.el _ (colS_vc hG F.zero x)
  rw [dotN_one F (x := x) (F.cl.mul _ _ e1 e2) m fun p hp hpx => ?_, if_pos hx] at hd
  · exact F.mul_ne e1 e2 hne hd
  · rcases hAB p hp hpx with h1 | h1
    · show O.mul (φ (colS K p)) (ψ (colS G p)) = 0
      rw [hA p h1, F.mzero (hφ.el _ (colS_vc hK F.zero p))]
    · show O.mul (φ (colS K p)) (ψ (colS G p)) = 0
      rw [h0 p h1, F.zmul (hψ.el _ (colS_vc hG F.zero p))]

theorem rk_step {cl : List Nat → Nat → Prop} {l : List Nat} {x n n' : Nat} (h : Rk cl l n) (h' : Rk cl (x :: l) n') : n' ≤ n + 1 ∧ (cl l x → n' = n) := by
  cases h' with
  | dep _ hx h2 => exact ⟨by rw [h.uniq h2]; omega, fun _ => (h.uniq h2).symm⟩
  | ind _ hx h2 => exact ⟨by rw [h.uniq h2]; omega, fun hc => absurd hc hx⟩
/-- each position counts for at most one of the two -/
theorem dual_count {cl cl' : List Nat → Nat → Prop} {m : Nat} (h : ∀ A B x, x < m → (∀ p, p < m → p ≠ x → p ∈ A ∨ p ∈ B) → ¬ cl A x → cl' B x) :
    ∀ (l acc : List Nat) {a b c : Nat}, (∀ x ∈ l, x < m) → (∀ p, p < m → p ∈ l ∨ p ∈ acc) → Rk cl l a → Rk cl' acc b → Rk cl' (l.reverse ++ acc) c → a + c ≤ l.length + b
  | [], acc, a, b, c, _, _, ha, hb, hc => by
    cases ha
    have e : c = b := Rk.uniq hc hb
    simp; omega
  | x :: l, acc, a, b, c, hl, hp, ha, hb, hc => by
    have hx := hl x (by simp)
    obtain ⟨b', hb'⟩ := Rk.ex cl' (x :: acc)
    have hst := rk_step hb hb'
    have hc' : Rk cl' (l.reverse ++ (x :: acc)) c := by simpa using hc
    have hp' : ∀ p, p < m → p ∈ l ∨ p ∈ x :: acc := fun p hpm => by
      rcases hp p hpm with h1 | h1
      · rcases List.mem_cons.1 h1 with rfl | h1
        · exact .inr (by simp)
        · exact .inl h1
      · exact .inr (List.mem_cons.2 (.inr h1))
    cases ha with
    | dep _ hcl ha' =>
      have ih := dual_count h l (x :: acc) (fun y hy => hl y (List.mem_cons.2 (.inr hy))) hp' ha' hb' hc'
      simp only [List.length_cons]; omega
    | ind _ hcl ha' =>
      have ih := dual_count h l (x :: acc) (fun y hy => hl y (List.mem_cons.2 (.inr hy))) hp' ha' hb' hc'
      have := hst.2 (h l acc x hx (fun p hpm hpx => by
        rcases hp p hpm with h1 | h1
        · rcases List.mem_cons.1 h1 with h2 | h1
          · exact absurd h2 hpx
          · exact .inl h1
        · exact .inr h1) hcl)
      simp only [List.length_cons]; omega

/-- the ranks of a set in the one and of its complement in the other -/
theorem dual_rk (F : Fld O El) (hG : Rws El m G) (hK : Rws El m K) (h : Orth O m G K) (hkm : G.length + K.length = m)
    (hg : Rk (clV O El G.length (colS G)) (List.range m) G.length) (hk : Rk (clV O El K.length (colS K)) (List.range m) K.length)
    {S C : List Nat} (hS : ∀ x ∈ S, x < m) (hC : ∀ x ∈ C, x < m) (hSC : ∀ p, p < m → p ∈ S ∨ p ∈ C) (hlen : S.length + C.length = m) {a b : Nat} (ha : Rk (clV O El G.length (colS G)) C a) (hb : Rk (clV O El K.length (colS K)) S b) :
    (b : Int) = S.length - G.length + a := by
  have cG := col_clo F hG
  have cK := col_clo F hK
  have all : ∀ {cl : List Nat → Nat → Prop} (hc : Clo cl) {r : Nat} (_ : Rk cl (List.range m) r) (l acc : List Nat), (∀ x ∈ l, x < m) → (∀ x ∈ acc, x < m) → (∀ p, p < m → p ∈ l ∨ p ∈ acc) → Rk cl (l.reverse ++ acc) r := fun hc r hr l acc h1 h2 h3 => by
    obtain ⟨r', hr'⟩ := Rk.ex _ (l.reverse ++ acc)
    have e := Rk.same hc hr hr' fun x => by
      rw [List.mem_range, List.mem_append, List.mem_reverse]
      exact ⟨fun hx => h3 x hx, fun hx => by rcases hx with hx | hx; exact h1 x hx; exact h2 x hx⟩
    rw [e]; exact hr'
  have i1 := dual_count (m := m) (fun A B x hx hAB hn => h.cl F hG hK hx hAB hn) C S hC (fun p hp => (hSC p hp).symm) ha hb (all cK hk C S hC hS fun p hp => (hSC p hp).symm)
  have i2 := dual_count (m := m) (fun A B x hx hAB hn => (h.symm F hG hK).cl F hK hG hx hAB hn) S C hS hSC hb ha (all cG hg S C hS hC hSC)
  omega
end
end

/- The kernel of a canonical matrix; canonical matrices are fixed. -/
section
section
variable {O : FOps} {El : Int → Prop} {m n : Nat}

/-- the rows are 0 ahead of their pivots, which ascend -/
structure Lead (L : List (List Int)) (P : List Int) : Prop where
  lead : ∀ i x, i < P.length → x < (nth P i).toNat → nth (nthR L i) x = 0
  asc : ∀ i j, i < j → j < P.length → nth P i < nth P j
theorem elim_lead (F : Fld O El) {L : List (List Int)} (hL : Rws El m L) : ∀ k, k ≤ m → Lead (elimTo O L k).1 (elimTo O L k).2
  | 0, _ => ⟨fun i x hi => by simp [elimTo] at hi, fun i j _ hj => by simp [elimTo] at hj⟩
  | k + 1, hk => by
    have ih := elim_lead F hL k (by omega)
    obtain ⟨h1, _, _⟩ := elim_inv F hL k (by omega)
    have hR := elim_rws F hL k (by omega)
    have hb := findRow_bd (L := (elimTo O L k).1) (c := k) (k := (elimTo O L k).2.length) h1.le
    by_cases hlt : (elimTo O L k).2.length < (elimTo O L k).1.length
    · rw [elimTo_next (Lk := (elimTo O L k).1) (P := (elimTo O L k).2) rfl hlt]
      split
      · exact ih
      · rename_i hf
        have hfl : findRow (elimTo O L k).1 k (elimTo O L k).2.length < (elimTo O L k).1.length := by omega
        have hne : nth (nthR (elimTo O L k).1 (findRow (elimTo O L k).1 k (elimTo O L k).2.length)) k ≠ 0 := findTo_stop _ k _ _ (by show findRow _ k _ < _; omega)
        generalize findRow (elimTo O L k).1 k (elimTo O L k).2.length = r at *
        generalize (elimTo O L k).1 = A at *
        generalize (elimTo O L k).2 = P at *
        have hp : El (nth (nthR A r) k) := Vc.at (hR.row hfl) (by omega)
        have hpi := F.cl.inv _ hp hne
        refine ⟨fun i x hi hx => ?_, fun i j hij hj => ?_⟩
        · rw [List.length_append, List.length_singleton] at hi
          have hx' : x < m := by
            rw [nth_push] at hx
            by_cases e : i < P.length
            · rw [if_pos e] at hx; have := h1.lt i e; omega
            · rw [if_neg e, if_pos (by omega)] at hx; omega
          rw [nth_pivotS F hR hlt hfl (by omega) hne (i := i) (by omega) hx']
          rw [nth_push] at hx
          by_cases e : i < P.length
          · rw [if_pos e] at hx
            have h2 := h1.lt i e
            rw [if_neg (by omega), show sw P.length r i = i by unfold sw; rw [if_neg (by omega), if_neg (by omega)], h1.zero r x hb.1 hfl (by omega), F.mzero hpi, F.zmul (Vc.at (hR.row (by omega)) (by omega)), F.nzero, F.add_zero _ (Vc.at (hR.row (by omega)) hx')]
            exact ih.lead i x e hx
          · rw [if_neg e, if_pos (by omega)] at hx
            rw [if_pos (by omega), h1.zero r x hb.1 hfl (by omega), F.mzero hpi]
        · rw [List.length_append, List.length_singleton] at hj
          rw [nth_push, nth_push, if_pos (by omega)]
          by_cases e : j < P.length
          · rw [if_pos e]; exact ih.asc i j hij e
          · rw [if_neg e, if_pos (by omega)]
            have := h1.lt i (by omega)
            omega
    · have hfull : (elimTo O L k).2.length = L.length := by have := elimTo_length O L k; have := h1.le; omega
      rw [elimTo_full hfull 1]
      exact ih

theorem inv_one (F : Fld O El) : O.inv 1 = 1 := by
  have h := F.mul_inv 1 F.one (by decide)
  rwa [F.one_mul _ (F.cl.inv 1 F.one (by decide))] at h
theorem clearTo_id (O : FOps) {R : List (List Int)} {t c : Nat} (h : ∀ i, i < R.length → i ≠ t → nth (nthR R i) c = 0) : ∀ i, i ≤ R.length → clearTo O t c R i = R
  | 0, _ => rfl
  | i + 1, hi => by
    unfold clearTo
    rw [clearTo_id O h i (by omega)]
    split
    · rfl
    · rename_i e
      unfold clearRow
      rw [if_pos (h i (by omega) e), set_nthR]
/-- a canonical matrix stays -/
theorem elim_fix (F : Fld O El) {R : List (List Int)} {P : List Int} (hP : Piv R P m) (hl : Lead R P) (hlen : R.length = P.length) : ∀ k, k ≤ m →
    ∃ t, t ≤ P.length ∧ elimTo O R k = (R, P.take t) ∧ (∀ j, j < t → nth P j < k) ∧ (∀ j, t ≤ j → j < P.length → (k : Int) ≤ nth P j)
  | 0, _ => ⟨0, Nat.zero_le _, by simp [elimTo], fun j hj => by omega, fun j _ hj => (hP.lt j hj).1⟩
  | k + 1, hk => by
    obtain ⟨t, ht, he, h1, h2⟩ := elim_fix F hP hl hlen k (by omega)
    have htl : (P.take t).length = t := by rw [List.length_take]; omega
    by_cases htt : t = P.length
    · refine ⟨t, ht, ?_, fun j hj => by have := h1 j hj; omega, fun j h3 h4 => by omega⟩
      have hfull : (elimTo O R k).2.length = R.length := by rw [he]; show (P.take t).length = _; omega
      rw [elimTo_full hfull 1, he]
    · have htR : t < R.length := by omega
      rw [elimTo_next (Lk := R) (P := P.take t) he.symm (by rw [htl]; exact htR), htl]
      by_cases hpk : nth P t = k
      · have h11 := hP.one t t (by omega) htR
        rw [hpk, if_pos rfl, Int.toNat_natCast] at h11
        have hf : findRow R k t = t := by rw [findRow_step htR, if_neg (by rw [h11]; decide)]
        rw [hf, if_neg (by omega)]
        have hpv : pivotS O R t t k = R := by
          rw [pivotS_eq, if_pos rfl]
          have hn : normRow O R t k = R := by unfold normRow; rw [h11, if_pos (inv_one F)]
          rw [hn]
          refine clearTo_id O (fun i hi hit => ?_) _ (Nat.le_refl _)
          have := hP.one t i (by omega) hi
          rw [hpk, if_neg hit, Int.toNat_natCast] at this
          exact this
        rw [hpv]
        refine ⟨t + 1, by omega, ?_, fun j hj => ?_, fun j h3 h4 => ?_⟩
        · rw [List.take_succ_eq_append_getElem (by omega), ← nth_getElem, hpk]
        · by_cases e : j = t
          · subst e; omega
          · have := h1 j (by omega); omega
        · have := hl.asc t j (by omega) h4
          omega
      · have hgt : (k : Int) < nth P t := by have := h2 t (Nat.le_refl _) (by omega); omega
        have hz : ∀ i, t ≤ i → i < R.length → nth (nthR R i) k = 0 := fun i h3 h4 => by
          refine hl.lead i k (by omega) ?_
          by_cases e : i = t
          · subst e; omega
          · have := hl.asc t i (by omega) (by omega); omega
        have hf : ∀ d i, d = R.length - i → t ≤ i → i ≤ R.length → findRow R k i = R.length := by
          intro d
          induction d with
          | zero => intro i h3 _ h5; rw [findRow_end (by omega)]; omega
          | succ d ih =>
            intro i h3 h4 h5
            rw [findRow_step (by omega), if_pos (hz i h4 (by omega))]
            exact ih (i + 1) (by omega) (by omega) (by omega)
        rw [hf _ t rfl (Nat.le_refl _) (by omega), if_pos rfl]
        refine ⟨t, ht, rfl, fun j hj => by have := h1 j hj; omega, fun j h3 h4 => ?_⟩
        by_cases e : j = t
        · subst e; omega
        · have := hl.asc t j (by omega) h4; omega
theorem elim_fixed (F : Fld O El) {R : List (List Int)} {P : List Int} (hP : Piv R P m) (hl : Lead R P) (hlen : R.length = P.length) : elimTo O R m = (R, P) := by
  obtain ⟨t, ht, he, h1, h2⟩ := elim_fix F hP hl hlen m (Nat.le_refl _)
  have : t = P.length := by
    apply Classical.byContradiction
    intro h
    have h3 := h2 t (Nat.le_refl _) (by omega)
    have h4 := hP.lt t (by omega)
    omega
  rw [he, this, List.take_length]

/-- the canonical rows of L -/
def canO (O : FOps) (m : Nat) (L : List (List Int)) : List (List Int) := (elimTo O L m).1.take (elimTo O L m).2.length
theorem nthR_takeK {L : List (List Int)} {t i : Nat} (h : i < t) : nthR (L.take t) i = nthR L i := by
  unfold nthR
  simp only [List.getD_eq_getElem?_getD, List.getElem?_take]
  rw [if_pos h]
theorem canO_len (F : Fld O El) {L : List (List Int)} (hL : Rws El m L) : (canO O m L).length = (elimTo O L m).2.length := by
  have h1 := (elim_inv F hL m (Nat.le_refl _)).1.le
  unfold canO
  rw [List.length_take]; omega
theorem canO_rws (F : Fld O El) {L : List (List Int)} (hL : Rws El m L) : Rws El m (canO O m L) := fun r hr => elim_rws F hL m (Nat.le_refl _) r (List.mem_of_mem_take hr)
theorem canO_piv (F : Fld O El) {L : List (List Int)} (hL : Rws El m L) : Piv (canO O m L) (elimTo O L m).2 m ∧ Lead (canO O m L) (elimTo O L m).2 := by
  have h1 := (elim_inv F hL m (Nat.le_refl _)).1
  have h2 := elim_lead F hL m (Nat.le_refl _)
  have hl := canO_len F hL
  refine ⟨⟨by omega, h1.lt, fun j i hj hi => ?_, fun i x hi1 hi2 _ => by omega⟩, ⟨fun i x hi hx => ?_, h2.asc⟩⟩
  · unfold canO
    rw [nthR_takeK (by omega)]
    exact h1.one j i hj (by have := h1.le; omega)
  · unfold canO
    rw [nthR_takeK hi]
    exact h2.lead i x hi hx
theorem canO_idem (F : Fld O El) {L : List (List Int)} (hL : Rws El m L) : canO O m (canO O m L) = canO O m L := by
  obtain ⟨h1, h2⟩ := canO_piv F hL
  have hl := canO_len F hL
  have h3 := elim_fixed F h1 h2 hl
  have e : canO O m (canO O m L) = (canO O m L).take (elimTo O L m).2.length := by
    show (elimTo O (canO O m L) m).1.take (elimTo O (canO O m L) m).2.length = _
    rw [h3]
  rw [e, List.take_of_length_le (by omega)]
theorem RS.nul (F : Fld O El) {L : List (List Int)} {f : Nat → Int} (h : ∀ x, x < m → f x = 0) : RS O El m L f := by
  refine ⟨fun _ => 0, ⟨fun _ _ => F.zero, fun v r x hv hr hx => ?_, fun r x hr hx => (F.mzero hx).symm⟩, fun x hx => h x hx⟩
  show (0 : Int) = O.add 0 (O.neg (O.mul x 0))
  rw [F.mzero hx, F.nzero, F.add_zero 0 F.zero]
theorem canO_rsub (F : Fld O El) {L : List (List Int)} (hL : Rws El m L) : RSub O El m (canO O m L) L ∧ RSub O El m L (canO O m L) := by
  obtain ⟨h1, h2, h3⟩ := elim_inv F hL m (Nat.le_refl _)
  have hl := canO_len F hL
  refine ⟨fun i hi => ?_, h3.trans fun i hi => ?_⟩
  · have e : nthR (canO O m L) i = nthR (elimTo O L m).1 i := by unfold canO; exact nthR_takeK (by omega)
    rw [e]; exact h2 i (by have := h1.le; omega)
  · by_cases e : i < (elimTo O L m).2.length
    · have e2 : nthR (elimTo O L m).1 i = nthR (canO O m L) i := by unfold canO; exact (nthR_takeK e).symm
      rw [e2]; exact RS.row F (by omega)
    · exact RS.nul F fun x hx => h1.zero i x (by omega) hi hx
/-- the number of the canonical rows is the rank of their columns -/
theorem canO_rk (F : Fld O El) {L : List (List Int)} (hL : Rws El m L) : Rk (clV O El (canO O m L).length (colS (canO O m L))) (List.range m) (canO O m L).length := by
  have h := piv_rk F (canO_rws F hL)
  obtain ⟨h1, h2⟩ := canO_piv F hL
  rw [elim_fixed F h1 h2 (canO_len F hL)] at h
  rw [canO_len F hL]
  rw [canO_len F hL] at h
  exact h

/-- the row of the kernel for the column c: behind i pivots -/
def kerTo (O : FOps) (m : Nat) (R : List (List Int)) (P : List Int) (c : Nat) : Nat → List Int
  | 0 => (List.replicate m 0).set c 1
  | i + 1 => (kerTo O m R P c i).set (nth P i).toNat (O.neg (nth (nthR R i) c))
/-- the rows for the columns below k that are no pivots -/
def kerL (O : FOps) (m : Nat) (R : List (List Int)) (P : List Int) : Nat → List (List Int)
  | 0 => []
  | k + 1 => if (k : Int) ∈ P then kerL O m R P k else kerL O m R P k ++ [kerTo O m R P k P.length]
/-- these columns -/
def npL (P : List Int) : Nat → List Nat
  | 0 => []
  | k + 1 => if (k : Int) ∈ P then npL P k else npL P k ++ [k]
theorem kerTo_len (O : FOps) (m : Nat) (R : List (List Int)) (P : List Int) (c : Nat) : ∀ i, (kerTo O m R P c i).length = m
  | 0 => by simp [kerTo]
  | i + 1 => by rw [kerTo, List.length_set, kerTo_len O m R P c i]
theorem kerL_len (O : FOps) (m : Nat) (R : List (List Int)) (P : List Int) : ∀ k, (kerL O m R P k).length = (npL P k).length
  | 0 => rfl
  | k + 1 => by
    rw [kerL, npL]
    split
    · exact kerL_len O m R P k
    · rw [List.length_append, List.length_append, kerL_len O m R P k]; rfl
theorem mem_npL {P : List Int} {x : Nat} : ∀ k, x ∈ npL P k ↔ x < k ∧ ¬ (x : Int) ∈ P
  | 0 => by simp [npL]
  | k + 1 => by
    rw [npL]
    split
    · rename_i h
      rw [mem_npL k]
      constructor
      · rintro ⟨h1, h2⟩; exact ⟨by omega, h2⟩
      · rintro ⟨h1, h2⟩
        by_cases e : x = k
        · subst e; exact absurd h h2
        · exact ⟨by omega, h2⟩
    · rename_i h
      rw [List.mem_append, mem_npL k, List.mem_singleton]
      constructor
      · rintro (⟨h1, h2⟩ | rfl)
        · exact ⟨by omega, h2⟩
        · exact ⟨by omega, h⟩
      · rintro ⟨h1, h2⟩
        by_cases e : x = k
        · exact .inr e
        · exact .inl ⟨by omega, h2⟩
theorem kerL_at (O : FOps) (m : Nat) (R : List (List Int)) (P : List Int) {j : Nat} : ∀ k, j < (npL P k).length → nthR (kerL O m R P k) j = kerTo O m R P ((npL P k).getD j 0) P.length
  | 0, h => by simp [npL] at h
  | k + 1, h => by
    rw [kerL, npL] at *
    split
    · rename_i hc
      rw [if_pos hc] at h
      exact kerL_at O m R P k h
    · rename_i hc
      rw [if_neg hc, List.length_append, List.length_singleton] at h
      have hl := kerL_len O m R P k
      by_cases e : j < (npL P k).length
      · have e1 : nthR (kerL O m R P k ++ [kerTo O m R P k P.length]) j = nthR (kerL O m R P k) j := by
          unfold nthR; simp only [List.getD_eq_getElem?_getD]; rw [List.getElem?_append_left (by omega)]
        have e2 : (npL P k ++ [k]).getD j 0 = (npL P k).getD j 0 := by simp only [List.getD_eq_getElem?_getD]; rw [List.getElem?_append_left e]
        rw [e1, e2]; exact kerL_at O m R P k e
      · have ej : j = (npL P k).length := by omega
        have e1 : nthR (kerL O m R P k ++ [kerTo O m R P k P.length]) j = kerTo O m R P k P.length := by
          unfold nthR; simp only [List.getD_eq_getElem?_getD]; rw [List.getElem?_append_right (by omega)]; simp [ej, hl]
        have e2 : (npL P k ++ [k]).getD j 0 = k := by simp only [List.getD_eq_getElem?_getD]; rw [List.getElem?_append_right (by omega)]; simp [ej]
        rw [e1, e2]

variable {R : List (List Int)} {P : List Int}
theorem kerTo_other (hP : Piv R P m) {c x : Nat} (hx : x < m) (hxc : x ≠ c) : ∀ i, i ≤ P.length → (∀ j, j < i → (nth P j).toNat ≠ x) → nth (kerTo O m R P c i) x = 0
  | 0, _, _ => by
    by_cases hc : c < m
    · rw [kerTo, nth_set _ _ _ _ (by simpa using hc), if_neg hxc]; simp [nth, List.getD_eq_getElem?_getD, List.getElem?_replicate]; split <;> rfl
    · rw [kerTo, List.set_eq_of_length_le (by simp; omega)]; simp [nth, List.getD_eq_getElem?_getD, List.getElem?_replicate]; split <;> rfl
  | i + 1, hi, h => by
    have hb := hP.lt i (by omega)
    rw [kerTo, nth_set _ _ _ _ (by rw [kerTo_len]; omega), if_neg (fun e => h i (by omega) e.symm)]
    exact kerTo_other hP hx hxc i (by omega) fun j hj => h j (by omega)
theorem kerTo_self (hP : Piv R P m) {c : Nat} (hc : c < m) (hn : ¬ (c : Int) ∈ P) : ∀ i, i ≤ P.length → nth (kerTo O m R P c i) c = 1
  | 0, _ => by rw [kerTo, nth_set _ _ _ _ (by simpa using hc), if_pos rfl]
  | i + 1, hi => by
    have hb := hP.lt i (by omega)
    have hne : c ≠ (nth P i).toNat := fun e => hn (by
      have : nth P i ∈ P := nth_mem (by omega)
      rwa [show nth P i = (c : Int) by omega] at this)
    rw [kerTo, nth_set _ _ _ _ (by rw [kerTo_len]; omega), if_neg hne]
    exact kerTo_self hP hc hn i (by omega)
theorem kerTo_piv (hP : Piv R P m) (hl : Lead R P) {c j : Nat} : ∀ i, i ≤ P.length → j < i → nth (kerTo O m R P c i) (nth P j).toNat = O.neg (nth (nthR R j) c)
  | 0, _, h => by omega
  | i + 1, hi, h => by
    have hb := hP.lt i (by omega)
    have hbj := hP.lt j (by omega)
    rw [kerTo, nth_set _ _ _ _ (by rw [kerTo_len]; omega)]
    by_cases e : j = i
    · subst e; rw [if_pos rfl]
    · have := hl.asc j i (by omega) (by omega)
      rw [if_neg (by omega)]
      exact kerTo_piv hP hl i (by omega) (by omega)
theorem kerTo_vc (F : Fld O El) (hR : Rws El m R) (hP : Piv R P m) (hlen : R.length = P.length) {c : Nat} (hc : c < m) : ∀ i, i ≤ P.length → Vc El m (kerTo O m R P c i)
  | 0, _ => ⟨kerTo_len O m R P c 0, fun y hy => by
    rw [kerTo] at hy
    rcases List.mem_or_eq_of_mem_set hy with h | rfl
    · rw [List.eq_of_mem_replicate h]; exact F.zero
    · exact F.one⟩
  | i + 1, hi => ⟨kerTo_len O m R P c (i + 1), fun y hy => by
    rw [kerTo] at hy
    rcases List.mem_or_eq_of_mem_set hy with h | rfl
    · exact (kerTo_vc F hR hP hlen hc i (by omega)).2 y h
    · exact F.cl.neg _ (Vc.at (hR.row (by omega)) hc)⟩
theorem npL_at {P : List Int} {k j : Nat} (h : j < (npL P k).length) : (npL P k).getD j 0 < k ∧ ¬ (((npL P k).getD j 0 : Nat) : Int) ∈ P := by
  have e : (npL P k).getD j 0 = (npL P k)[j] := by simp [List.getD_eq_getElem?_getD, h]
  rw [e]
  exact (mem_npL k).1 (List.getElem_mem h)
theorem kerL_rws (F : Fld O El) (hR : Rws El m R) (hP : Piv R P m) (hlen : R.length = P.length) : Rws El m (kerL O m R P m) := fun r hr => by
  obtain ⟨j, hj, rfl⟩ := List.mem_iff_getElem.1 hr
  have hj' : j < (npL P m).length := by rw [← kerL_len O m R P m]; exact hj
  rw [← nthR_getElem hj, kerL_at O m R P m hj']
  exact kerTo_vc F hR hP hlen (npL_at hj').1 P.length (Nat.le_refl _)
/-- the kernel's rows are orthogonal -/
theorem ker_orth (F : Fld O El) (hR : Rws El m R) (hP : Piv R P m) (hl : Lead R P) (hlen : R.length = P.length) : Orth O m R (kerL O m R P m) := fun i j hi hj => by
  rw [kerL_len] at hj
  rw [kerL_at O m R P m hj]
  obtain ⟨hc, hn⟩ := npL_at hj
  generalize (npL P m).getD j 0 = c at *
  have hb := hP.lt i (by omega)
  have hne : c ≠ (nth P i).toNat := fun e => hn (by
    have : nth P i ∈ P := nth_mem (by omega)
    rwa [show nth P i = (c : Int) by omega] at this)
  have hx : El (nth (nthR R i) c) := Vc.at (hR.row hi) hc
  have e1 : nth (kerTo O m R P c P.length) c = 1 := kerTo_self hP hc hn _ (Nat.le_refl _)
  have e2 : nth (kerTo O m R P c P.length) (nth P i).toNat = O.neg (nth (nthR R i) c) := kerTo_piv hP hl _ (Nat.le_refl _) (by omega)
  have e3 : nth (nthR R i) (nth P i).toNat = 1 := by rw [hP.one i i (by omega) hi, if_pos rfl]
  rw [dotN_two F hne (by rw [e1, F.mone hx]; exact hx) (by rw [e2, e3, F.one_mul _ (F.cl.neg _ hx)]; exact F.cl.neg _ hx) m fun p hp hpc hpi => ?_, if_pos hc, if_pos (by omega), e1, e2, e3, F.mone hx, F.one_mul _ (F.cl.neg _ hx), F.add_neg _ hx]
  show O.mul (nth (nthR R i) p) (nth (kerTo O m R P c P.length) p) = 0
  have hxp : El (nth (nthR R i) p) := Vc.at (hR.row hi) hp
  by_cases hpp : ∃ q, q < P.length ∧ (nth P q).toNat = p
  · obtain ⟨q, hq, rfl⟩ := hpp
    have hqi : i ≠ q := fun e => hpi (by rw [e])
    rw [hP.one q i hq hi, if_neg hqi, F.zmul ((kerTo_vc F hR hP hlen hc _ (Nat.le_refl _)).at hp)]
  · rw [kerTo_other hP hp hpc _ (Nat.le_refl _) fun q hq e => hpp ⟨q, hq, e⟩, F.mzero hxp]

/-- the columns that are no pivots are independent in the kernel -/
theorem ker_ind (F : Fld O El) (hP : Piv R P m) : ∀ k, k ≤ (npL P m).length → Rk (clV O El (kerL O m R P m).length (colS (kerL O m R P m))) (((npL P m).take k).reverse) k
  | 0, _ => .nil
  | k + 1, hk => by
    have ih := ker_ind F hP k (by omega)
    have hkl : k < (npL P m).length := by omega
    have hnd : ∀ K, (npL P K).Nodup := fun K => by
      induction K with
      | zero => exact List.nodup_nil
      | succ K ih =>
        rw [npL]
        split
        · exact ih
        · rw [List.nodup_append]
          refine ⟨ih, by simp, fun a ha b hb => ?_⟩
          rw [List.mem_singleton] at hb
          rw [hb]
          have := (mem_npL K).1 ha
          omega
    have etk : ((npL P m).take (k + 1)).reverse = (npL P m)[k] :: ((npL P m).take k).reverse := by rw [List.take_succ_eq_append_getElem hkl, List.reverse_append]; rfl
    rw [etk]
    refine .ind _ (fun hc => ?_) ih
    have hlk : k < (kerL O m R P m).length := by rw [kerL_len]; exact hkl
    have hat := npL_at (P := P) (k := m) hkl
    have eg : (npL P m).getD k 0 = (npL P m)[k] := by simp [List.getD_eq_getElem?_getD, hkl]
    rw [eg] at hat
    have h1 := hc (fun v => nth v k) (Lin.coord F hlk) fun y hy => by
      rw [List.mem_reverse] at hy
      show nth (colS _ y) k = 0
      rw [nth_colS _ y k hlk, kerL_at O m R P m hkl, eg]
      have hym := (mem_npL m).1 (List.mem_of_mem_take hy)
      have hyk : y ≠ (npL P m)[k] := fun e => by
        obtain ⟨q, hq, e2⟩ := List.mem_iff_getElem.1 hy
        rw [List.length_take] at hq
        rw [List.getElem_take] at e2
        have h3 := (List.getElem_inj (hnd m)).1 (e2.trans e)
        omega
      refine kerTo_other hP hym.1 hyk _ (Nat.le_refl _) fun q hq e => hym.2 ?_
      have h4 := hP.lt q hq
      have : nth P q ∈ P := nth_mem hq
      rwa [show nth P q = (y : Int) by omega] at this
    have h2 : nth (colS (kerL O m R P m) (npL P m)[k]) k = 0 := h1
    rw [nth_colS _ _ k hlk, kerL_at O m R P m hkl, eg, kerTo_self hP hat.1 hat.2 _ (Nat.le_refl _)] at h2
    exact absurd h2 (by decide)

theorem npL_count (P : List Int) (hP : ∀ j, j < P.length → 0 ≤ nth P j ∧ nth P j < m) (ha : ∀ i j, i < j → j < P.length → nth P i < nth P j) : (npL P m).length + P.length = m := by
  have key : ∀ k, k ≤ m → ∃ t, t ≤ P.length ∧ (npL P k).length + t = k ∧ (∀ j, j < t → nth P j < k) ∧ (∀ j, t ≤ j → j < P.length → (k : Int) ≤ nth P j) := by
    intro k
    induction k with
    | zero => intro _; exact ⟨0, Nat.zero_le _, rfl, fun j hj => by omega, fun j _ hj => (hP j hj).1⟩
    | succ k ih =>
      intro hk
      obtain ⟨t, h1, h2, h3, h4⟩ := ih (by omega)
      rw [npL]
      by_cases hm : (k : Int) ∈ P
      · rw [if_pos hm]
        obtain ⟨q, hq, e⟩ := List.mem_iff_getElem.1 hm
        rw [← nth_getElem hq] at e
        have hqt : q = t := by
          by_cases h5 : q < t
          · have := h3 q h5; omega
          · by_cases h6 : t < q
            · have h7 := ha t q h6 hq
              have h8 := h4 t (Nat.le_refl _) (by omega)
              omega
            · omega
        subst hqt
        refine ⟨q + 1, by omega, by omega, fun j hj => ?_, fun j h5 h6 => ?_⟩
        · by_cases e2 : j = q
          · subst e2; omega
          · have := h3 j (by omega); omega
        · have := ha q j (by omega) h6; omega
      · rw [if_neg hm, List.length_append, List.length_singleton]
        refine ⟨t, h1, by omega, fun j hj => by have := h3 j hj; omega, fun j h5 h6 => ?_⟩
        have h7 := h4 j h5 h6
        have h8 : nth P j ≠ k := fun e => hm (by rw [← e]; exact nth_mem h6)
        omega
  obtain ⟨t, h1, h2, h3, h4⟩ := key m (Nat.le_refl _)
  have : t = P.length := by
    apply Classical.byContradiction
    intro h
    have h5 := h4 t (Nat.le_refl _) (by omega)
    have h6 := hP t (by omega)
    omega
  omega

/-- the canonical kernel: its number of rows, and it is orthogonal -/
theorem ker_canon (F : Fld O El) (hR : Rws El m R) (hP : Piv R P m) (hl : Lead R P) (hlen : R.length = P.length) :
    R.length + (canO O m (kerL O m R P m)).length = m ∧ Orth O m R (canO O m (kerL O m R P m)) := by
  have hK := kerL_rws F hR hP hlen
  have hcnt := npL_count (m := m) P hP.lt hl.asc
  have hkl := kerL_len O m R P m
  obtain ⟨r1, r2⟩ := canO_rsub F hK
  have hO := ker_orth F hR hP hl hlen
  refine ⟨?_, fun i j hi hj => ?_⟩
  · have h1 := canO_rk F hK
    have h2 := ker_ind F hP (O := O) (El := El) (R := R) (npL P m).length (Nat.le_refl _)
    have hle := (elimTo_piv O (kerL O m R P m) m).2
    have hcl := canO_len F hK
    -- the rank of the kernel's rows is that of the canonical ones
    have h3 := Rk.map (cl' := clV O El (canO O m (kerL O m R P m)).length (colS (canO O m (kerL O m R P m)))) (fun y => y < m) id (fun l x hl hx => by rw [List.map_id]; exact ⟨r1.cl hl hx, r2.cl hl hx⟩) h2 (fun y hy => by
      rw [List.mem_reverse] at hy
      exact ((mem_npL m).1 (List.mem_of_mem_take hy)).1)
    have h4 := Rk.le (col_clo F (canO_rws F hK)) h3 h1 (fun x hx => (col_clo F (canO_rws F hK)).mem _ _ (by
      rw [List.map_id, List.mem_reverse] at hx
      exact List.mem_range.2 ((mem_npL m).1 (List.mem_of_mem_take hx)).1))
    omega
  · obtain ⟨e, he, he2⟩ := r1 j hj
    rw [dotN_congr (a' := fun p => nth (nthR R i) p) (b' := fun p => e (colS (kerL O m R P m) p)) m fun p hp => ⟨rfl, he2 p hp⟩]
    exact form_dot F hK he (fun p hp => Vc.at (hR.row hi) hp) fun q hq => hO i q hi hq
end
end

/- The walks of slices.Index, slices.Contains, matrix.Kernel. -/
section
open Go.RowKit

set_option maxRecDepth 100000 in
set_option maxHeartbeats 1600000 in
theorem index_any (a : Option Addr) (n c : Nat) (l : List Int) (v : Int) (w : World) (h : Ints w a n l) :
    Calls Tryz.prog 83 #[.slice a n c, .int .i64 v] w fun e w' => ∃ z : Int, e = .returned (.int .i64 z) ∧ (0 ≤ z ↔ v ∈ l) ∧ w' = w := by
  have Hl := Lib.hid h.len
  have hpl := h.pl
  have hmax := h.max
  unfold maxLen at hmax
  go_enter Tryz.func83, Tryz.ntmps83
  go_wp2_with fail
  go_loopw [8] (fun iv wr => ∃ k : Nat, k ≤ n ∧ iv = .int .i64 k ∧ Hid (∀ j, j < k → nth l j ≠ v) ∧ wr = w) (fun i _ => n - (intOf i).toNat)
  case atStart => exact ⟨0, Nat.zero_le _, rfl, fun j hj => by omega, rfl⟩
  case round =>
    obtain ⟨k, hk, rfl, hno, rfl⟩ := hrel
    by_cases hlt : k < n
    · have c1 := h.cell k hlt
      by_cases he : nth l k = v
      · have he' : (v == nth l k) = true := by rw [he]; simp
        have Hm : Hid (v ∈ l) := by show v ∈ l; rw [← he]; exact nth_mem (by rw [Hl.out]; exact hlt)
        clear he
        go_wp2_with fail
        go_ret
        exact ⟨k, rfl, ⟨fun _ => Hm.out, fun _ => Int.natCast_nonneg _⟩, rfl⟩
      · have he' : (v == nth l k) = false := by simpa using fun e => he e.symm
        have Hn2 : Hid (∀ j, j < k + 1 → nth l j ≠ v) := fun j hj => by
          by_cases e : j = k
          · subst e; exact he
          · exact hno.out j (by omega)
        clear he
        go_wp2_with fail
        go_roundw
        case rel => exact ⟨k + 1, by omega, by go_num, Hn2.out, by simp⟩
        case measure => simp [intOf] <;> omega
    · obtain rfl : k = n := by omega
      have Hm : Hid (¬ v ∈ l) := fun hm => by
        obtain ⟨j, hj, e⟩ := List.mem_iff_getElem.1 hm
        rw [← nth_getElem hj] at e
        exact hno.out j (by have := Hl.out; omega) e
      go_wp2_with fail
      go_ret
      exact ⟨-1, rfl, ⟨fun h => absurd h (by omega), fun h => absurd h Hm.out⟩, rfl⟩

theorem contains_any (a : Option Addr) (n c : Nat) (l : List Int) (v : Int) (w : World) (h : Ints w a n l) :
    Calls Tryz.prog 84 #[.slice a n c, .int .i64 v] w fun e w' => e = .returned (.bool (decide (v ∈ l))) ∧ w' = w := by
  go_enter Tryz.func84, Tryz.ntmps84
  go_wp2_with fail
  refine (index_any a n c l v w h).mono ?_
  rintro e w1 ⟨z, rfl, hz, rfl⟩
  by_cases h0 : 0 ≤ z
  · have Hz : Hid (decide (v ∈ l) = true) := by show _ = _; simpa using hz.1 h0
    have h0' : decide (0 ≤ z) = true := by simpa using h0
    clear hz h0
    go_wp2_with fail
    go_ret
    exact ⟨ret_bool Hz.out.symm, rfl⟩
  · have Hz : Hid (decide (v ∈ l) = false) := by show _ = _; simpa using fun h => h0 (hz.2 h)
    have h0' : decide (0 ≤ z) = false := by simpa using h0
    clear hz h0
    go_wp2_with fail
    go_ret
    exact ⟨ret_bool Hz.out.symm, rfl⟩

/-- the rows of the dual code -/
def dualL (G : Tbl) (L : List (List Int)) (m : Nat) : List (List Int) := canS G (kerL G.ops m (canS G L m) (pivS G L m) m) m

def KerPost (G : Tbl) (L : List (List Int)) (m : Nat) (w : World) (e : Ending) (w' : World) : Prop :=
  ∃ a c, e = .returned (.tuple #[.agg #[.int .i64 m, .slice a (dualL G L m).length c], .int .i64 0]) ∧ MatN w.heap.size w' a (dualL G L m).length (dualL G L m) ∧ Below w.heap.size w w'

theorem npL_le (P : List Int) : ∀ k, (npL P k).length ≤ k
  | 0 => Nat.le_refl _
  | k + 1 => by have := npL_le P k; rw [npL]; split <;> simp <;> omega

set_option maxRecDepth 100000 in
set_option maxHeartbeats 4000000 in
theorem kernel_any (P M : Int) (am : Option Addr) (mn cm : Nat) (mod : List Int) (m : Nat) (a : Option Addr) (n c : Nat) (L : List (List Int)) (w : World) (hmod : Ints w am mn mod) (hi : Mat w a n L) (hE : codeE P M mod m L = 0) :
    Calls Tryz.prog 97 #[.agg #[.int .i64 P, .int .i64 M, .slice am mn cm], .agg #[.int .i64 m, .slice a n c]] w (KerPost (tblOf P M.toNat mod) L m w) := by
  have Hlen := Lib.hid hi.len
  obtain ⟨N', e, hm1, hm64, F, hR⟩ := codeE_fld hE
  obtain rfl : m = N' := by omega
  have hL256 := (codeE_rws hE).choose_spec.2.2.2.1
  have hn : n ≤ 256 := by rw [← hi.len]; exact hL256
  obtain ⟨h5, h6⟩ := spaceE_zero (codeE_zero hE).2.2.2
  obtain ⟨hfB, h8⟩ := fmatE_zero h5
  have HR := Lib.hid hR
  have HF := Lib.hid F
  clear hE h5 h6 e hL256
  go_enter Tryz.func97, Tryz.ntmps97
  go_wp2_with fail
  obtain ⟨W, hW⟩ : ∃ W : World, W = ((((w.alloc (.cells #[.int .i64 P, .int .i64 M, .slice am mn cm] 24)).alloc (.cells #[.int .i64 m, .slice a n c] 62)).alloc (.cells #[.int .i64 0, .slice none 0 0] 62)).alloc (.cells #[.int .i64 m, .slice a n c] 62)) := ⟨_, rfl⟩
  rw [← hW]
  have hbW : Below w.heap.size w W := by rw [hW]; exact ((((Below.refl _ _).alloc (Nat.le_refl _) _).alloc (by simp) _).alloc (by simp; omega) _).alloc (by simp; omega) _
  have hsW : W.heap.size = w.heap.size + 4 := by rw [hW]; simp
  have q1 : W.cell? ⟨w.heap.size + 1, 0, none⟩ = some (.int .i64 m) ∧ W.cell? ⟨w.heap.size + 1, 1, none⟩ = some (.slice a n c) := by rw [hW]; exact ⟨cell_box (cell_box (cell_alloc_at _ _ _ (by simp) 0) _) _, cell_box (cell_box (cell_alloc_at _ _ _ (by simp) 1) _) _⟩
  have q2 : W.cell? ⟨w.heap.size + 1 + 1, 0, none⟩ = some (.int .i64 0) ∧ W.cell? ⟨w.heap.size + 1 + 1, 1, none⟩ = some (.slice none 0 0) ∧ W.frozen? ⟨w.heap.size + 1 + 1, 0, none⟩ = false ∧ W.frozen? ⟨w.heap.size + 1 + 1, 1, none⟩ = false := by
    rw [hW]; exact ⟨cell_box (cell_alloc_at _ _ _ (by simp) 0) _, cell_box (cell_alloc_at _ _ _ (by simp) 1) _, frozen_box (by simp) (frozen_at _ _ _ (by simp) 0) _, frozen_box (by simp) (frozen_at _ _ _ (by simp) 1) _⟩
  have q3 : W.cell? ⟨w.heap.size + 1 + 1 + 1, 0, none⟩ = some (.int .i64 m) ∧ W.cell? ⟨w.heap.size + 1 + 1 + 1, 1, none⟩ = some (.slice a n c) := by rw [hW]; exact ⟨cell_alloc_at _ _ _ (by simp) 0, cell_alloc_at _ _ _ (by simp) 1⟩
  have hiW := hi.keep hbW
  have hMs : Mats W (some ⟨w.heap.size + 1 + 1 + 1, 0, none⟩) 1 [((m : Int), L)] := ⟨rfl, fun _ => rfl, by unfold maxLen; omega, fun i hi => by
    have : i = 0 := by simp at hi; omega
    subst this
    exact ⟨a, n, c, by simpa using q3.1, by simpa using q3.2, hiW⟩⟩
  have HsW := Lib.hid hsW
  clear hW hsW
  refine (open_any P M am mn cm mod _ 1 1 _ W (hmod.keep hbW) hMs).mono ?_
  rintro e w1 ⟨hb1, hcase⟩
  have hbw1 := Below.next hbW hb1
  have hq : ∀ V, Below W.heap.size W V → V.cell? ⟨w.heap.size + 1, 0, none⟩ = some (.int .i64 m) ∧ V.cell? ⟨w.heap.size + 1, 1, none⟩ = some (.slice a n c) ∧ V.cell? ⟨w.heap.size + 1 + 1, 0, none⟩ = some (.int .i64 0) ∧ V.cell? ⟨w.heap.size + 1 + 1, 1, none⟩ = some (.slice none 0 0) ∧ V.frozen? ⟨w.heap.size + 1 + 1, 0, none⟩ = false ∧ V.frozen? ⟨w.heap.size + 1 + 1, 1, none⟩ = false := by
    intro V hV
    have hs := HsW.out
    exact ⟨cell_keep hV q1.1, cell_keep hV q1.2, cell_keep hV q2.1, cell_keep hV q2.2.1, (hV.frozen (p := ⟨w.heap.size + 1 + 1, 0, none⟩) (by simp [hs])).trans q2.2.2.1, (hV.frozen (p := ⟨w.heap.size + 1 + 1, 1, none⟩) (by simp [hs])).trans q2.2.2.2⟩
  have Hq := Lib.hid hq
  clear hq q1 q2 q3
  rw [matsE_one] at hcase
  rcases hcase with ⟨hB, _⟩ | ⟨_, er, h0, h1, _⟩ | ⟨_, _, b, rfl, hG, hbl⟩
  · rw [hfB] at hB; exact absurd hB (by decide)
  · rw [h8] at h1; exact absurd h1.symm h0
  obtain ⟨r1, r2, r3, r4, r5, r6⟩ := Hq.out w1 hb1
  have HPost : Hid (∀ a c w', MatN w.heap.size w' a (dualL (tblOf P M.toNat mod) L m).length (dualL (tblOf P M.toNat mod) L m) → Below w.heap.size w w' → KerPost (tblOf P M.toNat mod) L m w (.returned (.tuple #[.agg #[.int .i64 m, .slice a (dualL (tblOf P M.toNat mod) L m).length c], .int .i64 0])) w') := fun a c w' h1 h2 => ⟨a, c, rfl, h1, h2⟩
  obtain ⟨G, hGG⟩ : ∃ G, tblOf P M.toNat mod = G := ⟨_, rfl⟩
  have HGG := Lib.hid hGG
  rw [hGG] at hG HR HF HPost hR F
  clear h8 hGG hfB
  have Hcan := Lib.hid (canon_any a n c m L hG (hiW.keep hb1) hR (by omega) (by omega))
  have hRc : Rws G.El m (canS G L m) := canO_rws F hR
  obtain ⟨hPv, hLd⟩ := canO_piv F hR
  have hcl : (canS G L m).length = (pivS G L m).length := canS_length G L m
  have HPv : Hid (Piv (canS G L m) (pivS G L m) m) := hPv
  have hrws : ∀ k, k ≤ m → Rws G.El m (kerL G.ops m (canS G L m) (pivS G L m) k) := by
    intro k
    induction k with
    | zero => intro _ r hr; simp [kerL] at hr
    | succ k ih =>
      intro hk r hr
      rw [kerL] at hr
      split at hr
      · exact ih (by omega) r hr
      · rw [List.mem_append, List.mem_singleton] at hr
        rcases hr with hr | rfl
        · exact ih (by omega) r hr
        · exact kerTo_vc F hRc hPv hcl (by omega) _ (Nat.le_refl _)
  have Hrws := Lib.hid hrws
  have hdl : dualL G L m = canS G (kerL G.ops m (canS G L m) (pivS G L m) m) m := rfl
  have Hdl := Lib.hid hdl
  have Hcp : Hid (∀ c, c < m → ∀ i, i < (pivS G L m).length → G.El (nth (nthR (canS G L m) i) c)) := fun c hc i hi => Vc.at (hRc.row (by rw [hcl]; exact hi)) hc
  have Hrl : Hid (∀ i, i < (pivS G L m).length → (nthR (canS G L m) i).length = m) := fun i hi => (hRc.row (by rw [hcl]; exact hi)).1
  clear hR F hPv hLd hrws hdl
  go_wp2_with fail
  refine Hcan.out.mono ?_
  rintro e w2 ⟨a2, c2, ap, cp, rfl, hM2, hp2, hb2⟩
  have Hkp : Hid (∀ c i, kerTo G.ops m (canS G L m) (pivS G L m) c (i + 1) = (kerTo G.ops m (canS G L m) (pivS G L m) c i).set (nth (pivS G L m) i).toNat (G.neg (nth (nthR (canS G L m) i) c))) := fun c i => rfl
  have Hk0 : Hid (∀ c, kerTo G.ops m (canS G L m) (pivS G L m) c 0 = (List.replicate m 0).set c 1) := fun c => rfl
  have Hplt : Hid (∀ j, j < (pivS G L m).length → 0 ≤ nth (pivS G L m) j ∧ nth (pivS G L m) j < m) := HPv.out.lt
  obtain ⟨R, hRR⟩ : ∃ R, canS G L m = R := ⟨_, rfl⟩
  obtain ⟨Pv, hPP⟩ : ∃ Pv, pivS G L m = Pv := ⟨_, rfl⟩
  rw [hRR, hPP] at Hrws Hdl Hcp Hkp Hk0 Hrl
  rw [hPP] at Hplt hp2 hM2 hcl
  rw [hRR] at hM2 hcl
  rw [hPP]
  clear hRR hPP HPv Hcan
  obtain ⟨t, ht⟩ : ∃ t, Pv.length = t := ⟨_, rfl⟩
  have Ht := Lib.hid ht
  rw [ht] at hM2 hp2 Hcp Hplt hcl Hrl
  rw [ht]
  have hMM := hM2.mat
  have hII := hp2.ints
  have hplP := hII.pl
  have hplR := hMM.pl
  have hbw2 := Below.next hbw1 hb2
  have hb12 := Below.next hb1 hb2
  have hG2 := hG.keep hb2
  have hmaxP := hII.max
  unfold maxLen at hmaxP
  obtain ⟨z1, z2, z3, z4, z5, z6⟩ := Hq.out w2 hb12
  clear ht hM2 hp2 hG r1 r2 r3 r4 r5 r6
  go_wp2_with fail
  go_loopw [10, 37] (fun ov iv wr => ∃ (k : Nat) (a1 : Option Addr) (c1 : Nat), k ≤ m ∧ iv = .int .i64 k ∧ ov = .slice a1 (npL Pv k).length c1 ∧ (∃ Rr, OMat wr w2.heap.size a1 (npL Pv k).length c1 Rr (kerL G.ops m R Pv k)) ∧ Below w2.heap.size w2 wr) (fun _ iv _ => m - (intOf iv).toNat)
  case atStart => exact ⟨0, none, 0, Nat.zero_le _, rfl, rfl, ⟨[], OMat.nul w2 w2.heap.size⟩, Below.refl _ _⟩
  case round =>
    clear z1 z2 z3 z4 z5 z6
    obtain ⟨k, a1, c1, hk, rfl, rfl, ⟨Rr, hO⟩, hbr⟩ := hrel
    have hnk := npL_le Pv k
    by_cases hlt : k < m
    · have hcont := contains_any ap t cp Pv k wr (hII.keep hbr)
      obtain ⟨z1, _, _, _, _, _⟩ := Hq.out wr (Below.next hb12 hbr)
      by_cases hmem : (k : Int) ∈ Pv
      · have hN : Hid (npL Pv (k + 1) = npL Pv k) := by show _ = _; rw [npL, if_pos hmem]
        have hKk : Hid (kerL G.ops m R Pv (k + 1) = kerL G.ops m R Pv k) := by show _ = _; rw [kerL, if_pos hmem]
        rw [show decide ((k : Int) ∈ Pv) = true by simpa using hmem] at hcont
        have Hcont := Lib.hid hcont
        clear hmem hcont
        go_wp2_with fail
        refine Hcont.out.mono ?_
        rintro e w3 ⟨rfl, rfl⟩
        go_wp2_with fail
        go_roundw
        case rel => exact ⟨k + 1, a1, c1, by omega, by go_num, by rw [hN.out], ⟨Rr, by rw [hN.out, hKk.out]; exact hO⟩, hbr⟩
        case measure => simp [intOf] <;> omega
      · have hN : Hid (npL Pv (k + 1) = npL Pv k ++ [k]) := by show _ = _; rw [npL, if_neg hmem]
        have hKk : Hid (kerL G.ops m R Pv (k + 1) = kerL G.ops m R Pv k ++ [kerTo G.ops m R Pv k t]) := by show _ = _; rw [kerL, if_neg hmem, Ht.out]
        rw [show decide ((k : Int) ∈ Pv) = false by simpa using hmem] at hcont
        have Hcont := Lib.hid hcont
        clear hmem hcont
        go_wp2_with fail
        refine Hcont.out.mono ?_
        rintro e w3 ⟨rfl, rfl⟩
        go_wp2_with (at_make; refine wpList_mk rfl _ _ 22 3 rfl (.int .i64 0) 8 Tryz.underlying22 infoInt rfl m rfl rfl (by omega) (by unfold maxLen; omega) ?_; intro a5 w5 hown5 hbel5 hge5 hlt5; obtain ⟨hi5, hm5⟩ := Ints.own (l := List.replicate m 0) (by simpa using hown5); have hc5 := hi5.cell k hlt; have hf5 := (hm5 (by omega)).2 k hlt; have hpl5 := hi5.pl)
        have hx0 := own_set hown5 k hlt (.int .i64 1)
        have hx0' : (w5.setCell ⟨ablk a5, aoff a5 + k, none⟩ (.int .i64 1)).ownsRow w3.heap.size 3 1 (.slice a5 m m) m ((kerTo G.ops m R Pv k 0).map (Value.int .i64)) := by
          rw [Hk0.out, List.map_set, List.map_replicate]; exact hx0
        have hbx0 := hbel5.setCell (p := ⟨ablk a5, aoff a5 + k, none⟩) (hm5 (by omega)).1 (.int .i64 1)
        clear hx0 hown5 hbel5 hge5 hlt5 hi5 hm5 hc5 hf5 z1
        go_loopw [51] (fun iv wx => ∃ i : Nat, i ≤ t ∧ iv = .int .i64 i ∧ wx.ownsRow w3.heap.size 3 1 (.slice a5 m m) m ((kerTo G.ops m R Pv k i).map (Value.int .i64)) ∧ Below w3.heap.size w3 wx) (fun iv _ => t - (intOf iv).toNat)
        case atStart => exact ⟨0, Nat.zero_le _, rfl, hx0', hbx0⟩
        case round =>
          clear hx0' hbx0
          obtain ⟨i, hi', rfl, hown, hbx⟩ := hrel
          by_cases hli : i < t
          · have hb2x := Below.next hbr hbx
            have cpi := (hII.keep hb2x).cell i hli
            have hpb := Hplt.out i hli
            obtain ⟨z, hz⟩ : ∃ z : Nat, nth Pv i = z := ⟨(nth Pv i).toNat, by omega⟩
            have hzm : z < m := by omega
            obtain ⟨ra, rn, rc, hcell, hrow⟩ := (hMM.keep hb2x).cell i hli
            have hrn : rn = m := by rw [← hrow.len]; exact Hrl.out i hli
            subst hrn
            have ck := hrow.cell k hlt
            have hpr := hrow.pl
            have hel := Hcp.out k hlt i hli
            have hst : kerTo G.ops rn R Pv k (i + 1) = (kerTo G.ops rn R Pv k i).set z (G.neg (nth (nthR R i) k)) := by rw [Hkp.out, hz, Int.toNat_natCast]
            have Hst := Lib.hid hst
            obtain ⟨x9, hx9⟩ : ∃ x, nth (nthR R i) k = x := ⟨_, rfl⟩
            rw [hx9] at ck hel Hst
            have Hng := Lib.hid (gNeg x9 (hG2.keep hb2x) hel)
            rw [hz] at cpi
            obtain ⟨hints, hmine⟩ := Ints.own hown
            have hpl5' := hints.pl
            have cz := hints.cell z hzm
            have fz := (hmine (by omega)).2 z hzm
            have hB := (hmine (by omega)).1
            clear hz hpb hst hx9 hel
            go_wp2_with fail
            refine Hng.out.mono ?_
            rintro e w6 ⟨nd, rfl, rfl⟩
            go_wp2_with fail
            go_roundw
            case rel =>
              have h := own_set (w := wr.drewN nd) hown z hzm (.int .i64 (G.neg x9))
              rw [← List.map_set, ← Hst.out] at h
              exact ⟨i + 1, by omega, by go_num, h, (below_drewN hbx nd).setCell hB _⟩
            case measure => simp [intOf] <;> omega
          · obtain rfl : i = t := by omega
            obtain ⟨X, hX⟩ : ∃ X, kerTo G.ops m R Pv k i = X := ⟨_, rfl⟩
            have hXl : X.length = m := by rw [← hX]; exact kerTo_len _ _ _ _ _ _
            rw [hX] at hown hKk
            have HXl := Lib.hid hXl
            have hO3 := hO.keep (Below.next hbx (below1 wr (.cells #[.slice a5 m m] 22)))
            have hsz := hbr.size
            have hsx := hbx.size
            have hs3 : w2.heap.size ≤ (wr.alloc (.cells #[.slice a5 m m] 22)).heap.size := by simp; omega
            have hcn := cell_new wr (.slice a5 m m) 22
            clear hX hXl
            go_wp2_with (at_builtin; refine wpList_push rfl _ _ 25 22 rfl (.slice none 0 0) 24 Tryz.underlying25 infoInts rfl w2.heap.size a1 (npL Pv k).length c1 _ rfl hO3.own ⟨wr.heap.size, 0, none⟩ 1 (.slice a5 m m) rfl hcn rfl (by omega) (by unfold maxLen; omega) hs3 ?_; intro a7 c7 w7 hown7 hgr7 hap7)
            go_roundw
            case rel =>
              have hb4 : Below w3.heap.size w3 (wr.alloc (.cells #[.slice a5 m m] 22)) := Below.next hbx (below1 _ _)
              have hown4 : (wr.alloc (.cells #[.slice a5 m m] 22)).ownsRow w2.heap.size 3 1 (.slice a5 X.length m) X.length (X.map (Value.int .i64)) := by
                rw [HXl.out]; exact own_mono (own_keep hown (below1 _ _)) hsz
              have hra : a5 ≠ none → ¬ OIn a1 Rr (ablk a5) := fun h0 hI => by
                have h1 := (own_ne hown h0).1
                have h2 := (hO.lt _ hI).2
                omega
              have hP := OMat.push hO3 hown4 hra (by rw [HXl.out]; exact hown7) hgr7 hap7
              have hb5 : Below w2.heap.size w2 w7 := Below.app (Below.next hbr hb4) hO3.own hgr7 (Nat.le_refl _) (Nat.le_trans hsz hb4.size)
              exact ⟨k + 1, a7, c7, by omega, by go_num, by rw [hN.out]; simp, ⟨_, by rw [hN.out, hKk.out, List.length_append]; exact hP⟩, hb5⟩
            case measure => simp [intOf] <;> omega
    · obtain rfl : k = m := by omega
      have hbw := Below.next hbw2 hbr
      have hcan := canon_any a1 (npL Pv k).length c1 k (kerL G.ops k R Pv k) (hG2.keep hbr) hO.mat (Hrws.out k (Nat.le_refl _)) (by omega) (by omega)
      have Hcan := Lib.hid hcan
      obtain ⟨z1, z2, z3, z4, z5, z6⟩ := Hq.out wr (Below.next hb12 hbr)
      clear hcan hO
      go_wp2_with fail
      refine Hcan.out.mono ?_
      rintro e w8 ⟨a8, c8, ap8, cp8, rfl, hM8, hp8, hb8⟩
      have hlen8 : (pivS G (kerL G.ops k R Pv k) k).length = (dualL G L k).length := by rw [Hdl.out, canS_length]
      have hM8' : MatN wr.heap.size w8 a8 (dualL G L k).length (dualL G L k) := by rw [← hlen8, Hdl.out]; exact hM8
      rw [hlen8]
      have hbw8 := Below.next hbw hb8
      have hF := HPost.out a8 c8 ((w8.setCell ⟨w.heap.size + 1 + 1, 0, none⟩ (.int .i64 k)).setCell ⟨w.heap.size + 1 + 1, 1, none⟩ (.slice a8 (dualL G L k).length c8)) (by
          have hs := HsW.out
          have hs1 := (Below.next hb12 hbr).size
          exact ((hM8'.setCell (p := ⟨w.heap.size + 1 + 1, 0, none⟩) (by simp; omega) _).setCell (p := ⟨w.heap.size + 1 + 1, 1, none⟩) (by simp; omega) _).mono (by omega)) ((hbw8.setCell (by simp; omega) _).setCell (by simp; omega) _)
      have HF2 := Lib.hid hF
      clear hF hM8 hp8 hM8' Hcan z1 z2 z3 z4 z5 z6 hlen8
      obtain ⟨z1, z2, z3, z4, z5, z6⟩ := Hq.out w8 (Below.next (Below.next hb12 hbr) hb8)
      generalize (dualL G L k).length = q at *
      go_wp2_with fail
      exact bodyPost_ret (v := .tuple #[.agg #[.int .i64 k, .slice a8 q c8], .int .i64 0]) (by simp [results, Tryz.results97, go_sem, z3, z4]) rfl (by rw [HGG.out]; exact HF2.out)
end

/- The dual code is a code; its dimensions. -/
section
theorem mod_len {P M : Int} {mod : List Int} (h : fieldB P M mod = true) : mod.length ≤ 8 := by
  unfold fieldB shapeB at h
  simp only [Bool.and_eq_true, bne_iff_ne, ne_eq] at h
  obtain ⟨⟨⟨h1, _⟩, h3⟩, _⟩ := h
  have h2 := orderS_ne h1
  by_cases hM : M = 1
  · rw [if_pos hM] at h3
    have : mod.length = 0 := by simpa using h3
    omega
  · rw [if_neg hM] at h3
    simp only [Bool.and_eq_true, decide_eq_true_eq] at h3
    omega
/-- the dual code is a code, and its dimensions are those of the code -/
theorem dual_code {P M : Int} {mod : List Int} {m : Nat} {L : List (List Int)} (hE : codeE P M mod m L = 0) :
    codeE P M mod m (dualL (tblOf P M.toNat mod) L m) = 0 ∧ ∀ x, dimS (tblOf P M.toNat mod).ops (dualL (tblOf P M.toNat mod) L m) m x = dimS (tblOf P M.toNat mod).ops L m x := by
  obtain ⟨N', e, hm1, hm64, F, hR⟩ := codeE_fld hE
  obtain rfl : m = N' := by omega
  obtain ⟨hfB, h1, h64, h4⟩ := codeE_zero hE
  obtain ⟨h5, h6⟩ := spaceE_zero h4
  rw [Int.toNat_natCast] at h6
  have hcan : canO (tblOf P M.toNat mod).ops m L = L := h6
  obtain ⟨hPv, hLd⟩ := canO_piv F hR
  have hcl := canO_len F hR
  rw [hcan] at hPv hLd hcl
  have hK := kerL_rws F hR hPv hcl
  have hdl : dualL (tblOf P M.toNat mod) L m = canO (tblOf P M.toNat mod).ops m (kerL (tblOf P M.toNat mod).ops m L (elimTo (tblOf P M.toNat mod).ops L m).2 m) := by
    unfold dualL pivS
    rw [h6]
    rfl
  obtain ⟨k1, k2⟩ := ker_canon F hR hPv hLd hcl
  have hKR := canO_rws F hK
  have hidem := canO_idem F hK
  have hrk := canO_rk F hK
  have hrg := canO_rk F hR
  rw [hcan] at hrg
  rw [← hdl] at k1 k2 hKR hidem hrk
  generalize dualL (tblOf P M.toNat mod) L m = D at *
  constructor
  · have hq : ((tblOf P M.toNat mod).q : Int) = orderS P M ∨ True := .inr trivial
    have hm : matE (tblOf P M.toNat mod).q m D = 0 := by
      unfold matE
      rw [if_neg (by omega)]
      have hsh : shapeQ (m : Int) D = true := by
        unfold shapeQ
        rw [List.all_eq_true]
        intro r hr
        have := (hKR r hr).1
        simp; omega
      rw [if_neg (by rw [hsh]; decide), if_pos]
      rw [List.all_eq_true]
      intro r hr
      unfold elsQ isQ
      rw [List.all_eq_true]
      intro x hx
      have := (hKR r hr).2 x hx
      unfold Tbl.El at this
      simp
      exact this
    have hf : fmatE P M mod m D = 0 := by unfold fmatE; rw [if_pos hfB]; exact hm
    have hsp : spaceE P M mod m D = 0 := by
      unfold spaceE
      rw [if_pos hf, Int.toNat_natCast, if_pos]
      exact hidem
    have hle : lenE (m : Int) = 0 := lenE_in (by omega) (by omega)
    unfold codeE
    rw [if_pos hfB, if_pos hle]
    exact hsp
  · intro x
    have hs := grS_rk F hKR (bitsTo x m)
    have hc := grS_rk F hKR (bitsTo (cplU x) m)
    have gs := grS_rk F hR (bitsTo x m)
    have gc := grS_rk F hR (bitsTo (cplU x) m)
    have hb := bits_parts x m hm64
    have hgl : ∀ Q : List Int, ∀ k, (grL Q k).length = k := fun Q k => by
      induction k with
      | zero => rfl
      | succ k ih => rw [grL, List.length_cons, ih]
    have hS : ∀ i ∈ grL (bitsTo x m) (bitsTo x m).length, i < m := fun i hi => ((mem_grBits x m i).1 hi).1
    have hC : ∀ i ∈ grL (bitsTo (cplU x) m) (bitsTo (cplU x) m).length, i < m := fun i hi => ((mem_grBits (cplU x) m i).1 hi).1
    have hSC : ∀ p, p < m → p ∈ grL (bitsTo x m) (bitsTo x m).length ∨ p ∈ grL (bitsTo (cplU x) m) (bitsTo (cplU x) m).length := fun p hp => by
      rw [mem_grBits, mem_grBits, cplU_test _ _ (by omega)]
      cases hx : x.testBit p
      · exact .inr ⟨hp, rfl⟩
      · exact .inl ⟨hp, rfl⟩
    have r1 := dual_rk F hR hKR k2 k1 hrg hrk hS hC hSC (by rw [hgl, hgl]; exact hb) gc hs
    have r2 := dual_rk F hR hKR k2 k1 hrg hrk hC hS (fun p hp => (hSC p hp).symm) (by rw [hgl, hgl]; omega) gs hc
    rw [hgl] at r1 r2
    unfold dimS
    omega
end

end Go.Proofs.YtakmnncmeefceaaGreat
