/- What Dimension answers; bounds of dimensions (plain law). -/
import Derived.Test.YtakmnncmeefceaaGreatC7
namespace Go.Proofs.YtakmnncmeefceaaGreat
set_option linter.unusedVariables false
set_option linter.unusedSimpArgs false
set_option linter.unusedSectionVars false

/- Gauss-Jordan elimination counts the rank of the columns. -/
section
section
variable {O : FOps} {El : Int → Prop} {m n : Nat}

theorem Lin.smul (F : Fld O El) {φ : List Int → Int} (h : Lin O El n φ) {s : Int} (hs : El s) : Lin O El n (fun v => O.mul s (φ v)) :=
  ⟨fun v hv => F.cl.mul _ _ hs (h.el v hv),
   fun v r x hv hr hx => by
    show O.mul s (φ (subRow O v x r)) = O.add (O.mul s (φ v)) (O.neg (O.mul x (O.mul s (φ r))))
    have h1 := h.el v hv
    have h2 := h.el r hr
    rw [h.sub v r x hv hr hx, F.mul_add s _ _ hs h1 (F.cl.neg _ (F.cl.mul _ _ hx h2)), F.mul_neg hs (F.cl.mul _ _ hx h2), ← F.mul_assoc s x _ hs hx h2, F.mul_comm s x hs hx, F.mul_assoc x s _ hx hs h2],
   fun r x hr hx => by
    show O.mul s (φ (r.map (O.mul x))) = O.mul x (O.mul s (φ r))
    have h2 := h.el r hr
    rw [h.scl r x hr hx, ← F.mul_assoc s x _ hs hx h2, F.mul_comm s x hs hx, F.mul_assoc x s _ hx hs h2]⟩

theorem nth_mapRange (g : Nat → Int) (k i : Nat) (hi : i < k) : nth ((List.range k).map g) i = g i := by
  rw [nth_getElem (by simpa using hi)]; simp
theorem Lin.vec {k : Nat} {e : List Int → Int} (he : Lin O El k e) (g : Nat → List Int → Int) (hg : ∀ i, i < k → Lin O El n (g i)) : Lin O El n (fun v => e ((List.range k).map fun i => g i v)) := by
  have hv' : ∀ v, Vc El n v → Vc El k ((List.range k).map fun i => g i v) := fun v hv => ⟨by simp, fun y hy => by
    obtain ⟨i, hi, rfl⟩ := List.mem_map.1 hy
    exact (hg i (List.mem_range.1 hi)).el v hv⟩
  refine ⟨fun v hv => he.el _ (hv' v hv), fun v r x hv hr hx => ?_, fun r x hr hx => ?_⟩
  · show e _ = _
    rw [← he.sub _ _ x (hv' v hv) (hv' r hr) hx]
    congr 1
    refine nth_ext (by rw [subRow_length _ _ _ _ (by simp)]; simp) fun i hi => ?_
    have hi' : i < k := by simpa using hi
    rw [nth_subRow O _ x _ i (by simp) (by simpa using hi'), nth_mapRange _ _ _ hi', nth_mapRange _ _ _ hi', nth_mapRange _ _ _ hi']
    exact (hg i hi').sub v r x hv hr hx
  · show e _ = _
    rw [← he.scl _ x (hv' r hr) hx]
    congr 1
    refine nth_ext (by simp) fun i hi => ?_
    have hi' : i < k := by simpa using hi
    rw [nth_scl O _ x (by simpa using hi'), nth_mapRange _ _ _ hi', nth_mapRange _ _ _ hi']
    exact (hg i hi').scl r x hr hx

/-- the functions of the row space of L, on the first m columns -/
def RS (O : FOps) (El : Int → Prop) (m : Nat) (L : List (List Int)) (f : Nat → Int) : Prop := ∃ e, Lin O El L.length e ∧ ∀ x, x < m → f x = e (colS L x)
theorem RS.row (F : Fld O El) {L : List (List Int)} {i : Nat} (hi : i < L.length) : RS O El m L (fun x => nth (nthR L i) x) :=
  ⟨fun v => nth v i, Lin.coord F hi, fun x _ => (nth_colS L x i hi).symm⟩
theorem RS.comb (F : Fld O El) {L : List (List Int)} {f g : Nat → Int} (hf : RS O El m L f) (hg : RS O El m L g) {s : Int} (hs : El s) : RS O El m L (fun x => O.add (f x) (O.neg (O.mul (g x) s))) := by
  obtain ⟨a, ha, ha2⟩ := hf
  obtain ⟨b, hb, hb2⟩ := hg
  exact ⟨_, ha.comb F hb hs, fun x hx => by show O.add (f x) _ = _; rw [ha2 x hx, hb2 x hx]⟩
theorem RS.smul (F : Fld O El) {L : List (List Int)} {f : Nat → Int} (hf : RS O El m L f) {s : Int} (hs : El s) : RS O El m L (fun x => O.mul s (f x)) := by
  obtain ⟨a, ha, ha2⟩ := hf
  exact ⟨_, ha.smul F hs, fun x hx => by show O.mul s (f x) = _; rw [ha2 x hx]⟩
theorem RS.congr {L : List (List Int)} {f g : Nat → Int} (hf : RS O El m L f) (h : ∀ x, x < m → g x = f x) : RS O El m L g := by
  obtain ⟨a, ha, ha2⟩ := hf
  exact ⟨a, ha, fun x hx => by rw [h x hx, ha2 x hx]⟩
/-- each row of A is in the row space of B -/
def RSub (O : FOps) (El : Int → Prop) (m : Nat) (A B : List (List Int)) : Prop := ∀ i, i < A.length → RS O El m B (fun x => nth (nthR A i) x)
theorem RSub.refl (F : Fld O El) (L : List (List Int)) : RSub O El m L L := fun _ hi => .row F hi
theorem RSub.rs {A B : List (List Int)} (h : RSub O El m A B) {f : Nat → Int} (hf : RS O El m A f) : RS O El m B f := by
  obtain ⟨e, he, he2⟩ := hf
  obtain ⟨g, hg⟩ : ∃ g : Nat → List Int → Int, ∀ i, i < A.length → Lin O El B.length (g i) ∧ ∀ x, x < m → nth (nthR A i) x = g i (colS B x) := by
    have h2 : ∀ i, ∃ g : List Int → Int, i < A.length → Lin O El B.length g ∧ ∀ x, x < m → nth (nthR A i) x = g (colS B x) := fun i => by
      by_cases hi : i < A.length
      · obtain ⟨g, h1, h2⟩ := h i hi
        exact ⟨g, fun _ => ⟨h1, h2⟩⟩
      · exact ⟨fun _ => 0, fun h => absurd h hi⟩
    exact ⟨fun i => Classical.choose (h2 i), fun i hi => Classical.choose_spec (h2 i) hi⟩
  refine ⟨_, he.vec g fun i hi => (hg i hi).1, fun x hx => ?_⟩
  rw [he2 x hx]
  congr 1
  refine nth_ext (by simp [colS_length]) fun i hi => ?_
  rw [colS_length] at hi
  rw [nth_mapRange _ _ _ hi, nth_colS A x i hi]
  exact (hg i hi).2 x hx
theorem RSub.trans {A B C : List (List Int)} (h : RSub O El m A B) (h2 : RSub O El m B C) : RSub O El m A C := fun i hi => h2.rs (h i hi)
theorem RSub.cl {A B : List (List Int)} (h : RSub O El m A B) {l : List Nat} {x : Nat} (hl : ∀ y ∈ l, y < m) (hx : x < m) (hc : clV O El B.length (colS B) l x) : clV O El A.length (colS A) l x := by
  intro φ hφ h0
  obtain ⟨e, he, he2⟩ := h.rs (f := fun x => φ (colS A x)) ⟨φ, hφ, fun _ _ => rfl⟩
  have e1 : φ (colS A x) = e (colS B x) := he2 x hx
  rw [e1]
  refine hc e he fun y hy => ?_
  rw [← he2 y (hl y hy)]
  exact h0 y hy

/-- what elimination leaves -/
structure Piv (L : List (List Int)) (P : List Int) (c : Nat) : Prop where
  le : P.length ≤ L.length
  lt : ∀ j, j < P.length → 0 ≤ nth P j ∧ nth P j < c
  one : ∀ j i, j < P.length → i < L.length → nth (nthR L i) (nth P j).toNat = if i = j then 1 else 0
  zero : ∀ i x, P.length ≤ i → i < L.length → x < c → nth (nthR L i) x = 0

def sw (t k i : Nat) : Nat := if i = t then k else if i = k then t else i
theorem sw_lt {t k n i : Nat} (ht : t < n) (hk : k < n) (hi : i < n) : sw t k i < n := by unfold sw; split; exact hk; split; exact ht; exact hi
theorem nthR_sw {L : List (List Int)} {t k : Nat} (ht : t < L.length) (hk : k < L.length) (i : Nat) : nthR (if k = t then L else swapRow L t k) i = nthR L (sw t k i) := by
  unfold sw swapRow
  split
  · rename_i e
    subst e
    split
    · rename_i e; rw [e]
    · rfl
  · rename_i hne
    rw [nthR_set _ _ _ _ (by simpa using hk), nthR_set _ _ _ _ ht]
    by_cases h1 : i = t
    · rw [if_neg (by omega), if_pos h1, if_pos h1]
    · rw [if_neg h1, if_neg h1]
      by_cases h2 : i = k
      · rw [if_pos h2, if_pos h2]
      · rw [if_neg h2, if_neg h2]
theorem nth_norm (F : Fld O El) {L : List (List Int)} (hL : Rws El m L) {t c : Nat} (ht : t < L.length) {i x : Nat} (hx : x < m) :
    nth (nthR (normRow O L t c) i) x = if i = t then O.mul (O.inv (nth (nthR L t) c)) (nth (nthR L t) x) else nth (nthR L i) x := by
  have hr := hL.row ht
  have he : El (nth (nthR L t) x) := hr.2 _ (nth_mem (by rw [hr.1]; exact hx))
  unfold normRow
  split
  · rename_i h1
    split
    · rename_i e; rw [e, h1, F.one_mul _ he]
    · rfl
  · rw [nthR_set _ _ _ _ ht]
    split
    · exact nth_scl O _ _ (by rw [hr.1]; exact hx)
    · rfl
theorem nthR_clear (O : FOps) (t c : Nat) (L : List (List Int)) : ∀ i, i ≤ L.length → ∀ j, nthR (clearTo O t c L i) j = if j < i ∧ j ≠ t then clearRow O (nthR L t) c (nthR L j) else nthR L j
  | 0, _, j => by rw [if_neg (by omega)]; rfl
  | i + 1, hi, j => by
    have ih := nthR_clear O t c L i (by omega)
    unfold clearTo
    split
    · rename_i e
      rw [ih j]
      by_cases h : j < i ∧ j ≠ t
      · rw [if_pos h, if_pos ⟨by omega, h.2⟩]
      · rw [if_neg h, if_neg (by omega)]
    · rename_i e
      have e1 : nthR (clearTo O t c L i) t = nthR L t := by rw [ih t, if_neg (by omega)]
      have e2 : nthR (clearTo O t c L i) i = nthR L i := by rw [ih i, if_neg (by omega)]
      rw [nthR_set _ _ _ _ (by rw [clearTo_length]; omega), e1, e2]
      by_cases h : j = i
      · subst h
        rw [if_pos rfl, if_pos ⟨by omega, e⟩]
      · rw [if_neg h, ih j]
        by_cases h2 : j < i ∧ j ≠ t
        · rw [if_pos h2, if_pos ⟨by omega, h2.2⟩]
        · rw [if_neg h2, if_neg (by omega)]
theorem nth_clearRow (F : Fld O El) {pv r : List Int} {c x : Nat} (hp : Vc El m pv) (hr : Vc El m r) (hc : c < m) (hx : x < m) :
    nth (clearRow O pv c r) x = O.add (nth r x) (O.neg (O.mul (nth pv x) (nth r c))) := by
  have h1 := hp.at hx
  have h2 := hr.at hx
  have h3 := hr.at hc
  unfold clearRow
  split
  · rename_i h0
    rw [h0, F.mzero h1, F.nzero, F.add_zero _ h2]
  · rw [nth_addRow O r _ pv x (by rw [hp.1, hr.1]) (by rw [hr.1]; exact hx)]
    split
    · rename_i h0
      rw [h0, F.zmul h3, F.nzero, F.add_zero _ h2]
    · rw [F.neg_mul h3 h1, F.mul_comm _ _ h3 h1]

section
variable {L : List (List Int)} {t k c : Nat}
theorem nth_pivotS (F : Fld O El) (hL : Rws El m L) (ht : t < L.length) (hk : k < L.length) (hc : c < m) (h0 : nth (nthR L k) c ≠ 0) {i x : Nat} (hi : i < L.length) (hx : x < m) :
    nth (nthR (pivotS O L t k c) i) x = if i = t then O.mul (O.inv (nth (nthR L k) c)) (nth (nthR L k) x) else
      O.add (nth (nthR L (sw t k i)) x) (O.neg (O.mul (O.mul (O.inv (nth (nthR L k) c)) (nth (nthR L k) x)) (nth (nthR L (sw t k i)) c))) := by
  rw [pivotS_eq]
  obtain ⟨L1, hL1⟩ : ∃ L1, (if k = t then L else swapRow L t k) = L1 := ⟨_, rfl⟩
  have hn1 : ∀ i, nthR L1 i = nthR L (sw t k i) := fun i => by rw [← hL1]; exact nthR_sw ht hk i
  have hl1 : L1.length = L.length := by rw [← hL1]; split <;> simp [swapRow_length]
  have hR1 : Rws El m L1 := by
    rw [← hL1]
    split
    · exact hL
    · exact hL.swap ht hk
  have hswt : sw t k t = k := by simp [sw]
  have h01 : nth (nthR L1 t) c ≠ 0 := by rw [hn1, hswt]; exact h0
  rw [hL1]
  have hR2 : Rws El m (normRow O L1 t c) := hR1.norm F.cl (by omega) hc h01
  have hN : ∀ {i x : Nat}, x < m → nth (nthR (normRow O L1 t c) i) x = if i = t then O.mul (O.inv (nth (nthR L1 t) c)) (nth (nthR L1 t) x) else nth (nthR L1 i) x := fun hx => nth_norm F hR1 (by omega) hx
  rw [nthR_clear O t c _ L.length (by rw [normRow_length]; omega)]
  by_cases e : i = t
  · rw [if_neg (by omega), if_pos e, hN hx, if_pos e, hn1, hswt]
  · rw [if_pos ⟨hi, e⟩, if_neg e, nth_clearRow F (hR2.row (by rw [normRow_length]; omega)) (hR2.row (by rw [normRow_length]; omega)) hc hx, hN hx, hN hx, hN hc, if_neg e, if_neg e, if_pos rfl, hn1, hn1, hswt]

variable (F : Fld O El) (hL : Rws El m L) (ht : t < L.length) (hk : k < L.length) (hc : c < m) (h0 : nth (nthR L k) c ≠ 0)
include F hL ht hk hc h0
theorem pivotS_sub : RSub O El m (pivotS O L t k c) L := by
  intro i hi
  rw [pivotS_length] at hi
  have hp : El (nth (nthR L k) c) := Vc.at (hL.row hk) hc
  have hpi := F.cl.inv _ hp h0
  by_cases e : i = t
  · exact ((RS.row F hk).smul F hpi).congr fun x hx => by rw [nth_pivotS F hL ht hk hc h0 hi hx, if_pos e]
  · have hs := sw_lt ht hk hi
    exact ((RS.row F hs).comb F ((RS.row F hk).smul F hpi) (s := nth (nthR L (sw t k i)) c) (Vc.at (hL.row hs) hc)).congr fun x hx => by rw [nth_pivotS F hL ht hk hc h0 hi hx, if_neg e]
theorem pivotS_sup : RSub O El m L (pivotS O L t k c) := by
  intro i hi
  have hp : El (nth (nthR L k) c) := Vc.at (hL.row hk) hc
  have hpi := F.cl.inv _ hp h0
  have htB : t < (pivotS O L t k c).length := by rw [pivotS_length]; exact ht
  by_cases e : i = k
  · refine ((RS.row F htB).smul F hp).congr fun x hx => ?_
    have hx1 : El (nth (nthR L k) x) := Vc.at (hL.row hk) hx
    rw [nth_pivotS F hL ht hk hc h0 ht hx, if_pos rfl, ← F.mul_assoc _ _ _ hp hpi hx1, F.mul_inv _ hp h0, F.one_mul _ hx1, e]
  · have hj : ∃ j, j < L.length ∧ j ≠ t ∧ sw t k j = i := by
      by_cases e2 : i = t
      · exact ⟨k, hk, by omega, by unfold sw; rw [if_neg (by omega), if_pos rfl, e2]⟩
      · exact ⟨i, hi, e2, by unfold sw; rw [if_neg e2, if_neg e]⟩
    obtain ⟨j, hj, hjt, hsw⟩ := hj
    have hs : El (nth (nthR L i) c) := Vc.at (hL.row hi) hc
    refine ((RS.row F (i := j) (by rw [pivotS_length]; exact hj)).comb F (RS.row F htB) (s := O.neg (nth (nthR L i) c)) (F.cl.neg _ hs)).congr fun x hx => ?_
    have hx1 : El (nth (nthR L k) x) := Vc.at (hL.row hk) hx
    have hx2 : El (nth (nthR L i) x) := Vc.at (hL.row hi) hx
    have hy := F.cl.mul _ _ hpi hx1
    have hq := F.cl.mul _ _ hy hs
    rw [nth_pivotS F hL ht hk hc h0 ht hx, if_pos rfl, nth_pivotS F hL ht hk hc h0 hj hx, if_neg hjt, hsw, F.mul_neg hy hs, F.neg_neg hq, F.add_assoc _ _ _ hx2 (F.cl.neg _ hq) hq, F.negadd hq, F.add_zero _ hx2]
end

theorem Piv.next (F : Fld O El) {L : List (List Int)} {P : List Int} {c k : Nat} (h : Piv L P c) (hL : Rws El m L) (hc : c < m) (ht : P.length < L.length) (hk : k < L.length) (htk : P.length ≤ k) (h0 : nth (nthR L k) c ≠ 0) :
    Piv (pivotS O L P.length k c) (P ++ [(c : Int)]) (c + 1) := by
  have hp : El (nth (nthR L k) c) := Vc.at (hL.row hk) hc
  have hpi := F.cl.inv _ hp h0
  have hsw : ∀ i, P.length ≤ i → i < L.length → P.length ≤ sw P.length k i ∧ sw P.length k i < L.length := fun i h1 h2 => by
    unfold sw; split; omega; split <;> omega
  have hswl : ∀ i, i < P.length → sw P.length k i = i := fun i h1 => by unfold sw; rw [if_neg (by omega), if_neg (by omega)]
  refine ⟨by rw [pivotS_length, List.length_append]; simp; omega, fun j hj => ?_, fun j i hj hi => ?_, fun i x h1 h2 hx => ?_⟩
  · rw [nth_push]
    rw [List.length_append, List.length_singleton] at hj
    by_cases e : j < P.length
    · rw [if_pos e]; have := h.lt j e; omega
    · rw [if_neg e, if_pos (by omega)]; omega
  · rw [List.length_append, List.length_singleton] at hj
    rw [pivotS_length] at hi
    rw [nth_push]
    by_cases e : j < P.length
    · rw [if_pos e]
      have hb := h.lt j e
      have hx : (nth P j).toNat < m := by omega
      have hk0 := h.one j k e hk
      rw [if_neg (by omega)] at hk0
      rw [nth_pivotS F hL ht hk hc h0 hi hx, hk0, F.mzero hpi]
      by_cases e2 : i = P.length
      · rw [if_pos e2, if_neg (by omega)]
      · rw [if_neg e2]
        have hsl : sw P.length k i < L.length := by unfold sw; split; omega; split <;> omega
        rw [F.zmul (Vc.at (hL.row hsl) hc), F.nzero, F.add_zero _ (Vc.at (hL.row hsl) hx), h.one j _ e hsl]
        by_cases e3 : i < P.length
        · rw [hswl i e3]
        · have := (hsw i (by omega) hi).1
          rw [if_neg (by omega), if_neg (by omega)]
    · have ej : j = P.length := by omega
      rw [if_neg e, if_pos ej, Int.toNat_natCast, nth_pivotS F hL ht hk hc h0 hi hc, ej]
      by_cases e2 : i = P.length
      · rw [if_pos e2, if_pos e2, F.mul_comm _ _ hpi hp, F.mul_inv _ hp h0]
      · rw [if_neg e2, if_neg e2]
        have hsl : sw P.length k i < L.length := by unfold sw; split; omega; split <;> omega
        have hq : El (nth (nthR L (sw P.length k i)) c) := Vc.at (hL.row hsl) hc
        rw [F.mul_comm _ _ hpi hp, F.mul_inv _ hp h0, F.one_mul _ hq, F.add_neg _ hq]
  · rw [List.length_append, List.length_singleton] at h1
    rw [pivotS_length] at h2
    have hxm : x < m := by omega
    have hs := hsw i (by omega) h2
    have hq : El (nth (nthR L (sw P.length k i)) c) := Vc.at (hL.row hs.2) hc
    rw [nth_pivotS F hL ht hk hc h0 h2 hxm, if_neg (by omega)]
    by_cases e : x = c
    · subst e
      rw [F.mul_comm _ _ hpi hp, F.mul_inv _ hp h0, F.one_mul _ hq, F.add_neg _ hq]
    · rw [h.zero _ x hs.1 hs.2 (by omega), h.zero k x htk hk (by omega), F.mzero hpi, F.zmul hq, F.nzero, F.add_zero 0 F.zero]

theorem elim_rws (F : Fld O El) {L : List (List Int)} (hL : Rws El m L) (k : Nat) (hk : k ≤ m) : Rws El m (elimTo O L k).1 :=
  (elimTo_agr (O' := O) ⟨fun _ _ _ _ => rfl, fun _ _ _ _ => rfl, fun _ _ => rfl, fun _ _ _ => rfl⟩ F.cl hL k hk).2
theorem elim_inv (F : Fld O El) {L : List (List Int)} (hL : Rws El m L) : ∀ k, k ≤ m → Piv (elimTo O L k).1 (elimTo O L k).2 k ∧ RSub O El m (elimTo O L k).1 L ∧ RSub O El m L (elimTo O L k).1
  | 0, _ => ⟨⟨Nat.zero_le _, fun j hj => by simp [elimTo] at hj, fun j i hj => by simp [elimTo] at hj, fun i x _ _ hx => by omega⟩, .refl F L, .refl F L⟩
  | k + 1, hk => by
    obtain ⟨h1, h2, h3⟩ := elim_inv F hL k (by omega)
    have hR := elim_rws F hL k (by omega)
    have hb := findRow_bd (L := (elimTo O L k).1) (c := k) (k := (elimTo O L k).2.length) h1.le
    by_cases hlt : (elimTo O L k).2.length < (elimTo O L k).1.length
    · rw [elimTo_next (Lk := (elimTo O L k).1) (P := (elimTo O L k).2) rfl hlt]
      split
      · rename_i hf
        refine ⟨⟨h1.le, fun j hj => ⟨(h1.lt j hj).1, Int.lt_trans (h1.lt j hj).2 (by omega)⟩, h1.one, fun i x hi1 hi2 hx => ?_⟩, h2, h3⟩
        by_cases e : x = k
        · subst e
          exact findTo_zero _ x ((elimTo O L x).1.length - (elimTo O L x).2.length) _ i hi1 (by show i < findRow _ x _; rw [hf]; exact hi2)
        · exact h1.zero i x hi1 hi2 (by omega)
      · rename_i hf
        have hfl : findRow (elimTo O L k).1 k (elimTo O L k).2.length < (elimTo O L k).1.length := by omega
        have hne : nth (nthR (elimTo O L k).1 (findRow (elimTo O L k).1 k (elimTo O L k).2.length)) k ≠ 0 := findTo_stop _ k _ _ (by show findRow _ k _ < _; omega)
        exact ⟨h1.next F hR (by omega) hlt hfl hb.1 hne, (pivotS_sub F hR hlt hfl (by omega) hne).trans h2, h3.trans (pivotS_sup F hR hlt hfl (by omega) hne)⟩
    · have hfull : (elimTo O L k).2.length = L.length := by have := elimTo_length O L k; have := h1.le; omega
      rw [elimTo_full hfull 1]
      have hl := elimTo_length O L k
      exact ⟨⟨h1.le, fun j hj => by have := h1.lt j hj; omega, h1.one, fun i x hi1 hi2 hx => by omega⟩, h2, h3⟩

theorem one_ne (F : Fld O El) : ∀ {x : Int}, El x → x ≠ 0 → (1 : Int) ≠ 0 := fun _ _ => by decide

/-- the pivots' columns are independent -/
theorem Piv.ind (F : Fld O El) {L : List (List Int)} {P : List Int} {c : Nat} (h : Piv L P c) : ∀ k, k ≤ P.length → Rk (clV O El L.length (colS L)) (grL P k) k
  | 0, _ => .nil
  | k + 1, hk => by
    rw [grL]
    refine .ind _ (fun hc => ?_) (h.ind F k (by omega))
    have hkl := h.le
    have h1 := hc (fun v => nth v k) (Lin.coord F (by omega)) fun y hy => by
      obtain ⟨j, hj, rfl⟩ := (mem_grL P y k).1 hy
      show nth (colS L _) k = 0
      rw [nth_colS L _ k (by omega), h.one j k (by omega) (by omega), if_neg (by omega)]
    have h2 : nth (colS L (nth P k).toNat) k = 0 := h1
    rw [nth_colS L _ k (by omega), h.one k k (by omega) (by omega), if_pos rfl] at h2
    exact absurd h2 (by decide)

/-- a column, less its first k entries' multiples of the pivots' columns -/
def lessTo (O : FOps) (L : List (List Int)) (P : List Int) (v : List Int) : Nat → List Int
  | 0 => v
  | k + 1 => subRow O (lessTo O L P v k) (nth (lessTo O L P v k) k) (colS L (nth P k).toNat)
theorem Piv.less (F : Fld O El) {L : List (List Int)} {P : List Int} {c : Nat} (h : Piv L P c) (hL : Rws El m L) {v : List Int} (hv : Vc El L.length v) {φ : List Int → Int} (hφ : Lin O El L.length φ)
    (h0 : ∀ j, j < P.length → φ (colS L (nth P j).toNat) = 0) : ∀ k, k ≤ P.length → Vc El L.length (lessTo O L P v k) ∧ φ (lessTo O L P v k) = φ v ∧ ∀ i, i < L.length → nth (lessTo O L P v k) i = if i < k then 0 else nth v i
  | 0, _ => ⟨hv, rfl, fun i _ => by rw [if_neg (by omega)]; rfl⟩
  | k + 1, hk => by
    obtain ⟨h1, h2, h3⟩ := h.less F hL hv hφ h0 k (by omega)
    have hle := h.le
    have hcol := colS_vc hL F.zero (nth P k).toNat
    have hx := h1.at (i := k) (by omega)
    refine ⟨h1.sub F hcol hx, ?_, fun i hi => ?_⟩
    · rw [lessTo, hφ.sub _ _ _ h1 hcol hx, h0 k (by omega), F.mzero hx, F.nzero, F.add_zero _ (hφ.el _ h1), h2]
    · rw [lessTo, nth_subRow O _ _ _ i (by rw [hcol.1, h1.1]) (by rw [h1.1]; exact hi), nth_colS L _ i hi, h.one k i (by omega) hi]
      by_cases e : i = k
      · subst e
        rw [if_pos rfl, F.mone hx, F.add_neg _ hx, if_pos (by omega)]
      · rw [if_neg e, F.mzero hx, F.nzero, F.add_zero _ (h1.at hi), h3 i hi]
        by_cases e2 : i < k
        · rw [if_pos e2, if_pos (by omega)]
        · rw [if_neg e2, if_neg (by omega)]
theorem Piv.all (F : Fld O El) {L : List (List Int)} {P : List Int} (h : Piv L P m) (hL : Rws El m L) {x : Nat} (hx : x < m) : clV O El L.length (colS L) (grL P P.length) x := by
  intro φ hφ h0
  obtain ⟨h1, h2, h3⟩ := h.less F hL (colS_vc hL F.zero x) hφ (fun j hj => h0 _ ((mem_grL P _ _).2 ⟨j, hj, rfl⟩)) _ (Nat.le_refl _)
  rw [← h2]
  refine hφ.zero F h1 fun i hi => ?_
  rw [h3 i hi]
  split
  · rfl
  · rw [nth_colS L x i hi]
    exact h.zero i x (by omega) hi hx

theorem Rk.map {cl cl' : List Nat → Nat → Prop} (D : Nat → Prop) (f : Nat → Nat) (hc : ∀ l x, (∀ y ∈ l, D y) → D x → (cl l x ↔ cl' (l.map f) (f x))) {l : List Nat} {r : Nat} (h : Rk cl l r) : (∀ y ∈ l, D y) → Rk cl' (l.map f) r := by
  induction h with
  | nil => intro _; exact .nil
  | dep x hx _ ih =>
    intro hD
    exact .dep _ ((hc _ _ (fun y hy => hD y (List.mem_cons.2 (.inr hy))) (hD x (by simp))).1 hx) (ih fun y hy => hD y (List.mem_cons.2 (.inr hy)))
  | ind x hx _ ih =>
    intro hD
    exact .ind _ (fun h => hx ((hc _ _ (fun y hy => hD y (List.mem_cons.2 (.inr hy))) (hD x (by simp))).2 h)) (ih fun y hy => hD y (List.mem_cons.2 (.inr hy)))

/-- the number of the pivots is the rank of the columns -/
theorem piv_rk (F : Fld O El) {L : List (List Int)} (hL : Rws El m L) : Rk (clV O El L.length (colS L)) (List.range m) (elimTo O L m).2.length := by
  obtain ⟨h1, h2, h3⟩ := elim_inv F hL m (Nat.le_refl _)
  have hR := elim_rws F hL m (Nat.le_refl _)
  have hC := col_clo F hR
  have k1 := (h1.ind F _ (Nat.le_refl _)).absorb hC (List.range m) fun x hx => h1.all F hR (List.mem_range.1 hx)
  have k2 := Rk.map (cl' := clV O El L.length (colS L)) (fun y => y < m) id (fun l x hl hx => by rw [List.map_id]; exact ⟨h3.cl hl hx, h2.cl hl hx⟩) k1 fun y hy => by
    rcases List.mem_append.1 hy with hy | hy
    · exact List.mem_range.1 hy
    · obtain ⟨j, hj, rfl⟩ := (mem_grL _ _ _).1 hy
      have := h1.lt j hj
      omega
  obtain ⟨r, hr⟩ := Rk.ex (clV O El L.length (colS L)) (List.range m)
  have e := Rk.same (col_clo F hL) k2 hr fun x => by
    rw [List.map_id, List.mem_append]
    constructor
    · rintro (h | h)
      · exact h
      · obtain ⟨j, hj, rfl⟩ := (mem_grL _ _ _).1 h
        have := h1.lt j hj
        exact List.mem_range.2 (by omega)
    · exact .inl
  rw [e]; exact hr

/-- the entries at the positions Q -/
def pickL (Q : List Int) (r : List Int) : List Int := Q.map fun q => nth r q.toNat
theorem nth_pickL (Q r : List Int) {i : Nat} (hi : i < Q.length) : nth (pickL Q r) i = nth r (nth Q i).toNat := by
  rw [nth_getElem (show i < (pickL Q r).length by simpa [pickL] using hi), nth_getElem hi]; simp [pickL]
theorem pick_rws {L : List (List Int)} (hL : Rws El n L) {Q : List Int} (hQ : ∀ j, j < Q.length → 0 ≤ nth Q j ∧ nth Q j < n) : Rws El Q.length (L.map (pickL Q)) := by
  intro r hr
  obtain ⟨r0, h0, rfl⟩ := List.mem_map.1 hr
  refine ⟨by simp [pickL], fun x hx => ?_⟩
  obtain ⟨q, hq, rfl⟩ := List.mem_map.1 hx
  obtain ⟨j, hj, rfl⟩ := List.mem_iff_getElem.1 hq
  have := hQ j hj
  rw [nth_getElem hj] at this
  exact (hL r0 h0).2 _ (nth_mem (by rw [(hL r0 h0).1]; omega))
theorem pick_rk (F : Fld O El) {L : List (List Int)} (hL : Rws El n L) {Q : List Int} (hQ : ∀ j, j < Q.length → 0 ≤ nth Q j ∧ nth Q j < n) :
    Rk (clV O El L.length (colS L)) ((List.range Q.length).map fun j => (nth Q j).toNat) (elimTo O (L.map (pickL Q)) Q.length).2.length := by
  have hR := pick_rws hL hQ
  have hcol : ∀ j, j < Q.length → colS (L.map (pickL Q)) j = colS L (nth Q j).toNat := fun j hj => by
    unfold colS
    rw [List.map_map]
    exact List.map_congr_left fun r _ => nth_pickL Q r hj
  refine Rk.map (fun j => j < Q.length) _ (fun l x hl hx => ?_) (piv_rk F hR) fun y hy => List.mem_range.1 hy
  unfold clV
  rw [List.length_map]
  constructor
  · intro h φ hφ h0
    rw [← hcol x hx]
    refine h φ hφ fun y hy => ?_
    rw [hcol y (hl y hy)]
    exact h0 _ (List.mem_map.2 ⟨y, hy, rfl⟩)
  · intro h φ hφ h0
    rw [hcol x hx]
    refine h φ hφ fun y hy => ?_
    obtain ⟨j, hj, rfl⟩ := List.mem_map.1 hy
    rw [← hcol j (hl j hj)]
    exact h0 j hj
end
end

/- The walks of the reference of layer 48: Pick, rank, Others. -/
section
open Go.RowKit

/-- positions within n -/
def InN (n : Nat) (Q : List Int) : Prop := ∀ j, j < Q.length → 0 ≤ nth Q j ∧ nth Q j < n

set_option maxRecDepth 100000 in
set_option maxHeartbeats 1600000 in
theorem rPick_any (av : Option Addr) (nv cv : Nat) (v : List Int) (ao : Option Addr) (no co : Nat) (Q : List Int) (w : World) (hv : Ints w av nv v) (hq : Ints w ao no Q) (hQ : InN nv Q) (hno : no ≤ 1000000) :
    Calls Tryz.prog 23 #[.slice av nv cv, .slice ao no co] w (NewInts w (pickL Q v)) := by
  have Hql := Lib.hid hq.len
  have hplq := hq.pl
  have hplv := hv.pl
  have hmq := hq.max
  have hmv := hv.max
  have HQ := Lib.hid hQ
  have hpk : (pickL Q v).length = no := by rw [pickL, List.length_map]; exact Hql.out
  have Hpk := Lib.hid hpk
  unfold maxLen at hmq hmv
  clear hQ hpk
  go_enter Tryz.func23, Tryz.ntmps23
  go_wp2_with (at_make; refine wpList_mk rfl _ _ 22 3 rfl (.int .i64 0) 8 Tryz.underlying22 infoInt rfl no rfl rfl (by omega) (hq.max) ?_; intro a1 w1 hown hbel hge hlt)
  go_loopw [6] (fun iv wr => ∃ k : Nat, k ≤ no ∧ iv = .int .i64 k ∧
      wr.ownsRow w.heap.size 3 1 (.slice a1 no no) no ((fillTo ((pickL Q v).take k) k no).map (Value.int .i64)) ∧ Below w.heap.size w wr)
    (fun i _ => no - (intOf i).toNat)
  case atStart => exact ⟨0, Nat.zero_le _, rfl, by simpa [fillTo] using hown, hbel⟩
  case round =>
    clear hown hbel
    obtain ⟨k, hk, rfl, hown, hbel⟩ := hrel
    obtain ⟨hints, hmine⟩ := Ints.own hown
    have hpl1 := hints.pl
    by_cases hlt : k < no
    · have cq := (hq.keep hbel).cell k hlt
      have hb := HQ.out k (by rw [Hql.out]; exact hlt)
      obtain ⟨z, hz⟩ : ∃ z : Nat, nth Q k = z := ⟨(nth Q k).toNat, by omega⟩
      have hzn : z < nv := by omega
      have cz := (hv.keep hbel).cell z hzn
      have hf := (hmine (by omega)).2 k hlt
      have hc2 := hints.cell k hlt
      have hB := (hmine (by omega)).1
      have Hv : Hid (nth (pickL Q v) k = nth v z) := by show _ = _; rw [nth_pickL Q v (by rw [Hql.out]; exact hlt), hz, Int.toNat_natCast]
      rw [hz] at cq
      clear hz hb
      go_wp2_with fail
      go_roundw
      case rel =>
        refine ⟨k + 1, by omega, by go_num, ?_, hbel.setCell hB _⟩
        have h := own_set hown k hlt (.int .i64 (nth v z))
        rw [← List.map_set, fillTo_set _ _ _ _ (by rw [List.length_take, Hpk.out]; omega) hlt] at h
        rw [List.take_succ_eq_append_getElem (by rw [Hpk.out]; omega), ← nth_getElem, Hv.out]
        exact h
      case measure => simp [intOf] <;> omega
    · obtain rfl : k = no := by omega
      have hfin : fillTo ((pickL Q v).take k) k k = pickL Q v := by rw [fillTo_all, List.take_of_length_le (by rw [Hpk.out]; exact Nat.le_refl _)]
      rw [hfin] at hown
      clear hfin
      go_wp2_with fail
      go_ret
      exact ⟨a1, k, by rw [Hpk.out]; rfl, by rw [Hpk.out]; exact hown, hbel⟩

theorem OMat.lit (w : World) {B : Nat} (hB : B ≤ w.heap.size) : OMat (w.alloc (.cells #[] 22)) B (some ⟨w.heap.size, 0, none⟩) 0 0 [] [] :=
  ⟨rfl, rfl, own_mono (own_emp w 22) hB, fun i hi => by omega, fun i hi => by omega, fun i j hi => by omega⟩
theorem nthR_map (f : List Int → List Int) (L : List (List Int)) {k : Nat} (hk : k < L.length) : nthR (L.map f) k = f (nthR L k) := by
  rw [nthR_getElem (by simpa using hk), nthR_getElem hk]; simp

/-- the number of independent columns at the positions of Q, as the program counts them -/
theorem pick_gr {P M : Int} {mod : List Int} {N : Nat} {L : List (List Int)} (hE : codeE P M mod N L = 0) {Q : List Int} (hQ : InN N Q) :
    (elimTo (rops P M.toNat mod) (L.map (pickL Q)) Q.length).2.length = (grS (tblOf P M.toNat mod).ops L (bitsTo (maskS Q) N)).length := by
  obtain ⟨n', e, _, hn, F, hR⟩ := codeE_fld hE
  obtain rfl : N = n' := by omega
  obtain ⟨k, rfl, he, _, hF, hA, _⟩ := eq_ops (codeE_zero hE).1
  rw [Int.toNat_natCast] at *
  have hP := pick_rws hR hQ
  have hR2 : Rws (ElP P k) Q.length (L.map (pickL Q)) := by rw [he]; exact hP
  rw [← (elimTo_agr hA hF.cl hR2 _ (Nat.le_refl _)).1]
  refine Rk.same (col_clo F hR) (pick_rk F hR hQ) (grS_rk F hR _) fun x => ?_
  rw [mem_grBits, maskS, maskTo_test Q.length (fun j hj => by have := hQ j hj; omega), List.mem_map]
  constructor
  · rintro ⟨j, hj, rfl⟩
    have hj := List.mem_range.1 hj
    have := hQ j hj
    exact ⟨by omega, j, hj, by omega⟩
  · rintro ⟨_, j, hj, e⟩
    exact ⟨j, List.mem_range.2 hj, by omega⟩

set_option maxRecDepth 100000 in
set_option maxHeartbeats 3200000 in
theorem rRank48_any (P M : Int) (am : Option Addr) (mn cm : Nat) (mod : List Int) (N : Nat) (a : Option Addr) (n c : Nat) (L : List (List Int)) (ao : Option Addr) (no co : Nat) (Q : List Int) (w : World)
    (hmod : Ints w am mn mod) (hi : Mat w a n L) (hE : codeE P M mod N L = 0) (hq : Ints w ao no Q) (hQ : InN N Q) (hno : no ≤ 64) :
    Calls Tryz.prog 105 #[.agg #[.int .i64 P, .int .i64 M, .slice am mn cm, .int .i64 N, .slice a n c], .slice ao no co] w
      fun e w' => e = .returned (.int .i64 (grS (tblOf P M.toNat mod).ops L (bitsTo (maskS Q) N)).length) ∧ Below w.heap.size w w' := by
  have Hql := Lib.hid hq.len
  have Hlen := Lib.hid hi.len
  have hplq := hq.pl
  have hpl := hi.pl
  obtain ⟨N', e, hN1, hN64, F, hR⟩ := codeE_fld hE
  obtain rfl : N = N' := by omega
  have hL256 := (codeE_rws hE).choose_spec.2.2.2.1
  have hn : n ≤ 256 := by rw [← hi.len]; exact hL256
  have hgr := pick_gr hE hQ
  rw [← hgr]
  have hB := (codeE_zero hE).1
  obtain ⟨m, rfl, hel, _, hF, hA, _⟩ := eq_ops hB
  rw [Int.toNat_natCast] at *
  obtain ⟨m', e2, hrf, hmods⟩ := fieldRB_rf (by rw [fieldRB_eq]; exact hB)
  obtain rfl : m = m' := by omega
  have hLl : ∀ r ∈ L, r.length = N := fun r hr => (hR r hr).1
  have HLl := Lib.hid hLl
  have HQ := Lib.hid hQ
  have hP2 : Rws (ElP P m) no (L.map (pickL Q)) := by rw [hel, ← Hql.out]; exact pick_rws hR hQ
  have hinv := hinv_all (P := P) (M := m) (mod := mod) (by rw [fieldRB_eq]; exact hB)
  rw [Int.toNat_natCast] at hinv
  have HC : Hid (∀ V a1 c1, Below w.heap.size w V → Mat V a1 n (L.map (pickL Q)) → Calls Tryz.prog 111 #[.agg #[.int .i64 P, .int .i64 m, .slice am mn cm], .slice a1 n c1, .int .i64 no] V (RCanonPost (rops P m mod) (L.map (pickL Q)) no V)) :=
    fun V a1 c1 hV hM => rCanon_any P m am mn cm mod a1 n c1 no (L.map (pickL Q)) V ⟨hrf, hmods V am mn (hmod.keep hV)⟩ hM hP2 (by omega) (by omega) hinv
  have hpl2 := elimTo_piv (rops P m mod) (L.map (pickL Q)) no
  have Hpl2 := Lib.hid hpl2
  rw [Hql.out]
  clear hE hgr hB hel hF hA hrf hmods hLl hQ hP2 hinv F hR hL256 e2 e hpl2
  obtain ⟨L2, hL2⟩ : ∃ L2, L.map (pickL Q) = L2 := ⟨_, rfl⟩
  have HL2 := Lib.hid hL2
  have hl2 : L2.length = n := by rw [← hL2, List.length_map]; exact Hlen.out
  have Hl2 := Lib.hid hl2
  have HLk : Hid (∀ k, k < n → nthR L2 k = pickL Q (nthR L k)) := fun k hk => by rw [← hL2]; exact nthR_map _ L (by rw [Hlen.out]; exact hk)
  rw [hL2] at HC Hpl2 ⊢
  clear hL2 hl2
  generalize rops P m mod = O at *
  obtain ⟨r, hr⟩ : ∃ r, (elimTo O L2 no).2.length = r := ⟨_, rfl⟩
  have Hr := Lib.hid hr
  rw [hr] at Hpl2 ⊢
  clear hr
  go_enter Tryz.func105, Tryz.ntmps105
  go_wp2_with fail
  obtain ⟨W, hW⟩ : ∃ W : World, W = w.alloc (.cells #[.int .i64 P, .int .i64 m, .slice am mn cm, .int .i64 N, .slice a n c] 27) := ⟨_, rfl⟩
  have hsW : w.heap.size + 1 = W.heap.size := by rw [hW]; simp
  rw [← hW]
  try rw [hsW]
  have hbW : Below w.heap.size w W := by rw [hW]; exact below1 _ _
  have x0 : Box W w.heap.size [.int .i64 P, .int .i64 m, .slice am mn cm, .int .i64 N, .slice a n c] := by rw [hW]; exact Box.new _ _ _ rfl
  have HX := Lib.hid x0
  have hO0 := OMat.lit W (B := W.heap.size) (Nat.le_refl _)
  have hb0 := below1 W (.cells #[] 22)
  have hiW := hi.keep hbW
  have hqW := hq.keep hbW
  clear hW x0 hsW
  go_loopw [5, 6] (fun sv iv wr => ∃ (k : Nat) (a1 : Option Addr) (c1 : Nat), k ≤ n ∧ iv = .int .i64 k ∧ sv = .slice a1 k c1 ∧ (∃ R, OMat wr W.heap.size a1 k c1 R (L2.take k)) ∧ Below W.heap.size W wr) (fun _ iv _ => n - (intOf iv).toNat)
  case atStart => exact ⟨0, _, _, Nat.zero_le _, rfl, rfl, ⟨[], by simpa using hO0⟩, hb0⟩
  case round =>
    clear hO0 hb0
    obtain ⟨k, a1, c1, hk, rfl, rfl, ⟨R, hO⟩, hbr⟩ := hrel
    have xr := HX.out.keep hbr
    have c4 := xr.cell 4 rfl
    by_cases hlt : k < n
    · obtain ⟨ra, rn, rc, hcell, hrow⟩ := (hiW.keep hbr).cell k hlt
      have hkL : k < L.length := by rw [Hlen.out]; exact hlt
      have hrl : rn = N := by rw [← hrow.len, nthR_getElem hkL]; exact HLl.out _ (List.getElem_mem hkL)
      have Htk : Hid (L2.take (k + 1) = L2.take k ++ [pickL Q (nthR L k)]) := by show _ = _; rw [List.take_succ_eq_append_getElem (by rw [Hl2.out]; exact hlt), ← HLk.out k hlt, nthR_getElem (by rw [Hl2.out]; exact hlt)]
      obtain ⟨l, hl⟩ : ∃ l, nthR L k = l := ⟨_, rfl⟩
      rw [hl] at Htk hrow
      have hpk := rPick_any ra rn rc l ao no co Q wr hrow (hqW.keep hbr) (by rw [hrl]; exact HQ.out) (by omega)
      have hsz := hbr.size
      clear hl hrl xr
      go_wp2_with fail
      refine hpk.mono ?_
      rintro e w3 ⟨a3, c3, rfl, hown3, hb3⟩
      have hO3 := hO.keep (Below.next hb3 (below1 w3 (.cells #[.slice a3 (pickL Q l).length c3] 22)))
      have hs3 : W.heap.size ≤ (w3.alloc (.cells #[.slice a3 (pickL Q l).length c3] 22)).heap.size := by have h1 := hb3.size; simp; omega
      clear hpk
      go_wp2_with (at_builtin; refine wpList_push rfl _ _ 25 22 rfl (.slice none 0 0) 24 Tryz.underlying25 infoInts rfl W.heap.size a1 k c1 _ rfl hO3.own ⟨w3.heap.size, 0, none⟩ 1 (.slice a3 (pickL Q l).length c3) rfl (cell_new w3 _ _) rfl (by omega) (by unfold maxLen; omega) hs3 ?_; intro a5 c5 w5 hown5 hgr5 hap5)
      go_roundw
      case rel =>
        have hb4 : Below wr.heap.size wr (w3.alloc (.cells #[.slice a3 (pickL Q l).length c3] 22)) := Below.next hb3 (below1 _ _)
        have hown4 : (w3.alloc (.cells #[.slice a3 (pickL Q l).length c3] 22)).ownsRow W.heap.size 3 1 (.slice a3 (pickL Q l).length c3) (pickL Q l).length ((pickL Q l).map (Value.int .i64)) :=
          own_mono (own_keep hown3 (below1 _ _)) hsz
        have hra : a3 ≠ none → ¬ OIn a1 R (ablk a3) := fun h0 hI => by
          have h1 := (own_ne hown3 h0).1
          have h2 := (hO.lt _ hI).2
          omega
        have hP := OMat.push hO3 hown4 hra hown5 hgr5 hap5
        have hb5 : Below W.heap.size W w5 := Below.app (Below.next hbr hb4) hO3.own hgr5 (Nat.le_refl _) (Nat.le_trans hsz hb4.size)
        exact ⟨k + 1, a5, c5, by omega, by go_num, rfl, ⟨_, by rw [Htk.out]; exact hP⟩, hb5⟩
      case measure => simp [intOf] <;> omega
    · obtain rfl : k = n := by omega
      rw [List.take_of_length_le (by rw [Hl2.out]; exact Nat.le_refl _)] at hO
      have c0 := xr.cell 0 rfl
      have c1' := xr.cell 1 rfl
      have c2 := xr.cell 2 rfl
      have Hcc := Lib.hid (HC.out wr a1 c1 (Below.next hbW hbr) hO.mat)
      have hbwr := Below.next hbW hbr
      clear HC xr hO
      go_wp2_with fail
      refine Hcc.out.mono ?_
      rintro e w4 ⟨a4, c4', ap, cp, rfl, hM4, hp4, hb4⟩
      have hF := Below.next hbwr hb4
      have hle := Hpl2.out.1
      rw [Hr.out]
      clear hM4 hp4 Hcc Hpl2 Hr
      go_wp2_with fail
      go_ret
      exact ⟨rfl, hF⟩
end

/- The walks of the reference of layer 48: Others, Of, Dimension. -/
section
open Go.RowKit

/-- the bits below n -/
def bL (n x : Nat) : List Bool := (List.range n).map fun p => x.testBit p
theorem bL_length (n x : Nat) : (bL n x).length = n := by simp [bL]
theorem nthB_bL {n x i : Nat} (hi : i < n) : nthB (bL n x) i = x.testBit i := by
  rw [nthB_getElem (by rw [bL_length]; exact hi)]; simp [bL]
theorem bL_zero (n : Nat) : List.replicate n (Value.bool false) = (bL n 0).map Value.bool := by
  refine List.ext_getElem (by simp [bL]) fun i h1 h2 => ?_
  simp [bL]
theorem bL_set (n x z : Nat) : (bL n x).set z true = bL n (x ||| 2 ^ z) := by
  refine List.ext_getElem (by simp [bL]) fun i h1 h2 => ?_
  rw [List.getElem_set]
  simp only [bL, List.getElem_map, List.getElem_range, Nat.testBit_or, Nat.testBit_two_pow]
  by_cases h : z = i
  · simp [h]
  · simp [h]
theorem InN.bd {n : Nat} {Q : List Int} (h : InN n Q) (hn : n ≤ 64) {k : Nat} (hk : k ≤ Q.length) : ∀ j, j < k → 0 ≤ nth Q j ∧ nth Q j < 64 := fun j hj => by
  have := h j (by omega)
  omega
theorem InN.of_set {n : Nat} {Q : List Int} (h : okSet n Q = true) : InN n Q := fun j hj => by
  have := okSet_at h hj
  omega
theorem InN.bits (x n : Nat) : InN n (bitsTo x n) := fun j hj => nth_bits_lt x n j hj
theorem InN.mask {n : Nat} {Q : List Int} (h : InN n Q) (hn : n ≤ 64) : maskS Q < 18446744073709551616 := maskTo_lt _ (h.bd hn (Nat.le_refl _))

set_option maxRecDepth 100000 in
set_option maxHeartbeats 3200000 in
theorem rOthers_any (n : Nat) (ao : Option Addr) (no co : Nat) (Q : List Int) (w : World) (hq : Ints w ao no Q) (hQ : InN n Q) (hn1 : 1 ≤ n) (hn : n ≤ 64) :
    Calls Tryz.prog 106 #[.int .i64 n, .slice ao no co] w (NewInts w (bitsTo (cplU (maskS Q)) n)) := by
  have Hql := Lib.hid hq.len
  have hplq := hq.pl
  have hmq := hq.max
  have HQ := Lib.hid hQ
  unfold maxLen at hmq
  clear hQ
  go_enter Tryz.func106, Tryz.ntmps106
  go_wp2_with (at_make; refine wpList_mk rfl _ _ 58 4 rfl (.bool false) 1 Tryz.underlying58 infoBool rfl n rfl rfl (by omega) (by unfold maxLen; omega) ?_; intro a7 w1 hown hbel hge hlt)
  rw [bL_zero] at hown
  go_loopw [6] (fun iv wr => ∃ k : Nat, k ≤ no ∧ iv = .int .i64 k ∧ wr.ownsRow w.heap.size 4 1 (.slice a7 n n) n ((bL n (maskTo Q k)).map Value.bool) ∧ Below w.heap.size w wr)
    (fun iv _ => no - (intOf iv).toNat)
  case atStart => exact ⟨0, Nat.zero_le _, rfl, hown, hbel⟩
  case round =>
    clear hown hbel
    obtain ⟨k, hk, rfl, hop, hbr⟩ := hrel
    obtain ⟨hbl, hmine⟩ := Bools.own hop
    have hpl7 := hbl.pl
    by_cases hlt : k < no
    · have cq := (hq.keep hbr).cell k hlt
      have hbd := HQ.out k (by rw [Hql.out]; exact hlt)
      obtain ⟨z, hz⟩ : ∃ z : Nat, nth Q k = z := ⟨(nth Q k).toNat, by omega⟩
      have hzm : z < n := by omega
      have ct := hbl.cell z hzm
      have ft := (hmine (by omega)).2 z hzm
      have hB := (hmine (by omega)).1
      have Hst : Hid (maskTo Q (k + 1) = maskTo Q k ||| 2 ^ z) := by show _ = _; rw [maskTo, hz, Int.toNat_natCast]
      rw [hz] at cq
      clear hz hbd
      go_wp2_with fail
      go_roundw
      case rel =>
        refine ⟨k + 1, by omega, by go_num, ?_, hbr.setCell hB _⟩
        have h1 := own_set hop z hzm (.bool true)
        rw [← List.map_set, bL_set, ← Hst.out] at h1
        exact h1
      case measure => simp [intOf] <;> omega
    · obtain rfl : k = no := by omega
      obtain ⟨X, hX⟩ : ∃ X, maskTo Q k = X := ⟨_, rfl⟩
      have HX : Hid (maskS Q = X) := by show _ = _; rw [maskS, Hql.out, hX]
      rw [hX] at hbl
      obtain ⟨Y, hY⟩ : ∃ Y, cplU X = Y := ⟨_, rfl⟩
      have HY : Hid (∀ i, i < n → Y.testBit i = !X.testBit i) := fun i hi => by rw [← hY]; exact cplU_test _ _ (by omega)
      have HYS : Hid (cplU (maskS Q) = Y) := by show _ = _; rw [HX.out, hY]
      clear hX hop hmine hY
      go_wp2_with fail
      generalize wr = U at *
      go_loopw [7, 8] (fun sv iv wr => ∃ (j : Nat) (aq : Option Addr) (cq : Nat), j ≤ n ∧ iv = .int .i64 j ∧ sv = .slice aq (bitsTo Y j).length cq ∧ wr.ownsRow U.heap.size 3 1 (.slice aq (bitsTo Y j).length cq) (bitsTo Y j).length ((bitsTo Y j).map (Value.int .i64)) ∧ Below U.heap.size U wr)
        (fun _ iv _ => n - (intOf iv).toNat)
      case atStart => exact ⟨0, _, _, Nat.zero_le _, rfl, rfl, by simpa [bitsTo] using own_mk U 3 (.int .i64 0) 0 (Nat.le_refl _) (by unfold maxLen; omega), below1 _ _⟩
      case round =>
        obtain ⟨j, aq, cq, hj, rfl, rfl, hop, hbr2⟩ := hrel
        have hlen := bitsTo_len Y j
        by_cases hlt2 : j < n
        · have cj := (hbl.keep hbr2).cell j hlt2
          rw [nthB_bL hlt2] at cj
          have hty := HY.out j hlt2
          by_cases ht : X.testBit j = true
          · rw [ht] at cj hty
            have hb : Hid (bitsTo Y (j + 1) = bitsTo Y j) := by show _ = _; rw [bitsTo, if_neg (by rw [hty]; simp)]
            clear ht hty
            generalize bitsTo Y j = out at *
            go_wp2_with fail
            go_roundw
            case rel => exact ⟨j + 1, aq, cq, by omega, by go_num, by rw [hb.out], by rw [hb.out]; exact hop, hbr2⟩
            case measure => simp [intOf] <;> omega
          · have ht' : X.testBit j = false := by simpa using ht
            rw [ht'] at cj hty
            have hb : Hid (bitsTo Y (j + 1) = bitsTo Y j ++ [(j : Int)]) := by show _ = _; rw [bitsTo, if_pos (by rw [hty]; rfl)]
            clear ht ht' hty
            generalize bitsTo Y j = out at *
            have hcn := cell_new wr (.int .i64 j) 3
            have hbn := below1 wr (.cells #[.int .i64 j] 3)
            have hsz := hbr2.size
            go_wp2_with (at_builtin; refine wpList_push rfl _ _ 22 3 rfl (.int .i64 0) 8 Tryz.underlying22 infoInt rfl U.heap.size aq out.length cq _ rfl (hop.alloc _) ⟨wr.heap.size, 0, none⟩ 1 (.int .i64 j) rfl hcn rfl (by omega) (by unfold maxLen; omega) (by simp; omega) ?_; intro a5 c5 w5 hown5 hgr5 hap5)
            go_roundw
            case rel =>
              refine ⟨j + 1, a5, c5, by omega, by go_num, by rw [hb.out]; simp, ?_, Below.app (Below.trans hbr2 (hbn.mono hsz)) (hop.alloc _) hgr5 (Nat.le_refl _) (Nat.le_trans hsz hbn.size)⟩
              rw [hb.out]; simpa using hown5
            case measure => simp [intOf] <;> omega
        · obtain rfl : j = n := by omega
          have hF : NewInts w (bitsTo (cplU (maskS Q)) j) (.returned (.slice aq (bitsTo Y j).length cq)) wr := by rw [HYS.out]; exact ⟨aq, cq, rfl, own_mono hop hbr.size, Below.next hbr hbr2⟩
          have HF := Lib.hid hF
          clear hF hop HX HY HYS
          generalize bitsTo Y j = out at *
          go_wp2_with fail
          go_ret
          exact HF.out

theorem bitsTo_congr {x y : Nat} : ∀ k, (∀ i, i < k → x.testBit i = y.testBit i) → bitsTo x k = bitsTo y k
  | 0, _ => rfl
  | k + 1, h => by
    rw [bitsTo, bitsTo, bitsTo_congr k fun i hi => h i (by omega), h k (by omega)]
theorem bitsTo_mask (x n : Nat) (hn : n ≤ 64) : bitsTo (maskS (bitsTo x n)) n = bitsTo x n :=
  bitsTo_congr n fun i hi => by
    rw [Bool.eq_iff_iff, maskS_bits x n hn]
    exact ⟨fun h => h.2, fun h => ⟨hi, h⟩⟩

set_option maxRecDepth 100000 in
set_option maxHeartbeats 4000000 in
theorem rOf_any (P M : Int) (am : Option Addr) (mn cm : Nat) (mod : List Int) (N : Nat) (a : Option Addr) (n c : Nat) (L : List (List Int)) (ao : Option Addr) (no co : Nat) (Q : List Int) (w : World)
    (hmod : Ints w am mn mod) (hi : Mat w a n L) (hE : codeE P M mod N L = 0) (hq : Ints w ao no Q) (hQ : InN N Q) (hno : no ≤ 64) :
    Calls Tryz.prog 60 #[.agg #[.int .i64 P, .int .i64 M, .slice am mn cm, .int .i64 N, .slice a n c], .slice ao no co] w
      fun e w' => e = .returned (.int .i64 (dimS (tblOf P M.toNat mod).ops L N (maskS Q))) ∧ Below w.heap.size w w' := by
  obtain ⟨N', e, hN1, hN64, _⟩ := codeE_fld hE
  obtain rfl : N = N' := by omega
  have hL256 := (codeE_rws hE).choose_spec.2.2.2.1
  have hn : n ≤ 256 := by rw [← hi.len]; exact hL256
  have hd : dimS (tblOf P M.toNat mod).ops L N (maskS Q) = (grS (tblOf P M.toNat mod).ops L (bitsTo (maskS Q) N)).length + (grS (tblOf P M.toNat mod).ops L (bitsTo (maskS (bitsTo (cplU (maskS Q)) N)) N)).length - n := by
    rw [dimS, hi.len, bitsTo_mask _ _ hN64]
  have hl1 := grS_len (tblOf P M.toNat mod).ops L (bitsTo (maskS Q) N)
  have hl2 := grS_len (tblOf P M.toNat mod).ops L (bitsTo (maskS (bitsTo (cplU (maskS Q)) N)) N)
  have hl3 := bitsTo_len (maskS Q) N
  have hl4 := bitsTo_len (maskS (bitsTo (cplU (maskS Q)) N)) N
  have hl5 := bitsTo_len (cplU (maskS Q)) N
  have hc1 : ∀ V, Below w.heap.size w V → Calls Tryz.prog 105 #[.agg #[.int .i64 P, .int .i64 M, .slice am mn cm, .int .i64 N, .slice a n c], .slice ao no co] V
      fun e w' => e = .returned (.int .i64 (grS (tblOf P M.toNat mod).ops L (bitsTo (maskS Q) N)).length) ∧ Below V.heap.size V w' := fun V hV =>
    rRank48_any P M am mn cm mod N a n c L ao no co Q V (hmod.keep hV) (hi.keep hV) hE (hq.keep hV) hQ hno
  have hco : ∀ V, Below w.heap.size w V → Calls Tryz.prog 106 #[.int .i64 N, .slice ao no co] V (NewInts V (bitsTo (cplU (maskS Q)) N)) := fun V hV =>
    rOthers_any N ao no co Q V (hq.keep hV) hQ hN1 hN64
  have hc2 : ∀ V a6 c6, Below w.heap.size w V → V.ownsRow 0 3 1 (.slice a6 (bitsTo (cplU (maskS Q)) N).length c6) (bitsTo (cplU (maskS Q)) N).length ((bitsTo (cplU (maskS Q)) N).map (Value.int .i64)) →
      ∀ V2, Below V.heap.size V V2 → Calls Tryz.prog 105 #[.agg #[.int .i64 P, .int .i64 M, .slice am mn cm, .int .i64 N, .slice a n c], .slice a6 (bitsTo (cplU (maskS Q)) N).length c6] V2
        fun e w' => e = .returned (.int .i64 (grS (tblOf P M.toNat mod).ops L (bitsTo (maskS (bitsTo (cplU (maskS Q)) N)) N)).length) ∧ Below V2.heap.size V2 w' := fun V a6 c6 hV ho V2 hV2 =>
    rRank48_any P M am mn cm mod N a n c L a6 _ c6 _ V2 (hmod.keep (Below.next hV hV2)) (hi.keep (Below.next hV hV2)) hE ((Ints.own ho).1.keep hV2) (InN.bits _ _) (Nat.le_trans hl5 hN64)
  have Hc1 := Lib.hid hc1
  have Hco := Lib.hid hco
  have Hc2 := Lib.hid hc2
  have Hd := Lib.hid hd
  clear hc1 hco hc2 hd hE hQ hL256 hl5 e
  generalize (grS (tblOf P M.toNat mod).ops L (bitsTo (maskS Q) N)).length = r1 at *
  generalize (grS (tblOf P M.toNat mod).ops L (bitsTo (maskS (bitsTo (cplU (maskS Q)) N)) N)).length = r2 at *
  have k1 : IntKind.i64.wrap ((r1 : Int) + r2) = (r1 : Int) + r2 := IntWalk.i64_in _ (by omega)
  have k2 : IntKind.i64.wrap ((r1 : Int) + r2 - n) = (r1 : Int) + r2 - n := IntWalk.i64_in _ (by omega)
  clear hl1 hl2 hl3 hl4
  go_enter Tryz.func60, Tryz.ntmps60
  go_wp2_with fail
  obtain ⟨W, hW⟩ : ∃ W : World, W = w.alloc (.cells #[.int .i64 P, .int .i64 M, .slice am mn cm, .int .i64 N, .slice a n c] 27) := ⟨_, rfl⟩
  rw [← hW]
  have hbW : Below w.heap.size w W := by rw [hW]; exact below1 _ _
  have x0 : Box W w.heap.size [.int .i64 P, .int .i64 M, .slice am mn cm, .int .i64 N, .slice a n c] := by rw [hW]; exact Box.new _ _ _ rfl
  have HX := Lib.hid x0
  clear hW x0
  have hS : ∀ V, Below W.heap.size W V → V.cell? ⟨w.heap.size, 0, none⟩ = some (.int .i64 P) ∧ V.cell? ⟨w.heap.size, 1, none⟩ = some (.int .i64 M) ∧ V.cell? ⟨w.heap.size, 2, none⟩ = some (.slice am mn cm) ∧ V.cell? ⟨w.heap.size, 3, none⟩ = some (.int .i64 N) ∧ V.cell? ⟨w.heap.size, 4, none⟩ = some (.slice a n c) ∧ Below W.heap.size W V := by
    intro V hV
    have x1 := HX.out.keep hV
    exact ⟨x1.cell 0 rfl, x1.cell 1 rfl, x1.cell 2 rfl, x1.cell 3 rfl, x1.cell 4 rfl, hV⟩
  have HS := Lib.hid hS
  have HbW := Lib.hid hbW
  clear hS hbW
  go_region_held3 (fun V => V.cell? ⟨w.heap.size, 0, none⟩ = some (.int .i64 P) ∧ V.cell? ⟨w.heap.size, 1, none⟩ = some (.int .i64 M) ∧ V.cell? ⟨w.heap.size, 2, none⟩ = some (.slice am mn cm) ∧ V.cell? ⟨w.heap.size, 3, none⟩ = some (.int .i64 N) ∧ V.cell? ⟨w.heap.size, 4, none⟩ = some (.slice a n c) ∧ Below W.heap.size W V)
    ((refine HS.out _ ?_; first | exact (Below.refl _ _).drew | (go_split_ands; exact Below.next (by assumption) (by assumption))))
    (first
      | (go_at_call 105; ((with_reducible refine (Hc1.out _ (Below.next HbW.out (by go_split_ands; assumption))).mono ?_); rintro e w4 ⟨rfl, hb4⟩))
      | (go_at_call 106; ((with_reducible refine (Hco.out _ (Below.next HbW.out (by go_split_ands; assumption))).mono ?_); rintro e w6 ⟨a6, c6, rfl, hown6, hb6⟩; have hb7 : Below W.heap.size W w6 := (by go_split_ands; exact Below.next (by assumption) hb6); have Hr2 := Lib.hid (Hc2.out w6 a6 c6 (Below.next HbW.out hb7) (own_mono hown6 (Nat.zero_le _))); clear hown6))
      | (go_at_call 105; ((with_reducible refine (Hr2.out _ (by first | exact Below.refl _ _ | exact hb4)).mono ?_); rintro e w8 ⟨rfl, hb8⟩)))
  all_goals (
    clear k1 k2
    go_wp2_with fail
    go_ret
    exact ⟨ret_int Hd.out.symm, Below.next HbW.out (by go_split_ands; assumption)⟩)
end

/- What Dimension answers; bounds of dimensions (plain law). -/
section
open Go.RowKit

/-- what Dimension answers -/
def dimV (P M : Int) (mod : List Int) (N : Int) (L : List (List Int)) (Q : List Int) : Int × Int :=
  if codeE P M mod N L = 0 then (if okSet N Q = true then (dimS (tblOf P M.toNat mod).ops L N.toNat (maskS Q), 0) else (0, 5)) else (0, codeE P M mod N L)
theorem DimPost.val {P M : Int} {mod : List Int} {N : Int} {L : List (List Int)} {Q : List Int} {w : World} {e : Ending} {w' : World} (h : DimPost P M mod N L Q w e w') :
    e = .returned (.tuple #[.int .i64 (dimV P M mod N L Q).1, .int .i64 (dimV P M mod N L Q).2]) ∧ Below w.heap.size w w' := by
  obtain ⟨hb, h⟩ := h
  refine ⟨?_, hb⟩
  unfold dimV
  rcases h with ⟨h1, rfl⟩ | ⟨h1, h2, rfl⟩ | ⟨h1, h2, rfl⟩
  · rw [if_neg h1]
  · rw [if_pos h1, if_neg (by rw [h2]; decide)]
  · rw [if_pos h1, if_pos h2]
theorem dimV_ok {P M : Int} {mod : List Int} {N : Int} {L : List (List Int)} {Q : List Int} (h : (dimV P M mod N L Q).2 = 0) : codeE P M mod N L = 0 ∧ okSet N Q = true ∧ (dimV P M mod N L Q).1 = dimS (tblOf P M.toNat mod).ops L N.toNat (maskS Q) := by
  unfold dimV at h ⊢
  split at h
  · rename_i h1
    split at h
    · rename_i h2; rw [if_pos h1, if_pos h2]; exact ⟨h1, h2, rfl⟩
    · exact absurd h (by show ¬ (5 : Int) = 0; omega)
  · rename_i h1; exact absurd h h1

theorem bits_parts (x : Nat) : ∀ k, k ≤ 64 → (bitsTo x k).length + (bitsTo (cplU x) k).length = k
  | 0, _ => rfl
  | k + 1, hk => by
    have ih := bits_parts x k (by omega)
    have hc := cplU_test x k (by omega)
    rw [bitsTo, bitsTo, hc]
    cases hx : x.testBit k <;> simp <;> omega

theorem gr_rows {P M : Int} {mod : List Int} {N : Nat} {L : List (List Int)} (hE : codeE P M mod N L = 0) (x : Nat) : (grS (tblOf P M.toNat mod).ops L (bitsTo x N)).length ≤ L.length := by
  obtain ⟨n', e, _, hn, _⟩ := codeE_fld hE
  obtain rfl : N = n' := by omega
  rw [← bitsTo_mask x N hn, ← pick_gr hE (InN.bits x N)]
  have := (elimTo_piv (rops P M.toNat mod) (L.map (pickL (bitsTo x N))) (bitsTo x N).length).2
  rwa [List.length_map] at this

theorem dim_law {P M : Int} {mod : List Int} {N : Nat} {L : List (List Int)} (hE : codeE P M mod N L = 0) (x : Nat) :
    dimS (tblOf P M.toNat mod).ops L N (maskS (bitsTo (cplU x) N)) = dimS (tblOf P M.toNat mod).ops L N x ∧ dimS (tblOf P M.toNat mod).ops L N x ≤ L.length ∧ dimS (tblOf P M.toNat mod).ops L N x ≤ (N : Int) - L.length := by
  obtain ⟨n', e, _, hn, _⟩ := codeE_fld hE
  obtain rfl : N = n' := by omega
  have h1 := gr_rows hE x
  have h2 := gr_rows hE (cplU x)
  have h3 := grS_len (tblOf P M.toNat mod).ops L (bitsTo x N)
  have h4 := grS_len (tblOf P M.toNat mod).ops L (bitsTo (cplU x) N)
  have h5 := bits_parts x N hn
  have e2 : bitsTo (cplU (maskS (bitsTo (cplU x) N))) N = bitsTo x N := bitsTo_congr N fun i hi => by
    rw [cplU_test _ _ (by omega), Bool.eq_iff_iff]
    have := maskS_bits (cplU x) N hn i
    rw [cplU_test _ _ (by omega)] at this
    cases hx : x.testBit i <;> cases hm : (maskS (bitsTo (cplU x) N)).testBit i <;> simp_all
  refine ⟨?_, ?_, ?_⟩
  · unfold dimS; rw [bitsTo_mask _ _ hn, e2]; omega
  · unfold dimS; omega
  · unfold dimS; omega
end

end Go.Proofs.YtakmnncmeefceaaGreat
