/- Ranks of a code and of the code that is orthogonal to it. -/
import Derived.Test.YtapjcccpokhhhaaG10
namespace Go.Proofs.Ytapjcccpokhhhaa
set_option linter.unusedVariables false
set_option linter.unusedSimpArgs false
set_option linter.unusedSectionVars false

/- Gauss-Jordan elimination counts the rank of the columns. -/
section
section
variable {O : FOps} {El : Int → Prop} {m n : Nat}

theorem Lin.smul (F : Fld O El) {φ : List Int → Int} (h : Lin O El n φ) {s : Int} (hs : El s) : Lin O El n (fun v => O.mul s (φ v)) :=
  ⟨fun v hv => F.cl.mul _ _ hs (h.el v hv),
   fun v r x hv hr hx => by
    show O.mul s (φ (subRow O v x r)) = O.add (O.mul s (φ v)) (O.neg (O.mul x (O.mul s (φ r))))
    have h1 := h.el v hv
    have h2 := h.el r hr
    rw [h.sub v r x hv hr hx, F.mul_add s _ _ hs h1 (F.cl.neg _ (F.cl.mul _ _ hx h2)), F.mul_neg hs (F.cl.mul _ _ hx h2), ← F.mul_assoc s x _ hs hx h2, F.mul_comm s x hs hx, F.mul_assoc x s _ hx hs h2],
   fun r x hr hx => by
    show O.mul s (φ (r.map (O.mul x))) = O.mul x (O.mul s (φ r))
    have h2 := h.el r hr
    rw [h.scl r x hr hx, ← F.mul_assoc s x _ hs hx h2, F.mul_comm s x hs hx, F.mul_assoc x s _ hx hs h2]⟩

theorem nth_mapRange (g : Nat → Int) (k i : Nat) (hi : i < k) : nth ((List.range k).map g) i = g i := by
  rw [nth_getElem (by simpa using hi)]; simp
theorem Lin.vec {k : Nat} {e : List Int → Int} (he : Lin O El k e) (g : Nat → List Int → Int) (hg : ∀ i, i < k → Lin O El n (g i)) : Lin O El n (fun v => e ((List.range k).map fun i => g i v)) := by
  have hv' : ∀ v, Vc El n v → Vc El k ((List.range k).map fun i => g i v) := fun v hv => ⟨by simp, fun y hy => by
    obtain ⟨i, hi, rfl⟩ := List.mem_map.1 hy
    exact (hg i (List.mem_range.1 hi)).el v hv⟩
  refine ⟨fun v hv => he.el _ (hv' v hv), fun v r x hv hr hx => ?_, fun r x hr hx => ?_⟩
  · show e _ = _
    rw [← he.sub _ _ x (hv' v hv) (hv' r hr) hx]
    congr 1
    refine nth_ext (by rw [subRow_length _ _ _ _ (by simp)]; simp) fun i hi => ?_
    have hi' : i < k := by simpa using hi
    rw [nth_subRow O _ x _ i (by simp) (by simpa using hi'), nth_mapRange _ _ _ hi', nth_mapRange _ _ _ hi', nth_mapRange _ _ _ hi']
    exact (hg i hi').sub v r x hv hr hx
  · show e _ = _
    rw [← he.scl _ x (hv' r hr) hx]
    congr 1
    refine nth_ext (by simp) fun i hi => ?_
    have hi' : i < k := by simpa using hi
    rw [nth_scl O _ x (by simpa using hi'), nth_mapRange _ _ _ hi', nth_mapRange _ _ _ hi']
    exact (hg i hi').scl r x hr hx

/-- the functions of the row space of L, on the first m columns -/
def RS (O : FOps) (El : Int → Prop) (m : Nat) (L : List (List Int)) (f : Nat → Int) : Prop := ∃ e, Lin O El L.length e ∧ ∀ x, x < m → f x = e (colS L x)
theorem RS.row (F : Fld O El) {L : List (List Int)} {i : Nat} (hi : i < L.length) : RS O El m L (fun x => nth (nthR L i) x) :=
  ⟨fun v => nth v i, Lin.coord F hi, fun x _ => (nth_colS L x i hi).symm⟩
theorem RS.comb (F : Fld O El) {L : List (List Int)} {f g : Nat → Int} (hf : RS O El m L f) (hg : RS O El m L g) {s : Int} (hs : El s) : RS O El m L (fun x => O.add (f x) (O.neg (O.mul (g x) s))) := by
  obtain ⟨a, ha, ha2⟩ := hf
  obtain ⟨b, hb, hb2⟩ := hg
  exact ⟨_, ha.comb F hb hs, fun x hx => by show O.add (f x) _ = _; rw [ha2 x hx, hb2 x hx]⟩
theorem RS.smul (F : Fld O El) {L : List (List Int)} {f : Nat → Int} (hf : RS O El m L f) {s : Int} (hs : El s) : RS O El m L (fun x => O.mul s (f x)) := by
  obtain ⟨a, ha, ha2⟩ := hf
  exact ⟨_, ha.smul F hs, fun x hx => by show O.mul s (f x) = _; rw [ha2 x hx]⟩
theorem RS.congr {L : List (List Int)} {f g : Nat → Int} (hf : RS O El m L f) (h : ∀ x, x < m → g x = f x) : RS O El m L g := by
  obtain ⟨a, ha, ha2⟩ := hf
  exact ⟨a, ha, fun x hx => by rw [h x hx, ha2 x hx]⟩
/-- each row of A is in the row space of B -/
def RSub (O : FOps) (El : Int → Prop) (m : Nat) (A B : List (List Int)) : Prop := ∀ i, i < A.length → RS O El m B (fun x => nth (nthR A i) x)
theorem RSub.refl (F : Fld O El) (L : List (List Int)) : RSub O El m L L := fun _ hi => .row F hi
theorem RSub.rs {A B : List (List Int)} (h : RSub O El m A B) {f : Nat → Int} (hf : RS O El m A f) : RS O El m B f := by
  obtain ⟨e, he, he2⟩ := hf
  obtain ⟨g, hg⟩ : ∃ g : Nat → List Int → Int, ∀ i, i < A.length → Lin O El B.length (g i) ∧ ∀ x, x < m → nth (nthR A i) x = g i (colS B x) := by
    have h2 : ∀ i, ∃ g : List Int → Int, i < A.length → Lin O El B.length g ∧ ∀ x, x < m → nth (nthR A i) x = g (colS B x) := fun i => by
      by_cases hi : i < A.length
      · obtain ⟨g, h1, h2⟩ := h i hi
        exact ⟨g, fun _ => ⟨h1, h2⟩⟩
      · exact ⟨fun _ => 0, fun h => absurd h hi⟩
    exact ⟨fun i => Classical.choose (h2 i), fun i hi => Classical.choose_spec (h2 i) hi⟩
  refine ⟨_, he.vec g fun i hi => (hg i hi).1, fun x hx => ?_⟩
  rw [he2 x hx]
  congr 1
  refine nth_ext (by simp [colS_length]) fun i hi => ?_
  rw [colS_length] at hi
  rw [nth_mapRange _ _ _ hi, nth_colS A x i hi]
  exact (hg i hi).2 x hx
theorem RSub.trans {A B C : List (List Int)} (h : RSub O El m A B) (h2 : RSub O El m B C) : RSub O El m A C := fun i hi => h2.rs (h i hi)
theorem RSub.cl {A B : List (List Int)} (h : RSub O El m A B) {l : List Nat} {x : Nat} (hl : ∀ y ∈ l, y < m) (hx : x < m) (hc : clV O El B.length (colS B) l x) : clV O El A.length (colS A) l x := by
  intro φ hφ h0
  obtain ⟨e, he, he2⟩ := h.rs (f := fun x => φ (colS A x)) ⟨φ, hφ, fun _ _ => rfl⟩
  have e1 : φ (colS A x) = e (colS B x) := he2 x hx
  rw [e1]
  refine hc e he fun y hy => ?_
  rw [← he2 y (hl y hy)]
  exact h0 y hy

/-- what elimination leaves -/
structure Piv (L : List (List Int)) (P : List Int) (c : Nat) : Prop where
  le : P.length ≤ L.length
  lt : ∀ j, j < P.length → 0 ≤ nth P j ∧ nth P j < c
  one : ∀ j i, j < P.length → i < L.length → nth (nthR L i) (nth P j).toNat = if i = j then 1 else 0
  zero : ∀ i x, P.length ≤ i → i < L.length → x < c → nth (nthR L i) x = 0

def sw (t k i : Nat) : Nat := if i = t then k else if i = k then t else i
theorem sw_lt {t k n i : Nat} (ht : t < n) (hk : k < n) (hi : i < n) : sw t k i < n := by unfold sw; split; exact hk; split; exact ht; exact hi
theorem nthR_sw {L : List (List Int)} {t k : Nat} (ht : t < L.length) (hk : k < L.length) (i : Nat) : nthR (if k = t then L else swapRow L t k) i = nthR L (sw t k i) := by
  unfold sw swapRow
  split
  · rename_i e
    subst e
    split
    · rename_i e; rw [e]
    · rfl
  · rename_i hne
    rw [nthR_set _ _ _ _ (by simpa using hk), nthR_set _ _ _ _ ht]
    by_cases h1 : i = t
    · rw [if_neg (by omega), if_pos h1, if_pos h1]
    · rw [if_neg h1, if_neg h1]
      by_cases h2 : i = k
      · rw [if_pos h2, if_pos h2]
      · rw [if_neg h2, if_neg h2]
theorem nth_norm (F : Fld O El) {L : List (List Int)} (hL : Rws El m L) {t c : Nat} (ht : t < L.length) {i x : Nat} (hx : x < m) :
    nth (nthR (normRow O L t c) i) x = if i = t then O.mul (O.inv (nth (nthR L t) c)) (nth (nthR L t) x) else nth (nthR L i) x := by
  have hr := hL.row ht
  have he : El (nth (nthR L t) x) := hr.2 _ (nth_mem (by rw [hr.1]; exact hx))
  unfold normRow
  split
  · rename_i h1
    split
    · rename_i e; rw [e, h1, F.one_mul _ he]
    · rfl
  · rw [nthR_set _ _ _ _ ht]
    split
    · exact nth_scl O _ _ (by rw [hr.1]; exact hx)
    · rfl
theorem nthR_clear (O : FOps) (t c : Nat) (L : List (List Int)) : ∀ i, i ≤ L.length → ∀ j, nthR (clearTo O t c L i) j = if j < i ∧ j ≠ t then clearRow O (nthR L t) c (nthR L j) else nthR L j
  | 0, _, j => by rw [if_neg (by omega)]; rfl
  | i + 1, hi, j => by
    have ih := nthR_clear O t c L i (by omega)
    unfold clearTo
    split
    · rename_i e
      rw [ih j]
      by_cases h : j < i ∧ j ≠ t
      · rw [if_pos h, if_pos ⟨by omega, h.2⟩]
      · rw [if_neg h, if_neg (by omega)]
    · rename_i e
      have e1 : nthR (clearTo O t c L i) t = nthR L t := by rw [ih t, if_neg (by omega)]
      have e2 : nthR (clearTo O t c L i) i = nthR L i := by rw [ih i, if_neg (by omega)]
      rw [nthR_set _ _ _ _ (by rw [clearTo_length]; omega), e1, e2]
      by_cases h : j = i
      · subst h
        rw [if_pos rfl, if_pos ⟨by omega, e⟩]
      · rw [if_neg h, ih j]
        by_cases h2 : j < i ∧ j ≠ t
        · rw [if_pos h2, if_pos ⟨by omega, h2.2⟩]
        · rw [if_neg h2, if_neg (by omega)]
theorem nth_clearRow (F : Fld O El) {pv r : List Int} {c x : Nat} (hp : Vc El m pv) (hr : Vc El m r) (hc : c < m) (hx : x < m) :
    nth (clearRow O pv c r) x = O.add (nth r x) (O.neg (O.mul (nth pv x) (nth r c))) := by
  have h1 := hp.at hx
  have h2 := hr.at hx
  have h3 := hr.at hc
  unfold clearRow
  split
  · rename_i h0
    rw [h0, F.mzero h1, F.nzero, F.add_zero _ h2]
  · rw [nth_addRow O r _ pv x (by rw [hp.1, hr.1]) (by rw [hr.1]; exact hx)]
    split
    · rename_i h0
      rw [h0, F.zmul h3, F.nzero, F.add_zero _ h2]
    · rw [F.neg_mul h3 h1, F.mul_comm _ _ h3 h1]

section
variable {L : List (List Int)} {t k c : Nat}
theorem nth_pivotS (F : Fld O El) (hL : Rws El m L) (ht : t < L.length) (hk : k < L.length) (hc : c < m) (h0 : nth (nthR L k) c ≠ 0) {i x : Nat} (hi : i < L.length) (hx : x < m) :
    nth (nthR (pivotS O L t k c) i) x = if i = t then O.mul (O.inv (nth (nthR L k) c)) (nth (nthR L k) x) else
      O.add (nth (nthR L (sw t k i)) x) (O.neg (O.mul (O.mul (O.inv (nth (nthR L k) c)) (nth (nthR L k) x)) (nth (nthR L (sw t k i)) c))) := by
  rw [pivotS_eq]
  obtain ⟨L1, hL1⟩ : ∃ L1, (if k = t then L else swapRow L t k) = L1 := ⟨_, rfl⟩
  have hn1 : ∀ i, nthR L1 i = nthR L (sw t k i) := fun i => by rw [← hL1]; exact nthR_sw ht hk i
  have hl1 : L1.length = L.length := by rw [← hL1]; split <;> simp [swapRow_length]
  have hR1 : Rws El m L1 := by
    rw [← hL1]
    split
    · exact hL
    · exact hL.swap ht hk
  have hswt : sw t k t = k := by simp [sw]
  have h01 : nth (nthR L1 t) c ≠ 0 := by rw [hn1, hswt]; exact h0
  rw [hL1]
  have hR2 : Rws El m (normRow O L1 t c) := hR1.norm F.cl (by omega) hc h01
  have hN : ∀ {i x : Nat}, x < m → nth (nthR (normRow O L1 t c) i) x = if i = t then O.mul (O.inv (nth (nthR L1 t) c)) (nth (nthR L1 t) x) else nth (nthR L1 i) x := fun hx => nth_norm F hR1 (by omega) hx
  rw [nthR_clear O t c _ L.length (by rw [normRow_length]; omega)]
  by_cases e : i = t
  · rw [if_neg (by omega), if_pos e, hN hx, if_pos e, hn1, hswt]
  · rw [if_pos ⟨hi, e⟩, if_neg e, nth_clearRow F (hR2.row (by rw [normRow_length]; omega)) (hR2.row (by rw [normRow_length]; omega)) hc hx, hN hx, hN hx, hN hc, if_neg e, if_neg e, if_pos rfl, hn1, hn1, hswt]

variable (F : Fld O El) (hL : Rws El m L) (ht : t < L.length) (hk : k < L.length) (hc : c < m) (h0 : nth (nthR L k) c ≠ 0)
include F hL ht hk hc h0
theorem pivotS_sub : RSub O El m (pivotS O L t k c) L := by
  intro i hi
  rw [pivotS_length] at hi
  have hp : El (nth (nthR L k) c) := Vc.at (hL.row hk) hc
  have hpi := F.cl.inv _ hp h0
  by_cases e : i = t
  · exact ((RS.row F hk).smul F hpi).congr fun x hx => by rw [nth_pivotS F hL ht hk hc h0 hi hx, if_pos e]
  · have hs := sw_lt ht hk hi
    exact ((RS.row F hs).comb F ((RS.row F hk).smul F hpi) (s := nth (nthR L (sw t k i)) c) (Vc.at (hL.row hs) hc)).congr fun x hx => by rw [nth_pivotS F hL ht hk hc h0 hi hx, if_neg e]
theorem pivotS_sup : RSub O El m L (pivotS O L t k c) := by
  intro i hi
  have hp : El (nth (nthR L k) c) := Vc.at (hL.row hk) hc
  have hpi := F.cl.inv _ hp h0
  have htB : t < (pivotS O L t k c).length := by rw [pivotS_length]; exact ht
  by_cases e : i = k
  · refine ((RS.row F htB).smul F hp).congr fun x hx => ?_
    have hx1 : El (nth (nthR L k) x) := Vc.at (hL.row hk) hx
    rw [nth_pivotS F hL ht hk hc h0 ht hx, if_pos rfl, ← F.mul_assoc _ _ _ hp hpi hx1, F.mul_inv _ hp h0, F.one_mul _ hx1, e]
  · have hj : ∃ j, j < L.length ∧ j ≠ t ∧ sw t k j = i := by
      by_cases e2 : i = t
      · exact ⟨k, hk, by omega, by unfold sw; rw [if_neg (by omega), if_pos rfl, e2]⟩
      · exact ⟨i, hi, e2, by unfold sw; rw [if_neg e2, if_neg e]⟩
    obtain ⟨j, hj, hjt, hsw⟩ := hj
    have hs : El (nth (nthR L i) c) := Vc.at (hL.row hi) hc
    refine ((RS.row F (i := j) (by rw [pivotS_length]; exact hj)).comb F (RS.row F htB) (s := O.neg (nth (nthR L i) c)) (F.cl.neg _ hs)).congr fun x hx => ?_
    have hx1 : El (nth (nthR L k) x) := Vc.at (hL.row hk) hx
    have hx2 : El (nth (nthR L i) x) := Vc.at (hL.row hi) hx
    have hy := F.cl.mul _ _ hpi hx1
    have hq := F.cl.mul _ _ hy hs
    rw [nth_pivotS F hL ht hk hc h0 ht hx, if_pos rfl, nth_pivotS F hL ht hk hc h0 hj hx, if_neg hjt, hsw, F.mul_neg hy hs, F.neg_neg hq, F.add_assoc _ _ _ hx2 (F.cl.neg _ hq) hq, F.negadd hq, F.add_zero _ hx2]
end

theorem Piv.next (F : Fld O El) {L : List (List Int)} {P : List Int} {c k : Nat} (h : Piv L P c) (hL : Rws El m L) (hc : c < m) (ht : P.length < L.length) (hk : k < L.length) (htk : P.length ≤ k) (h0 : nth (nthR L k) c ≠ 0) :
    Piv (pivotS O L P.length k c) (P ++ [(c : Int)]) (c + 1) := by
  have hp : El (nth (nthR L k) c) := Vc.at (hL.row hk) hc
  have hpi := F.cl.inv _ hp h0
  have hsw : ∀ i, P.length ≤ i → i < L.length → P.length ≤ sw P.length k i ∧ sw P.length k i < L.length := fun i h1 h2 => by
    unfold sw; split; omega; split <;> omega
  have hswl : ∀ i, i < P.length → sw P.length k i = i := fun i h1 => by unfold sw; rw [if_neg (by omega), if_neg (by omega)]
  refine ⟨by rw [pivotS_length, List.length_append]; simp; omega, fun j hj => ?_, fun j i hj hi => ?_, fun i x h1 h2 hx => ?_⟩
  · rw [nth_push]
    rw [List.length_append, List.length_singleton] at hj
    by_cases e : j < P.length
    · rw [if_pos e]; have := h.lt j e; omega
    · rw [if_neg e, if_pos (by omega)]; omega
  · rw [List.length_append, List.length_singleton] at hj
    rw [pivotS_length] at hi
    rw [nth_push]
    by_cases e : j < P.length
    · rw [if_pos e]
      have hb := h.lt j e
      have hx : (nth P j).toNat < m := by omega
      have hk0 := h.one j k e hk
      rw [if_neg (by omega)] at hk0
      rw [nth_pivotS F hL ht hk hc h0 hi hx, hk0, F.mzero hpi]
      by_cases e2 : i = P.length
      · rw [if_pos e2, if_neg (by omega)]
      · rw [if_neg e2]
        have hsl : sw P.length k i < L.length := by unfold sw; split; omega; split <;> omega
        rw [F.zmul (Vc.at (hL.row hsl) hc), F.nzero, F.add_zero _ (Vc.at (hL.row hsl) hx), h.one j _ e hsl]
        by_cases e3 : i < P.length
        · rw [hswl i e3]
        · have := (hsw i (by omega) hi).1
          rw [if_neg (by omega), if_neg (by omega)]
    · have ej : j = P.length := by omega
      rw [if_neg e, if_pos ej, Int.toNat_natCast, nth_pivotS F hL ht hk hc h0 hi hc, ej]
      by_cases e2 : i = P.length
      · rw [if_pos e2, if_pos e2, F.mul_comm _ _ hpi hp, F.mul_inv _ hp h0]
      · rw [if_neg e2, if_neg e2]
        have hsl : sw P.length k i < L.length := by unfold sw; split; omega; split <;> omega
        have hq : El (nth (nthR L (sw P.length k i)) c) := Vc.at (hL.row hsl) hc
        rw [F.mul_comm _ _ hpi hp, F.mul_inv _ hp h0, F.one_mul _ hq, F.add_neg _ hq]
  · rw [List.length_append, List.length_singleton] at h1
    rw [pivotS_length] at h2
    have hxm : x < m := by omega
    have hs := hsw i (by omega) h2
    have hq : El (nth (nthR L (sw P.length k i)) c) := Vc.at (hL.row hs.2) hc
    rw [nth_pivotS F hL ht hk hc h0 h2 hxm, if_neg (by omega)]
    by_cases e : x = c
    · subst e
      rw [F.mul_comm _ _ hpi hp, F.mul_inv _ hp h0, F.one_mul _ hq, F.add_neg _ hq]
    · rw [h.zero _ x hs.1 hs.2 (by omega), h.zero k x htk hk (by omega), F.mzero hpi, F.zmul hq, F.nzero, F.add_zero 0 F.zero]

theorem elim_rws (F : Fld O El) {L : List (List Int)} (hL : Rws El m L) (k : Nat) (hk : k ≤ m) : Rws El m (elimTo O L k).1 :=
  (elimTo_agr (O' := O) ⟨fun _ _ _ _ => rfl, fun _ _ _ _ => rfl, fun _ _ => rfl, fun _ _ _ => rfl⟩ F.cl hL k hk).2
theorem elim_inv (F : Fld O El) {L : List (List Int)} (hL : Rws El m L) : ∀ k, k ≤ m → Piv (elimTo O L k).1 (elimTo O L k).2 k ∧ RSub O El m (elimTo O L k).1 L ∧ RSub O El m L (elimTo O L k).1
  | 0, _ => ⟨⟨Nat.zero_le _, fun j hj => by simp [elimTo] at hj, fun j i hj => by simp [elimTo] at hj, fun i x _ _ hx => by omega⟩, .refl F L, .refl F L⟩
  | k + 1, hk => by
    obtain ⟨h1, h2, h3⟩ := elim_inv F hL k (by omega)
    have hR := elim_rws F hL k (by omega)
    have hb := findRow_bd (L := (elimTo O L k).1) (c := k) (k := (elimTo O L k).2.length) h1.le
    by_cases hlt : (elimTo O L k).2.length < (elimTo O L k).1.length
    · rw [elimTo_next (Lk := (elimTo O L k).1) (P := (elimTo O L k).2) rfl hlt]
      split
      · rename_i hf
        refine ⟨⟨h1.le, fun j hj => ⟨(h1.lt j hj).1, Int.lt_trans (h1.lt j hj).2 (by omega)⟩, h1.one, fun i x hi1 hi2 hx => ?_⟩, h2, h3⟩
        by_cases e : x = k
        · subst e
          exact findTo_zero _ x ((elimTo O L x).1.length - (elimTo O L x).2.length) _ i hi1 (by show i < findRow _ x _; rw [hf]; exact hi2)
        · exact h1.zero i x hi1 hi2 (by omega)
      · rename_i hf
        have hfl : findRow (elimTo O L k).1 k (elimTo O L k).2.length < (elimTo O L k).1.length := by omega
        have hne : nth (nthR (elimTo O L k).1 (findRow (elimTo O L k).1 k (elimTo O L k).2.length)) k ≠ 0 := findTo_stop _ k _ _ (by show findRow _ k _ < _; omega)
        exact ⟨h1.next F hR (by omega) hlt hfl hb.1 hne, (pivotS_sub F hR hlt hfl (by omega) hne).trans h2, h3.trans (pivotS_sup F hR hlt hfl (by omega) hne)⟩
    · have hfull : (elimTo O L k).2.length = L.length := by have := elimTo_length O L k; have := h1.le; omega
      rw [elimTo_full hfull 1]
      have hl := elimTo_length O L k
      exact ⟨⟨h1.le, fun j hj => by have := h1.lt j hj; omega, h1.one, fun i x hi1 hi2 hx => by omega⟩, h2, h3⟩

theorem one_ne (F : Fld O El) : ∀ {x : Int}, El x → x ≠ 0 → (1 : Int) ≠ 0 := fun _ _ => by decide

/-- the pivots' columns are independent -/
theorem Piv.ind (F : Fld O El) {L : List (List Int)} {P : List Int} {c : Nat} (h : Piv L P c) : ∀ k, k ≤ P.length → Rk (clV O El L.length (colS L)) (grL P k) k
  | 0, _ => .nil
  | k + 1, hk => by
    rw [grL]
    refine .ind _ (fun hc => ?_) (h.ind F k (by omega))
    have hkl := h.le
    have h1 := hc (fun v => nth v k) (Lin.coord F (by omega)) fun y hy => by
      obtain ⟨j, hj, rfl⟩ := (mem_grL P y k).1 hy
      show nth (colS L _) k = 0
      rw [nth_colS L _ k (by omega), h.one j k (by omega) (by omega), if_neg (by omega)]
    have h2 : nth (colS L (nth P k).toNat) k = 0 := h1
    rw [nth_colS L _ k (by omega), h.one k k (by omega) (by omega), if_pos rfl] at h2
    exact absurd h2 (by decide)

/-- a column, less its first k entries' multiples of the pivots' columns -/
def lessTo (O : FOps) (L : List (List Int)) (P : List Int) (v : List Int) : Nat → List Int
  | 0 => v
  | k + 1 => subRow O (lessTo O L P v k) (nth (lessTo O L P v k) k) (colS L (nth P k).toNat)
theorem Piv.less (F : Fld O El) {L : List (List Int)} {P : List Int} {c : Nat} (h : Piv L P c) (hL : Rws El m L) {v : List Int} (hv : Vc El L.length v) {φ : List Int → Int} (hφ : Lin O El L.length φ)
    (h0 : ∀ j, j < P.length → φ (colS L (nth P j).toNat) = 0) : ∀ k, k ≤ P.length → Vc El L.length (lessTo O L P v k) ∧ φ (lessTo O L P v k) = φ v ∧ ∀ i, i < L.length → nth (lessTo O L P v k) i = if i < k then 0 else nth v i
  | 0, _ => ⟨hv, rfl, fun i _ => by rw [if_neg (by omega)]; rfl⟩
  | k + 1, hk => by
    obtain ⟨h1, h2, h3⟩ := h.less F hL hv hφ h0 k (by omega)
    have hle := h.le
    have hcol := colS_vc hL F.zero (nth P k).toNat
    have hx := h1.at (i := k) (by omega)
    refine ⟨h1.sub F hcol hx, ?_, fun i hi => ?_⟩
    · rw [lessTo, hφ.sub _ _ _ h1 hcol hx, h0 k (by omega), F.mzero hx, F.nzero, F.add_zero _ (hφ.el _ h1), h2]
    · rw [lessTo, nth_subRow O _ _ _ i (by rw [hcol.1, h1.1]) (by rw [h1.1]; exact hi), nth_colS L _ i hi, h.one k i (by omega) hi]
      by_cases e : i = k
      · subst e
        rw [if_pos rfl, F.mone hx, F.add_neg _ hx, if_pos (by omega)]
      · rw [if_neg e, F.mzero hx, F.nzero, F.add_zero _ (h1.at hi), h3 i hi]
        by_cases e2 : i < k
        · rw [if_pos e2, if_pos (by omega)]
        · rw [if_neg e2, if_neg (by omega)]
theorem Piv.all (F : Fld O El) {L : List (List Int)} {P : List Int} (h : Piv L P m) (hL : Rws El m L) {x : Nat} (hx : x < m) : clV O El L.length (colS L) (grL P P.length) x := by
  intro φ hφ h0
  obtain ⟨h1, h2, h3⟩ := h.less F hL (colS_vc hL F.zero x) hφ (fun j hj => h0 _ ((mem_grL P _ _).2 ⟨j, hj, rfl⟩)) _ (Nat.le_refl _)
  rw [← h2]
  refine hφ.zero F h1 fun i hi => ?_
  rw [h3 i hi]
  split
  · rfl
  · rw [nth_colS L x i hi]
    exact h.zero i x (by omega) hi hx

theorem Rk.map {cl cl' : List Nat → Nat → Prop} (D : Nat → Prop) (f : Nat → Nat) (hc : ∀ l x, (∀ y ∈ l, D y) → D x → (cl l x ↔ cl' (l.map f) (f x))) {l : List Nat} {r : Nat} (h : Rk cl l r) : (∀ y ∈ l, D y) → Rk cl' (l.map f) r := by
  induction h with
  | nil => intro _; exact .nil
  | dep x hx _ ih =>
    intro hD
    exact .dep _ ((hc _ _ (fun y hy => hD y (List.mem_cons.2 (.inr hy))) (hD x (by simp))).1 hx) (ih fun y hy => hD y (List.mem_cons.2 (.inr hy)))
  | ind x hx _ ih =>
    intro hD
    exact .ind _ (fun h => hx ((hc _ _ (fun y hy => hD y (List.mem_cons.2 (.inr hy))) (hD x (by simp))).2 h)) (ih fun y hy => hD y (List.mem_cons.2 (.inr hy)))

/-- the number of the pivots is the rank of the columns -/
theorem piv_rk (F : Fld O El) {L : List (List Int)} (hL : Rws El m L) : Rk (clV O El L.length (colS L)) (List.range m) (elimTo O L m).2.length := by
  obtain ⟨h1, h2, h3⟩ := elim_inv F hL m (Nat.le_refl _)
  have hR := elim_rws F hL m (Nat.le_refl _)
  have hC := col_clo F hR
  have k1 := (h1.ind F _ (Nat.le_refl _)).absorb hC (List.range m) fun x hx => h1.all F hR (List.mem_range.1 hx)
  have k2 := Rk.map (cl' := clV O El L.length (colS L)) (fun y => y < m) id (fun l x hl hx => by rw [List.map_id]; exact ⟨h3.cl hl hx, h2.cl hl hx⟩) k1 fun y hy => by
    rcases List.mem_append.1 hy with hy | hy
    · exact List.mem_range.1 hy
    · obtain ⟨j, hj, rfl⟩ := (mem_grL _ _ _).1 hy
      have := h1.lt j hj
      omega
  obtain ⟨r, hr⟩ := Rk.ex (clV O El L.length (colS L)) (List.range m)
  have e := Rk.same (col_clo F hL) k2 hr fun x => by
    rw [List.map_id, List.mem_append]
    constructor
    · rintro (h | h)
      · exact h
      · obtain ⟨j, hj, rfl⟩ := (mem_grL _ _ _).1 h
        have := h1.lt j hj
        exact List.mem_range.2 (by omega)
    · exact .inl
  rw [e]; exact hr

/-- the entries at the positions Q -/
def pickL (Q : List Int) (r : List Int) : List Int := Q.map fun q => nth r q.toNat
theorem nth_pickL (Q r : List Int) {i : Nat} (hi : i < Q.length) : nth (pickL Q r) i = nth r (nth Q i).toNat := by
  rw [nth_getElem (show i < (pickL Q r).length by simpa [pickL] using hi), nth_getElem hi]; simp [pickL]
theorem pick_rws {L : List (List Int)} (hL : Rws El n L) {Q : List Int} (hQ : ∀ j, j < Q.length → 0 ≤ nth Q j ∧ nth Q j < n) : Rws El Q.length (L.map (pickL Q)) := by
  intro r hr
  obtain ⟨r0, h0, rfl⟩ := List.mem_map.1 hr
  refine ⟨by simp [pickL], fun x hx => ?_⟩
  obtain ⟨q, hq, rfl⟩ := List.mem_map.1 hx
  obtain ⟨j, hj, rfl⟩ := List.mem_iff_getElem.1 hq
  have := hQ j hj
  rw [nth_getElem hj] at this
  exact (hL r0 h0).2 _ (nth_mem (by rw [(hL r0 h0).1]; omega))
theorem pick_rk (F : Fld O El) {L : List (List Int)} (hL : Rws El n L) {Q : List Int} (hQ : ∀ j, j < Q.length → 0 ≤ nth Q j ∧ nth Q j < n) :
    Rk (clV O El L.length (colS L)) ((List.range Q.length).map fun j => (nth Q j).toNat) (elimTo O (L.map (pickL Q)) Q.length).2.length := by
  have hR := pick_rws hL hQ
  have hcol : ∀ j, j < Q.length → colS (L.map (pickL Q)) j = colS L (nth Q j).toNat := fun j hj => by
    unfold colS
    rw [List.map_map]
    exact List.map_congr_left fun r _ => nth_pickL Q r hj
  refine Rk.map (fun j => j < Q.length) _ (fun l x hl hx => ?_) (piv_rk F hR) fun y hy => List.mem_range.1 hy
  unfold clV
  rw [List.length_map]
  constructor
  · intro h φ hφ h0
    rw [← hcol x hx]
    refine h φ hφ fun y hy => ?_
    rw [hcol y (hl y hy)]
    exact h0 _ (List.mem_map.2 ⟨y, hy, rfl⟩)
  · intro h φ hφ h0
    rw [hcol x hx]
    refine h φ hφ fun y hy => ?_
    obtain ⟨j, hj, rfl⟩ := List.mem_map.1 hy
    rw [← hcol j (hl j hj)]
    exact h0 j hj
end
end

/- Ranks of a code and of the code that is orthogonal to it. -/
section
section
variable {O : FOps} {El : Int → Prop} {m n : Nat}

/-- the sum of the products -/
def dotN (O : FOps) (a b : Nat → Int) : Nat → Int
  | 0 => 0
  | t + 1 => O.add (dotN O a b t) (O.mul (a t) (b t))
theorem dotN_el (F : Fld O El) {a b : Nat → Int} : ∀ t, (∀ p, p < t → El (a p)) → (∀ p, p < t → El (b p)) → El (dotN O a b t)
  | 0, _, _ => F.zero
  | t + 1, ha, hb => F.cl.add _ _ (dotN_el F t (fun p hp => ha p (by omega)) fun p hp => hb p (by omega)) (F.cl.mul _ _ (ha t (by omega)) (hb t (by omega)))
theorem dotN_comm (F : Fld O El) {a b : Nat → Int} : ∀ t, (∀ p, p < t → El (a p)) → (∀ p, p < t → El (b p)) → dotN O a b t = dotN O b a t
  | 0, _, _ => rfl
  | t + 1, ha, hb => by
    rw [dotN, dotN, dotN_comm F t (fun p hp => ha p (by omega)) fun p hp => hb p (by omega), F.mul_comm _ _ (ha t (by omega)) (hb t (by omega))]
theorem dotN_congr {a b a' b' : Nat → Int} : ∀ t, (∀ p, p < t → a p = a' p ∧ b p = b' p) → dotN O a b t = dotN O a' b' t
  | 0, _ => rfl
  | t + 1, h => by rw [dotN, dotN, dotN_congr t fun p hp => h p (by omega), (h t (by omega)).1, (h t (by omega)).2]
theorem dotN_zero (F : Fld O El) {a b : Nat → Int} : ∀ t, (∀ p, p < t → O.mul (a p) (b p) = 0) → dotN O a b t = 0
  | 0, _ => rfl
  | t + 1, h => by rw [dotN, dotN_zero F t fun p hp => h p (by omega), h t (by omega), F.add_zero 0 F.zero]
theorem dotN_one (F : Fld O El) {a b : Nat → Int} {x : Nat} (hx : El (O.mul (a x) (b x))) : ∀ t, (∀ p, p < t → p ≠ x → O.mul (a p) (b p) = 0) → dotN O a b t = if x < t then O.mul (a x) (b x) else 0
  | 0, _ => rfl
  | t + 1, h => by
    rw [dotN, dotN_one F hx t fun p hp => h p (by omega)]
    by_cases e : t = x
    · subst e
      rw [if_neg (by omega), if_pos (by omega), F.zadd hx]
    · rw [h t (by omega) e]
      by_cases e2 : x < t
      · rw [if_pos e2, if_pos (by omega), F.add_zero _ hx]
      · rw [if_neg e2, if_neg (by omega), F.add_zero 0 F.zero]
theorem dotN_two (F : Fld O El) {a b : Nat → Int} {x y : Nat} (hxy : x ≠ y) (hx : El (O.mul (a x) (b x))) (hy : El (O.mul (a y) (b y))) : ∀ t, (∀ p, p < t → p ≠ x → p ≠ y → O.mul (a p) (b p) = 0) →
    dotN O a b t = O.add (if x < t then O.mul (a x) (b x) else 0) (if y < t then O.mul (a y) (b y) else 0)
  | 0, _ => by rw [if_neg (by omega), if_neg (by omega)]; exact (F.add_zero 0 F.zero).symm
  | t + 1, h => by
    rw [dotN, dotN_two F hxy hx hy t fun p hp => h p (by omega)]
    by_cases e : t = x
    · subst e
      rw [if_neg (Nat.lt_irrefl t), if_pos (Nat.lt_succ_self t)]
      by_cases e2 : y < t
      · rw [if_pos e2, if_pos (show y < t + 1 by omega), F.zadd hy, F.add_comm _ _ hy hx]
      · rw [if_neg e2, if_neg (show ¬ y < t + 1 by omega), F.zadd F.zero, F.zadd hx, F.add_zero _ hx]
    · by_cases e1 : t = y
      · subst e1
        by_cases e2 : x < t
        · rw [if_pos e2, if_neg (by omega), if_pos (by omega), if_pos (by omega), F.add_zero _ hx]
        · rw [if_neg e2, if_neg (by omega), if_neg (by omega), if_pos (by omega), F.add_zero 0 F.zero]
      · rw [h t (by omega) e e1]
        by_cases e2 : x < t
        · by_cases e3 : y < t
          · rw [if_pos e2, if_pos e3, if_pos (by omega), if_pos (by omega), F.add_zero _ (F.cl.add _ _ hx hy)]
          · rw [if_pos e2, if_neg e3, if_pos (by omega), if_neg (by omega), F.add_zero _ (F.cl.add _ _ hx F.zero)]
        · by_cases e3 : y < t
          · rw [if_neg e2, if_pos e3, if_neg (by omega), if_pos (by omega), F.add_zero _ (F.cl.add _ _ F.zero hy)]
          · rw [if_neg e2, if_neg e3, if_neg (by omega), if_neg (by omega), F.add_zero _ (F.cl.add _ _ F.zero F.zero)]

/-- the sum of the columns with the weights r -/
def colN (O : FOps) (r : Nat → Int) (K : List (List Int)) : Nat → List Int
  | 0 => List.replicate K.length 0
  | t + 1 => subRow O (colN O r K t) (O.neg (r t)) (colS K t)
theorem colN_vc (F : Fld O El) {r : Nat → Int} {K : List (List Int)} (hK : Rws El m K) : ∀ t, (∀ p, p < t → El (r p)) → Vc El K.length (colN O r K t)
  | 0, _ => ⟨by simp [colN], fun y hy => by
    have := List.eq_of_mem_replicate hy
    rw [this]; exact F.zero⟩
  | t + 1, hr => (colN_vc F hK t fun p hp => hr p (by omega)).sub F (colS_vc hK F.zero t) (F.cl.neg _ (hr t (by omega)))
theorem colN_at (F : Fld O El) {r : Nat → Int} {K : List (List Int)} (hK : Rws El m K) {j : Nat} (hj : j < K.length) : ∀ t, t ≤ m → (∀ p, p < t → El (r p)) → nth (colN O r K t) j = dotN O r (fun p => nth (nthR K j) p) t
  | 0, _, _ => by simp [colN, dotN, nth, List.getD_eq_getElem?_getD, List.getElem?_replicate, hj]
  | t + 1, ht, hr => by
    have hv := colN_vc F hK t fun p hp => hr p (by omega)
    have hc := colS_vc hK F.zero t
    have hrt := hr t (by omega)
    have hx : El (nth (nthR K j) t) := Vc.at (hK.row hj) (by omega)
    rw [colN, nth_subRow O _ _ _ j (by rw [hc.1, hv.1]) (by rw [hv.1]; exact hj), colN_at F hK hj t (by omega) fun p hp => hr p (by omega), nth_colS K t j hj, F.neg_mul hrt hx, F.neg_neg (F.cl.mul _ _ hrt hx)]
    rfl
theorem colN_form (F : Fld O El) {r : Nat → Int} {K : List (List Int)} (hK : Rws El m K) {φ : List Int → Int} (hφ : Lin O El K.length φ) : ∀ t, (∀ p, p < t → El (r p)) → φ (colN O r K t) = dotN O r (fun p => φ (colS K p)) t
  | 0, _ => hφ.zero F (colN_vc F hK 0 fun p hp => by omega) fun i hi => by simp [colN, nth, List.getD_eq_getElem?_getD, List.getElem?_replicate, hi]
  | t + 1, hr => by
    have hv := colN_vc F hK t fun p hp => hr p (by omega)
    have hc := colS_vc hK F.zero t
    have hrt := hr t (by omega)
    have hx := hφ.el _ hc
    rw [colN, hφ.sub _ _ _ hv hc (F.cl.neg _ hrt), colN_form F hK hφ t fun p hp => hr p (by omega), F.neg_mul hrt hx, F.neg_neg (F.cl.mul _ _ hrt hx)]
    rfl
theorem form_dot (F : Fld O El) {r : Nat → Int} {K : List (List Int)} (hK : Rws El m K) {φ : List Int → Int} (hφ : Lin O El K.length φ) (hr : ∀ p, p < m → El (r p)) (h : ∀ j, j < K.length → dotN O r (fun p => nth (nthR K j) p) m = 0) :
    dotN O r (fun p => φ (colS K p)) m = 0 := by
  rw [← colN_form F hK hφ m hr]
  exact hφ.zero F (colN_vc F hK m hr) fun i hi => by rw [colN_at F hK hi m (Nat.le_refl _) hr]; exact h i hi

/-- the rows of the one are orthogonal to those of the other -/
def Orth (O : FOps) (m : Nat) (G K : List (List Int)) : Prop := ∀ i j, i < G.length → j < K.length → dotN O (fun p => nth (nthR G i) p) (fun p => nth (nthR K j) p) m = 0
variable {G K : List (List Int)}
theorem Orth.symm (F : Fld O El) (hG : Rws El m G) (hK : Rws El m K) (h : Orth O m G K) : Orth O m K G := fun i j hi hj => by
  rw [dotN_comm F m (fun p hp => Vc.at (hK.row hi) hp) fun p hp => Vc.at (hG.row hj) hp]
  exact h j i hj hi
theorem Orth.forms (F : Fld O El) (hG : Rws El m G) (hK : Rws El m K) (h : Orth O m G K) {φ ψ : List Int → Int} (hφ : Lin O El K.length φ) (hψ : Lin O El G.length ψ) :
    dotN O (fun p => φ (colS K p)) (fun p => ψ (colS G p)) m = 0 := by
  have hcφ : ∀ p, p < m → El (φ (colS K p)) := fun p _ => hφ.el _ (colS_vc hK F.zero p)
  refine form_dot F hG hψ hcφ fun i hi => ?_
  rw [dotN_comm F m hcφ fun p hp => Vc.at (hG.row hi) hp]
  exact form_dot F hK hφ (fun p hp => Vc.at (hG.row hi) hp) fun j hj => h i j hi hj
/-- what is not in the closure of the ones is in that of the others -/
theorem Orth.cl (F : Fld O El) (hG : Rws El m G) (hK : Rws El m K) (h : Orth O m G K) {A B : List Nat} {x : Nat} (hx : x < m) (hAB : ∀ p, p < m → p ≠ x → p ∈ A ∨ p ∈ B) (hn : ¬ clV O El G.length (colS G) A x) :
    clV O El K.length (colS K) B x := by
  intro φ hφ h0
  apply Classical.byContradiction
  intro hne
  apply hn
  intro ψ hψ hA
  have hd := h.forms F hG hK hφ hψ
  have e1 := hφ.el _ (colS_vc hK F.zero x)
  have e2 := hψ.el _ (colS_vc hG F.zero x)
  rw [dotN_one F (x := x) (F.cl.mul _ _ e1 e2) m fun p hp hpx => ?_, if_pos hx] at hd
  · exact F.mul_ne e1 e2 hne hd
  · rcases hAB p hp hpx with h1 | h1
    · show O.mul (φ (colS K p)) (ψ (colS G p)) = 0
      rw [hA p h1, F.mzero (hφ.el _ (colS_vc hK F.zero p))]
    · show O.mul (φ (colS K p)) (ψ (colS G p)) = 0
      rw [h0 p h1, F.zmul (hψ.el _ (colS_vc hG F.zero p))]

theorem rk_step {cl : List Nat → Nat → Prop} {l : List Nat} {x n n' : Nat} (h : Rk cl l n) (h' : Rk cl (x :: l) n') : n' ≤ n + 1 ∧ (cl l x → n' = n) := by
  cases h' with
  | dep _ hx h2 => exact ⟨by rw [h.uniq h2]; omega, fun _ => (h.uniq h2).symm⟩
  | ind _ hx h2 => exact ⟨by rw [h.uniq h2]; omega, fun hc => absurd hc hx⟩
/-- each position counts for at most one of the two -/
theorem dual_count {cl cl' : List Nat → Nat → Prop} {m : Nat} (h : ∀ A B x, x < m → (∀ p, p < m → p ≠ x → p ∈ A ∨ p ∈ B) → ¬ cl A x → cl' B x) :
    ∀ (l acc : List Nat) {a b c : Nat}, (∀ x ∈ l, x < m) → (∀ p, p < m → p ∈ l ∨ p ∈ acc) → Rk cl l a → Rk cl' acc b → Rk cl' (l.reverse ++ acc) c → a + c ≤ l.length + b
  | [], acc, a, b, c, _, _, ha, hb, hc => by
    cases ha
    have e : c = b := Rk.uniq hc hb
    simp; omega
  | x :: l, acc, a, b, c, hl, hp, ha, hb, hc => by
    have hx := hl x (by simp)
    obtain ⟨b', hb'⟩ := Rk.ex cl' (x :: acc)
    have hst := rk_step hb hb'
    have hc' : Rk cl' (l.reverse ++ (x :: acc)) c := by simpa using hc
    have hp' : ∀ p, p < m → p ∈ l ∨ p ∈ x :: acc := fun p hpm => by
      rcases hp p hpm with h1 | h1
      · rcases List.mem_cons.1 h1 with rfl | h1
        · exact .inr (by simp)
        · exact .inl h1
      · exact .inr (List.mem_cons.2 (.inr h1))
    cases ha with
    | dep _ hcl ha' =>
      have ih := dual_count h l (x :: acc) (fun y hy => hl y (List.mem_cons.2 (.inr hy))) hp' ha' hb' hc'
      simp only [List.length_cons]; omega
    | ind _ hcl ha' =>
      have ih := dual_count h l (x :: acc) (fun y hy => hl y (List.mem_cons.2 (.inr hy))) hp' ha' hb' hc'
      have := hst.2 (h l acc x hx (fun p hpm hpx => by
        rcases hp p hpm with h1 | h1
        · rcases List.mem_cons.1 h1 with h2 | h1
          · exact absurd h2 hpx
          · exact .inl h1
        · exact .inr h1) hcl)
      simp only [List.length_cons]; omega

/-- the ranks of a set in the one and of its complement in the other -/
theorem dual_rk (F : Fld O El) (hG : Rws El m G) (hK : Rws El m K) (h : Orth O m G K) (hkm : G.length + K.length = m)
    (hg : Rk (clV O El G.length (colS G)) (List.range m) G.length) (hk : Rk (clV O El K.length (colS K)) (List.range m) K.length)
    {S C : List Nat} (hS : ∀ x ∈ S, x < m) (hC : ∀ x ∈ C, x < m) (hSC : ∀ p, p < m → p ∈ S ∨ p ∈ C) (hlen : S.length + C.length = m) {a b : Nat} (ha : Rk (clV O El G.length (colS G)) C a) (hb : Rk (clV O El K.length (colS K)) S b) :
    (b : Int) = S.length - G.length + a := by
  have cG := col_clo F hG
  have cK := col_clo F hK
  have all : ∀ {cl : List Nat → Nat → Prop} (hc : Clo cl) {r : Nat} (_ : Rk cl (List.range m) r) (l acc : List Nat), (∀ x ∈ l, x < m) → (∀ x ∈ acc, x < m) → (∀ p, p < m → p ∈ l ∨ p ∈ acc) → Rk cl (l.reverse ++ acc) r := fun hc r hr l acc h1 h2 h3 => by
    obtain ⟨r', hr'⟩ := Rk.ex _ (l.reverse ++ acc)
    have e := Rk.same hc hr hr' fun x => by
      rw [List.mem_range, List.mem_append, List.mem_reverse]
      exact ⟨fun hx => h3 x hx, fun hx => by rcases hx with hx | hx; exact h1 x hx; exact h2 x hx⟩
    rw [e]; exact hr'
  have i1 := dual_count (m := m) (fun A B x hx hAB hn => h.cl F hG hK hx hAB hn) C S hC (fun p hp => (hSC p hp).symm) ha hb (all cK hk C S hC hS fun p hp => (hSC p hp).symm)
  have i2 := dual_count (m := m) (fun A B x hx hAB hn => (h.symm F hG hK).cl F hK hG hx hAB hn) S C hS hSC hb ha (all cG hg S C hS hC hSC)
  omega
end
end

end Go.Proofs.Ytapjcccpokhhhaa
