/- The walks of the reference of layer 4: Digits, Value, Add, Neg. -/
import Derived.Test.YtapjcccpokhhhaaGreatG11
import Derived.Test.YtapjcccpokhhhaaGreatG9
import Derived.Test.YtapjcccpokhhhaaGreatG10
namespace Go.Proofs.YtapjcccpokhhhaaGreat
set_option linter.unusedVariables false
set_option linter.unusedSimpArgs false
set_option linter.unusedSectionVars false

/- Gauss-Jordan elimination counts the rank of the columns. -/
section
section
variable {O : FOps} {El : Int → Prop} {m n : Nat}

theorem Lin.smul (F : Fld O El) {φ : List Int → Int} (h : Lin O El n φ) {s : Int} (hs : El s) : Lin O El n (fun v => O.mul s (φ v)) :=
  ⟨fun v hv => F.cl.mul _ _ hs (h.el v hv),
   fun v r x hv hr hx => by
    show O.mul s (φ (subRow O v x r)) = O.add (O.mul s (φ v)) (O.neg (O.mul x (O.mul s (φ r))))
    have h1 := h.el v hv
    have h2 := h.el r hr
    rw [h.sub v r x hv hr hx, F.mul_add s _ _ hs h1 (F.cl.neg _ (F.cl.mul _ _ hx h2)), F.mul_neg hs (F.cl.mul _ _ hx h2), ← F.mul_assoc s x _ hs hx h2, F.mul_comm s x hs hx, F.mul_assoc x s _ hx hs h2],
   fun r x hr hx => by
    show O.mul s (φ (r.map (O.mul x))) = O.mul x (O.mul s (φ r))
    have h2 := h.el r hr
    rw [h.scl r x hr hx, ← F.mul_assoc s x _ hs hx h2, F.mul_comm s x hs hx, F.mul_assoc x s _ hx hs h2]⟩

theorem nth_mapRange (g : Nat → Int) (k i : Nat) (hi : i < k) : nth ((List.range k).map g) i = g i := by
  rw [nth_getElem (by simpa using hi)]; simp
theorem Lin.vec {k : Nat} {e : List Int → Int} (he : Lin O El k e) (g : Nat → List Int → Int) (hg : ∀ i, i < k → Lin O El n (g i)) : Lin O El n (fun v => e ((List.range k).map fun i => g i v)) := by
  have hv' : ∀ v, Vc El n v → Vc El k ((List.range k).map fun i => g i v) := fun v hv => ⟨by simp, fun y hy => by
    obtain ⟨i, hi, rfl⟩ := List.mem_map.1 hy
    exact (hg i (List.mem_range.1 hi)).el v hv⟩
  refine ⟨fun v hv => he.el _ (hv' v hv), fun v r x hv hr hx => ?_, fun r x hr hx => ?_⟩
  · show e _ = _
    rw [← he.sub _ _ x (hv' v hv) (hv' r hr) hx]
    congr 1
    refine nth_ext (by rw [subRow_length _ _ _ _ (by simp)]; simp) fun i hi => ?_
    have hi' : i < k := by simpa using hi
    rw [nth_subRow O _ x _ i (by simp) (by simpa using hi'), nth_mapRange _ _ _ hi', nth_mapRange _ _ _ hi', nth_mapRange _ _ _ hi']
    exact (hg i hi').sub v r x hv hr hx
  · show e _ = _
    rw [← he.scl _ x (hv' r hr) hx]
    congr 1
    refine nth_ext (by simp) fun i hi => ?_
    have hi' : i < k := by simpa using hi
    rw [nth_scl O _ x (by simpa using hi'), nth_mapRange _ _ _ hi', nth_mapRange _ _ _ hi']
    exact (hg i hi').scl r x hr hx

/-- the functions of the row space of L, on the first m columns -/
def RS (O : FOps) (El : Int → Prop) (m : Nat) (L : List (List Int)) (f : Nat → Int) : Prop := ∃ e, Lin O El L.length e ∧ ∀ x, x < m → f x = e (colS L x)
theorem RS.row (F : Fld O El) {L : List (List Int)} {i : Nat} (hi : i < L.length) : RS O El m L (fun x => nth (nthR L i) x) :=
  ⟨fun v => nth v i, Lin.coord F hi, fun x _ => (nth_colS L x i hi).symm⟩
theorem RS.comb (F : Fld O El) {L : List (List Int)} {f g : Nat → Int} (hf : RS O El m L f) (hg : RS O El m L g) {s : Int} (hs : El s) : RS O El m L (fun x => O.add (f x) (O.neg (O.mul (g x) s))) := by
  obtain ⟨a, ha, ha2⟩ := hf
  obtain ⟨b, hb, hb2⟩ := hg
  exact ⟨_, ha.comb F hb hs, fun x hx => by show O.add (f x) _ = _; rw [ha2 x hx, hb2 x hx]⟩
theorem RS.smul (F : Fld O El) {L : List (List Int)} {f : Nat → Int} (hf : RS O El m L f) {s : Int} (hs : El s) : RS O El m L (fun x => O.mul s (f x)) := by
  obtain ⟨a, ha, ha2⟩ := hf
  exact ⟨_, ha.smul F hs, fun x hx => by show O.mul s (f x) = _; rw [ha2 x hx]⟩
theorem RS.congr {L : List (List Int)} {f g : Nat → Int} (hf : RS O El m L f) (h : ∀ x, x < m → g x = f x) : RS O El m L g := by
  obtain ⟨a, ha, ha2⟩ := hf
  exact ⟨a, ha, fun x hx => by rw [h x hx, ha2 x hx]⟩
/-- each row of A is in the row space of B -/
def RSub (O : FOps) (El : Int → Prop) (m : Nat) (A B : List (List Int)) : Prop := ∀ i, i < A.length → RS O El m B (fun x => nth (nthR A i) x)
theorem RSub.refl (F : Fld O El) (L : List (List Int)) : RSub O El m L L := fun _ hi => .row F hi
theorem RSub.rs {A B : List (List Int)} (h : RSub O El m A B) {f : Nat → Int} (hf : RS O El m A f) : RS O El m B f := by
  obtain ⟨e, he, he2⟩ := hf
  obtain ⟨g, hg⟩ : ∃ g : Nat → List Int → Int, ∀ i, i < A.length → Lin O El B.length (g i) ∧ ∀ x, x < m → nth (nthR A i) x = g i (colS B x) := by
    have h2 : ∀ i, ∃ g : List Int → Int, i < A.length → Lin O El B.length g ∧ ∀ x, x < m → nth (nthR A i) x = g (colS B x) := fun i => by
      by_cases hi : i < A.length
      · obtain ⟨g, h1, h2⟩ := h i hi
        exact ⟨g, fun _ => ⟨h1, h2⟩⟩
      · exact ⟨fun _ => 0, fun h => absurd h hi⟩
    exact ⟨fun i => Classical.choose (h2 i), fun i hi => Classical.choose_spec (h2 i) hi⟩
  refine ⟨_, he.vec g fun i hi => (hg i hi).1, fun x hx => ?_⟩
  rw [he2 x hx]
  congr 1
  refine nth_ext (by simp [colS_length]) fun i hi => ?_
  rw [colS_length] at hi
  rw [nth_mapRange _ _ _ hi, nth_colS A x i hi]
  exact (hg i hi).2 x hx
theorem RSub.trans {A B C : List (List Int)} (h : RSub O El m A B) (h2 : RSub O El m B C) : RSub O El m A C := fun i hi => h2.rs (h i hi)
theorem RSub.cl {A B : List (List Int)} (h : RSub O El m A B) {l : List Nat} {x : Nat} (hl : ∀ y ∈ l, y < m) (hx : x < m) (hc : clV O El B.length (colS B) l x) : clV O El A.length (colS A) l x := by
  intro φ hφ h0
  obtain ⟨e, he, he2⟩ := h.rs (f := fun x => φ (colS A x)) ⟨φ, hφ, fun _ _ => rfl⟩
  have e1 : φ (colS A x) = e (colS B x) := he2 x hx
  rw [e1]
  refine hc e he fun y hy => ?_
  rw [← he2 y (hl y hy)]
  exact h0 y hy

/-- what elimination leaves -/
structure Piv (L : List (List Int)) (P : List Int) (c : Nat) : Prop where
  le : P.length ≤ L.length
  lt : ∀ j, j < P.length → 0 ≤ nth P j ∧ nth P j < c
  one : ∀ j i, j < P.length → i < L.length → nth (nthR L i) (nth P j).toNat = if i = j then 1 else 0
  zero : ∀ i x, P.length ≤ i → i < L.length → x < c → nth (nthR L i) x = 0

def sw (t k i : Nat) : Nat := if i = t then k else if i = k then t else i
theorem sw_lt {t k n i : Nat} (ht : t < n) (hk : k < n) (hi : i < n) : sw t k i < n := by unfold sw; split; exact hk; split; exact ht; exact hi
theorem nthR_sw {L : List (List Int)} {t k : Nat} (ht : t < L.length) (hk : k < L.length) (i : Nat) : nthR (if k = t then L else swapRow L t k) i = nthR L (sw t k i) := by
  unfold sw swapRow
  split
  · rename_i e
    subst e
    split
    · rename_i e; rw [e]
    · rfl
  · rename_i hne
    rw [nthR_set _ _ _ _ (by simpa using hk), nthR_set _ _ _ _ ht]
    by_cases h1 : i = t
    · rw [if_neg (by omega), if_pos h1, if_pos h1]
    · rw [if_neg h1, if_neg h1]
      by_cases h2 : i = k
      · rw [if_pos h2, if_pos h2]
      · rw [if_neg h2, if_neg h2]
theorem nth_norm (F : Fld O El) {L : List (List Int)} (hL : Rws El m L) {t c : Nat} (ht : t < L.length) {i x : Nat} (hx : x < m) :
    nth (nthR (normRow O L t c) i) x = if i = t then O.mul (O.inv (nth (nthR L t) c)) (nth (nthR L t) x) else nth (nthR L i) x := by
  have hr := hL.row ht
  have he : El (nth (nthR L t) x) := hr.2 _ (nth_mem (by rw [hr.1]; exact hx))
  unfold normRow
  split
  · rename_i h1
    split
    · rename_i e; rw [e, h1, F.one_mul _ he]
    · rfl
  · rw [nthR_set _ _ _ _ ht]
    split
    · exact nth_scl O _ _ (by rw [hr.1]; exact hx)
    · rfl
theorem nthR_clear (O : FOps) (t c : Nat) (L : List (List Int)) : ∀ i, i ≤ L.length → ∀ j, nthR (clearTo O t c L i) j = if j < i ∧ j ≠ t then clearRow O (nthR L t) c (nthR L j) else nthR L j
  | 0, _, j => by rw [if_neg (by omega)]; rfl
  | i + 1, hi, j => by
    have ih := nthR_clear O t c L i (by omega)
    unfold clearTo
    split
    · rename_i e
      rw [ih j]
      by_cases h : j < i ∧ j ≠ t
      · rw [if_pos h, if_pos ⟨by omega, h.2⟩]
      · rw [if_neg h, if_neg (by omega)]
    · rename_i e
      have e1 : nthR (clearTo O t c L i) t = nthR L t := by rw [ih t, if_neg (by omega)]
      have e2 : nthR (clearTo O t c L i) i = nthR L i := by rw [ih i, if_neg (by omega)]
      rw [nthR_set _ _ _ _ (by rw [clearTo_length]; omega), e1, e2]
      by_cases h : j = i
      · subst h
        rw [if_pos rfl, if_pos ⟨by omega, e⟩]
      · rw [if_neg h, ih j]
        by_cases h2 : j < i ∧ j ≠ t
        · rw [if_pos h2, if_pos ⟨by omega, h2.2⟩]
        · rw [if_neg h2, if_neg (by omega)]
theorem nth_clearRow (F : Fld O El) {pv r : List Int} {c x : Nat} (hp : Vc El m pv) (hr : Vc El m r) (hc : c < m) (hx : x < m) :
    nth (clearRow O pv c r) x = O.add (nth r x) (O.neg (O.mul (nth pv x) (nth r c))) := by
  have h1 := hp.at hx
  have h2 := hr.at hx
  have h3 := hr.at hc
  unfold clearRow
  split
  · rename_i h0
    rw [h0, F.mzero h1, F.nzero, F.add_zero _ h2]
  · rw [nth_addRow O r _ pv x (by rw [hp.1, hr.1]) (by rw [hr.1]; exact hx)]
    split
    · rename_i h0
      rw [h0, F.zmul h3, F.nzero, F.add_zero _ h2]
    · rw [F.neg_mul h3 h1, F.mul_comm _ _ h3 h1]

section
variable {L : List (List Int)} {t k c : Nat}
theorem nth_pivotS (F : Fld O El) (hL : Rws El m L) (ht : t < L.length) (hk : k < L.length) (hc : c < m) (h0 : nth (nthR L k) c ≠ 0) {i x : Nat} (hi : i < L.length) (hx : x < m) :
    nth (nthR (pivotS O L t k c) i) x = if i = t then O.mul (O.inv (nth (nthR L k) c)) (nth (nthR L k) x) else
      O.add (nth (nthR L (sw t k i)) x) (O.neg (O.mul (O.mul (O.inv (nth (nthR L k) c)) (nth (nthR L k) x)) (nth (nthR L (sw t k i)) c))) := by
  rw [pivotS_eq]
  obtain ⟨L1, hL1⟩ : ∃ L1, (if k = t then L else swapRow L t k) = L1 := ⟨_, rfl⟩
  have hn1 : ∀ i, nthR L1 i = nthR L (sw t k i) := fun i => by rw [← hL1]; exact nthR_sw ht hk i
  have hl1 : L1.length = L.length := by rw [← hL1]; split <;> simp [swapRow_length]
  have hR1 : Rws El m L1 := by
    rw [← hL1]
    split
    · exact hL
    · exact hL.swap ht hk
  have hswt : sw t k t = k := by simp [sw]
  have h01 : nth (nthR L1 t) c ≠ 0 := by rw [hn1, hswt]; exact h0
  rw [hL1]
  have hR2 : Rws El m (normRow O L1 t c) := hR1.norm F.cl (by omega) hc h01
  have hN : ∀ {i x : Nat}, x < m → nth (nthR (normRow O L1 t c) i) x = if i = t then O.mul (O.inv (nth (nthR L1 t) c)) (nth (nthR L1 t) x) else nth (nthR L1 i) x := fun hx => nth_norm F hR1 (by omega) hx
  rw [nthR_clear O t c _ L.length (by rw [normRow_length]; omega)]
  by_cases e : i = t
  · rw [if_neg (by omega), if_pos e, hN hx, if_pos e, hn1, hswt]
  · rw [if_pos ⟨hi, e⟩, if_neg e, nth_clearRow F (hR2.row (by rw [normRow_length]; omega)) (hR2.row (by rw [normRow_length]; omega)) hc hx, hN hx, hN hx, hN hc, if_neg e, if_neg e, if_pos rfl, hn1, hn1, hswt]

variable (F : Fld O El) (hL : Rws El m L) (ht : t < L.length) (hk : k < L.length) (hc : c < m) (h0 : nth (nthR L k) c ≠ 0)
include F hL ht hk hc h0
theorem pivotS_sub : RSub O El m (pivotS O L t k c) L := by
  intro i hi
  rw [pivotS_length] at hi
  have hp : El (nth (nthR L k) c) := Vc.at (hL.row hk) hc
  have hpi := F.cl.inv _ hp h0
  by_cases e : i = t
  · exact ((RS.row F hk).smul F hpi).congr fun x hx => by rw [nth_pivotS F hL ht hk hc h0 hi hx, if_pos e]
  · have hs := sw_lt ht hk hi
    exact ((RS.row F hs).comb F ((RS.row F hk).smul F hpi) (s := nth (nthR L (sw t k i)) c) (Vc.at (hL.row hs) hc)).congr fun x hx => by rw [nth_pivotS F hL ht hk hc h0 hi hx, if_neg e]
theorem pivotS_sup : RSub O El m L (pivotS O L t k c) := by
  intro i hi
  have hp : El (nth (nthR L k) c) := Vc.at (hL.row hk) hc
  have hpi := F.cl.inv _ hp h0
  have htB : t < (pivotS O L t k c).length := by rw [pivotS_length]; exact ht
  by_cases e : i = k
  · refine ((RS.row F htB).smul F hp).congr fun x hx => ?_
    have hx1 : El (nth (nthR L k) x) := Vc.at (hL.row hk) hx
    rw [nth_pivotS F hL ht hk hc h0 ht hx, if_pos rfl, ← F.mul_assoc _ _ _ hp hpi hx1, F.mul_inv _ hp h0, F.one_mul _ hx1, e]
  · have hj : ∃ j, j < L.length ∧ j ≠ t ∧ sw t k j = i := by
      by_cases e2 : i = t
      · exact ⟨k, hk, by omega, by unfold sw; rw [if_neg (by omega), if_pos rfl, e2]⟩
      · exact ⟨i, hi, e2, by unfold sw; rw [if_neg e2, if_neg e]⟩
    obtain ⟨j, hj, hjt, hsw⟩ := hj
    have hs : El (nth (nthR L i) c) := Vc.at (hL.row hi) hc
    refine ((RS.row F (i := j) (by rw [pivotS_length]; exact hj)).comb F (RS.row F htB) (s := O.neg (nth (nthR L i) c)) (F.cl.neg _ hs)).congr fun x hx => ?_
    have hx1 : El (nth (nthR L k) x) := Vc.at (hL.row hk) hx
    have hx2 : El (nth (nthR L i) x) := Vc.at (hL.row hi) hx
    have hy := F.cl.mul _ _ hpi hx1
    have hq := F.cl.mul _ _ hy hs
    rw [nth_pivotS F hL ht hk hc h0 ht hx, if_pos rfl, nth_pivotS F hL ht hk hc h0 hj hx, if_neg hjt, hsw, F.mul_neg hy hs, F.neg_neg hq, F.add_assoc _ _ _ hx2 (F.cl.neg _ hq) hq, F.negadd hq, F.add_zero _ hx2]
end

theorem Piv.next (F : Fld O El) {L : List (List Int)} {P : List Int} {c k : Nat} (h : Piv L P c) (hL : Rws El m L) (hc : c < m) (ht : P.length < L.length) (hk : k < L.length) (htk : P.length ≤ k) (h0 : nth (nthR L k) c ≠ 0) :
    Piv (pivotS O L P.length k c) (P ++ [(c : Int)]) (c + 1) := by
  have hp : El (nth (nthR L k) c) := Vc.at (hL.row hk) hc
  have hpi := F.cl.inv _ hp h0
  have hsw : ∀ i, P.length ≤ i → i < L.length → P.length ≤ sw P.length k i ∧ sw P.length k i < L.length := fun i h1 h2 => by
    unfold sw; split; omega; split <;> omega
  have hswl : ∀ i, i < P.length → sw P.length k i = i := fun i h1 => by unfold sw; rw [if_neg (by omega), if_neg (by omega)]
  refine ⟨by rw [pivotS_length, List.length_append]; simp; omega, fun j hj => ?_, fun j i hj hi => ?_, fun i x h1 h2 hx => ?_⟩
  · rw [nth_push]
    rw [List.length_append, List.length_singleton] at hj
    by_cases e : j < P.length
    · rw [if_pos e]; have := h.lt j e; omega
    · rw [if_neg e, if_pos (by omega)]; omega
  · rw [List.length_append, List.length_singleton] at hj
    rw [pivotS_length] at hi
    rw [nth_push]
    by_cases e : j < P.length
    · rw [if_pos e]
      have hb := h.lt j e
      have hx : (nth P j).toNat < m := by omega
      have hk0 := h.one j k e hk
      rw [if_neg (by omega)] at hk0
      rw [nth_pivotS F hL ht hk hc h0 hi hx, hk0, F.mzero hpi]
      by_cases e2 : i = P.length
      · rw [if_pos e2, if_neg (by omega)]
      · rw [if_neg e2]
        have hsl : sw P.length k i < L.length := by unfold sw; split; omega; split <;> omega
        rw [F.zmul (Vc.at (hL.row hsl) hc), F.nzero, F.add_zero _ (Vc.at (hL.row hsl) hx), h.one j _ e hsl]
        by_cases e3 : i < P.length
        · rw [hswl i e3]
        · have := (hsw i (by omega) hi).1
          rw [if_neg (by omega), if_neg (by omega)]
    · have ej : j = P.length := by omega
      rw [if_neg e, if_pos ej, Int.toNat_natCast, nth_pivotS F hL ht hk hc h0 hi hc, ej]
      by_cases e2 : i = P.length
      · rw [if_pos e2, if_pos e2, F.mul_comm _ _ hpi hp, F.mul_inv _ hp h0]
      · rw [if_neg e2, if_neg e2]
        have hsl : sw P.length k i < L.length := by unfold sw; split; omega; split <;> omega
        have hq : El (nth (nthR L (sw P.length k i)) c) := Vc.at (hL.row hsl) hc
        rw [F.mul_comm _ _ hpi hp, F.mul_inv _ hp h0, F.one_mul _ hq, F.add_neg _ hq]
  · rw [List.length_append, List.length_singleton] at h1
    rw [pivotS_length] at h2
    have hxm : x < m := by omega
    have hs := hsw i (by omega) h2
    have hq : El (nth (nthR L (sw P.length k i)) c) := Vc.at (hL.row hs.2) hc
    rw [nth_pivotS F hL ht hk hc h0 h2 hxm, if_neg (by omega)]
    by_cases e : x = c
    · subst e
      rw [F.mul_comm _ _ hpi hp, F.mul_inv _ hp h0, F.one_mul _ hq, F.add_neg _ hq]
    · rw [h.zero _ x hs.1 hs.2 (by omega), h.zero k x htk hk (by omega), F.mzero hpi, F.zmul hq, F.nzero, F.add_zero 0 F.zero]

theorem elim_rws (F : Fld O El) {L : List (List Int)} (hL : Rws El m L) (k : Nat) (hk : k ≤ m) : Rws El m (elimTo O L k).1 :=
  (elimTo_agr (O' := O) ⟨fun _ _ _ _ => rfl, fun _ _ _ _ => rfl, fun _ _ => rfl, fun _ _ _ => rfl⟩ F.cl hL k hk).2
theorem elim_inv (F : Fld O El) {L : List (List Int)} (hL : Rws El m L) : ∀ k, k ≤ m → Piv (elimTo O L k).1 (elimTo O L k).2 k ∧ RSub O El m (elimTo O L k).1 L ∧ RSub O El m L (elimTo O L k).1
  | 0, _ => ⟨⟨Nat.zero_le _, fun j hj => by simp [elimTo] at hj, fun j i hj => by simp [elimTo] at hj, fun i x _ _ hx => by omega⟩, .refl F L, .refl F L⟩
  | k + 1, hk => by
    obtain ⟨h1, h2, h3⟩ := elim_inv F hL k (by omega)
    have hR := elim_rws F hL k (by omega)
    have hb := findRow_bd (L := (elimTo O L k).1) (c := k) (k := (elimTo O L k).2.length) h1.le
    by_cases hlt : (elimTo O L k).2.length < (elimTo O L k).1.length
    · rw [elimTo_next (Lk := (elimTo O L k).1) (P := (elimTo O L k).2) rfl hlt]
      split
      · rename_i hf
        refine ⟨⟨h1.le, fun j hj => ⟨(h1.lt j hj).1, Int.lt_trans (h1.lt j hj).2 (by omega)⟩, h1.one, fun i x hi1 hi2 hx => ?_⟩, h2, h3⟩
        by_cases e : x = k
        · subst e
          exact findTo_zero _ x ((elimTo O L x).1.length - (elimTo O L x).2.length) _ i hi1 (by show i < findRow _ x _; rw [hf]; exact hi2)
        · exact h1.zero i x hi1 hi2 (by omega)
      · rename_i hf
        have hfl : findRow (elimTo O L k).1 k (elimTo O L k).2.length < (elimTo O L k).1.length := by omega
        have hne : nth (nthR (elimTo O L k).1 (findRow (elimTo O L k).1 k (elimTo O L k).2.length)) k ≠ 0 := findTo_stop _ k _ _ (by show findRow _ k _ < _; omega)
        exact ⟨h1.next F hR (by omega) hlt hfl hb.1 hne, (pivotS_sub F hR hlt hfl (by omega) hne).trans h2, h3.trans (pivotS_sup F hR hlt hfl (by omega) hne)⟩
    · have hfull : (elimTo O L k).2.length = L.length := by have := elimTo_length O L k; have := h1.le; omega
      rw [elimTo_full hfull 1]
      have hl := elimTo_length O L k
      exact ⟨⟨h1.le, fun j hj => by have := h1.lt j hj; omega, h1.one, fun i x hi1 hi2 hx => by omega⟩, h2, h3⟩

/-- the pivots' columns are independent -/
theorem Piv.ind (F : Fld O El) {L : List (List Int)} {P : List Int} {c : Nat} (h : Piv L P c) : ∀ k, k ≤ P.length → Rk (clV O El L.length (colS L)) (grL P k) k
  | 0, _ => .nil
  | k + 1, hk => by
    rw [grL]
    refine .ind _ (fun hc => ?_) (h.ind F k (by omega))
    have hkl := h.le
    have h1 := hc (fun v => nth v k) (Lin.coord F (by omega)) fun y hy => by
      obtain ⟨j, hj, rfl⟩ := (mem_grL P y k).1 hy
      show nth (colS L _) k = 0
      rw [nth_colS L _ k (by omega), h.one j k (by omega) (by omega), if_neg (by omega)]
    have h2 : nth (colS L (nth P k).toNat) k = 0 := h1
    rw [nth_colS L _ k (by omega), h.one k k (by omega) (by omega), if_pos rfl] at h2
    exact absurd h2 (by decide)

/-- a column, less its first k entries' multiples of the pivots' columns -/
def lessTo (O : FOps) (L : List (List Int)) (P : List Int) (v : List Int) : Nat → List Int
  | 0 => v
  | k + 1 => subRow O (lessTo O L P v k) (nth (lessTo O L P v k) k) (colS L (nth P k).toNat)
theorem Piv.less (F : Fld O El) {L : List (List Int)} {P : List Int} {c : Nat} (h : Piv L P c) (hL : Rws El m L) {v : List Int} (hv : Vc El L.length v) {φ : List Int → Int} (hφ : Lin O El L.length φ)
    (h0 : ∀ j, j < P.length → φ (colS L (nth P j).toNat) = 0) : ∀ k, k ≤ P.length → Vc El L.length (lessTo O L P v k) ∧ φ (lessTo O L P v k) = φ v ∧ ∀ i, i < L.length → nth (lessTo O L P v k) i = if i < k then 0 else nth v i
  | 0, _ => ⟨hv, rfl, fun i _ => by rw [if_neg (by omega)]; rfl⟩
  | k + 1, hk => by
    obtain ⟨h1, h2, h3⟩ := h.less F hL hv hφ h0 k (by omega)
    have hle := h.le
    have hcol := colS_vc hL F.zero (nth P k).toNat
    have hx := h1.at (i := k) (by omega)
    refine ⟨h1.sub F hcol hx, ?_, fun i hi => ?_⟩
    · rw [lessTo, hφ.sub _ _ _ h1 hcol hx, h0 k (by omega), F.mzero hx, F.nzero, F.add_zero _ (hφ.el _ h1), h2]
    · rw [lessTo, nth_subRow O _ _ _ i (by rw [hcol.1, h1.1]) (by rw [h1.1]; exact hi), nth_colS L _ i hi, h.one k i (by omega) hi]
      by_cases e : i = k
      · subst e
        rw [if_pos rfl, F.mone hx, F.add_neg _ hx, if_pos (by omega)]
      · rw [if_neg e, F.mzero hx, F.nzero, F.add_zero _ (h1.at hi), h3 i hi]
        by_cases e2 : i < k
        · rw [if_pos e2, if_pos (by omega)]
        · rw [if_neg e2, if_neg (by omega)]
theorem Piv.all (F : Fld O El) {L : List (List Int)} {P : List Int} (h : Piv L P m) (hL : Rws El m L) {x : Nat} (hx : x < m) : clV O El L.length (colS L) (grL P P.length) x := by
  intro φ hφ h0
  obtain ⟨h1, h2, h3⟩ := h.less F hL (colS_vc hL F.zero x) hφ (fun j hj => h0 _ ((mem_grL P _ _).2 ⟨j, hj, rfl⟩)) _ (Nat.le_refl _)
  rw [← h2]
  refine hφ.zero F h1 fun i hi => ?_
  rw [h3 i hi]
  split
  · rfl
  · rw [nth_colS L x i hi]
    exact h.zero i x (by omega) hi hx

theorem Rk.map {cl cl' : List Nat → Nat → Prop} (D : Nat → Prop) (f : Nat → Nat) (hc : ∀ l x, (∀ y ∈ l, D y) → D x → (cl l x ↔ cl' (l.map f) (f x))) {l : List Nat} {r : Nat} (h : Rk cl l r) : (∀ y ∈ l, D y) → Rk cl' (l.map f) r := by
  induction h with
  | nil => intro _; exact .nil
  | dep x hx _ ih =>
    intro hD
    exact .dep _ ((hc _ _ (fun y hy => hD y (List.mem_cons.2 (.inr hy))) (hD x (by simp))).1 hx) (ih fun y hy => hD y (List.mem_cons.2 (.inr hy)))
  | ind x hx _ ih =>
    intro hD
    exact .ind _ (fun h => hx ((hc _ _ (fun y hy => hD y (List.mem_cons.2 (.inr hy))) (hD x (by simp))).2 h)) (ih fun y hy => hD y (List.mem_cons.2 (.inr hy)))

/-- the number of the pivots is the rank of the columns -/
theorem piv_rk (F : Fld O El) {L : List (List Int)} (hL : Rws El m L) : Rk (clV O El L.length (colS L)) (List.range m) (elimTo O L m).2.length := by
  obtain ⟨h1, h2, h3⟩ := elim_inv F hL m (Nat.le_refl _)
  have hR := elim_rws F hL m (Nat.le_refl _)
  have hC := col_clo F hR
  have k1 := (h1.ind F _ (Nat.le_refl _)).absorb hC (List.range m) fun x hx => h1.all F hR (List.mem_range.1 hx)
  have k2 := Rk.map (cl' := clV O El L.length (colS L)) (fun y => y < m) id (fun l x hl hx => by rw [List.map_id]; exact ⟨h3.cl hl hx, h2.cl hl hx⟩) k1 fun y hy => by
    rcases List.mem_append.1 hy with hy | hy
    · exact List.mem_range.1 hy
    · obtain ⟨j, hj, rfl⟩ := (mem_grL _ _ _).1 hy
      have := h1.lt j hj
      omega
  obtain ⟨r, hr⟩ := Rk.ex (clV O El L.length (colS L)) (List.range m)
  have e := Rk.same (col_clo F hL) k2 hr fun x => by
    rw [List.map_id, List.mem_append]
    constructor
    · rintro (h | h)
      · exact h
      · obtain ⟨j, hj, rfl⟩ := (mem_grL _ _ _).1 h
        have := h1.lt j hj
        exact List.mem_range.2 (by omega)
    · exact .inl
  rw [e]; exact hr

/-- the entries at the positions Q -/
def pickL (Q : List Int) (r : List Int) : List Int := Q.map fun q => nth r q.toNat
theorem nth_pickL (Q r : List Int) {i : Nat} (hi : i < Q.length) : nth (pickL Q r) i = nth r (nth Q i).toNat := by
  rw [nth_getElem (show i < (pickL Q r).length by simpa [pickL] using hi), nth_getElem hi]; simp [pickL]
theorem pick_rws {L : List (List Int)} (hL : Rws El n L) {Q : List Int} (hQ : ∀ j, j < Q.length → 0 ≤ nth Q j ∧ nth Q j < n) : Rws El Q.length (L.map (pickL Q)) := by
  intro r hr
  obtain ⟨r0, h0, rfl⟩ := List.mem_map.1 hr
  refine ⟨by simp [pickL], fun x hx => ?_⟩
  obtain ⟨q, hq, rfl⟩ := List.mem_map.1 hx
  obtain ⟨j, hj, rfl⟩ := List.mem_iff_getElem.1 hq
  have := hQ j hj
  rw [nth_getElem hj] at this
  exact (hL r0 h0).2 _ (nth_mem (by rw [(hL r0 h0).1]; omega))
theorem pick_rk (F : Fld O El) {L : List (List Int)} (hL : Rws El n L) {Q : List Int} (hQ : ∀ j, j < Q.length → 0 ≤ nth Q j ∧ nth Q j < n) :
    Rk (clV O El L.length (colS L)) ((List.range Q.length).map fun j => (nth Q j).toNat) (elimTo O (L.map (pickL Q)) Q.length).2.length := by
  have hR := pick_rws hL hQ
  have hcol : ∀ j, j < Q.length → colS (L.map (pickL Q)) j = colS L (nth Q j).toNat := fun j hj => by
    unfold colS
    rw [List.map_map]
    exact List.map_congr_left fun r _ => nth_pickL Q r hj
  refine Rk.map (fun j => j < Q.length) _ (fun l x hl hx => ?_) (piv_rk F hR) fun y hy => List.mem_range.1 hy
  unfold clV
  rw [List.length_map]
  constructor
  · intro h φ hφ h0
    rw [← hcol x hx]
    refine h φ hφ fun y hy => ?_
    rw [hcol y (hl y hy)]
    exact h0 _ (List.mem_map.2 ⟨y, hy, rfl⟩)
  · intro h φ hφ h0
    rw [hcol x hx]
    refine h φ hφ fun y hy => ?_
    obtain ⟨j, hj, rfl⟩ := List.mem_map.1 hy
    rw [← hcol j (hl j hj)]
    exact h0 j hj
end
end

/- Ranks of a code and of the code that is orthogonal to it. -/
section
section
variable {O : FOps} {El : Int → Prop} {m n : Nat}

/-- the sum of the products -/
def dotN (O : FOps) (a b : Nat → Int) : Nat → Int
  | 0 => 0
  | t + 1 => O.add (dotN O a b t) (O.mul (a t) (b t))
theorem dotN_el (F : Fld O El) {a b : Nat → Int} : ∀ t, (∀ p, p < t → El (a p)) → (∀ p, p < t → El (b p)) → El (dotN O a b t)
  | 0, _, _ => F.zero
  | t + 1, ha, hb => F.cl.add _ _ (dotN_el F t (fun p hp => ha p (by omega)) fun p hp => hb p (by omega)) (F.cl.mul _ _ (ha t (by omega)) (hb t (by omega)))
theorem dotN_comm (F : Fld O El) {a b : Nat → Int} : ∀ t, (∀ p, p < t → El (a p)) → (∀ p, p < t → El (b p)) → dotN O a b t = dotN O b a t
  | 0, _, _ => rfl
  | t + 1, ha, hb => by
    rw [dotN, dotN, dotN_comm F t (fun p hp => ha p (by omega)) fun p hp => hb p (by omega), F.mul_comm _ _ (ha t (by omega)) (hb t (by omega))]
theorem dotN_congr {a b a' b' : Nat → Int} : ∀ t, (∀ p, p < t → a p = a' p ∧ b p = b' p) → dotN O a b t = dotN O a' b' t
  | 0, _ => rfl
  | t + 1, h => by rw [dotN, dotN, dotN_congr t fun p hp => h p (by omega), (h t (by omega)).1, (h t (by omega)).2]
theorem dotN_one (F : Fld O El) {a b : Nat → Int} {x : Nat} (hx : El (O.mul (a x) (b x))) : ∀ t, (∀ p, p < t → p ≠ x → O.mul (a p) (b p) = 0) → dotN O a b t = if x < t then O.mul (a x) (b x) else 0
  | 0, _ => rfl
  | t + 1, h => by
    rw [dotN, dotN_one F hx t fun p hp => h p (by omega)]
    by_cases e : t = x
    · subst e
      rw [if_neg (by omega), if_pos (by omega), F.zadd hx]
    · rw [h t (by omega) e]
      by_cases e2 : x < t
      · rw [if_pos e2, if_pos (by omega), F.add_zero _ hx]
      · rw [if_neg e2, if_neg (by omega), F.add_zero 0 F.zero]
/-- the sum of the columns with the weights r -/
def colN (O : FOps) (r : Nat → Int) (K : List (List Int)) : Nat → List Int
  | 0 => List.replicate K.length 0
  | t + 1 => subRow O (colN O r K t) (O.neg (r t)) (colS K t)
theorem colN_vc (F : Fld O El) {r : Nat → Int} {K : List (List Int)} (hK : Rws El m K) : ∀ t, (∀ p, p < t → El (r p)) → Vc El K.length (colN O r K t)
  | 0, _ => ⟨by simp [colN], fun y hy => by
    have := List.eq_of_mem_replicate hy
    rw [this]; exact F.zero⟩
  | t + 1, hr => (colN_vc F hK t fun p hp => hr p (by omega)).sub F (colS_vc hK F.zero t) (F.cl.neg _ (hr t (by omega)))
theorem colN_at (F : Fld O El) {r : Nat → Int} {K : List (List Int)} (hK : Rws El m K) {j : Nat} (hj : j < K.length) : ∀ t, t ≤ m → (∀ p, p < t → El (r p)) → nth (colN O r K t) j = dotN O r (fun p => nth (nthR K j) p) t
  | 0, _, _ => by simp [colN, dotN, nth, List.getD_eq_getElem?_getD, List.getElem?_replicate, hj]
  | t + 1, ht, hr => by
    have hv := colN_vc F hK t fun p hp => hr p (by omega)
    have hc := colS_vc hK F.zero t
    have hrt := hr t (by omega)
    have hx : El (nth (nthR K j) t) := Vc.at (hK.row hj) (by omega)
    rw [colN, nth_subRow O _ _ _ j (by rw [hc.1, hv.1]) (by rw [hv.1]; exact hj), colN_at F hK hj t (by omega) fun p hp => hr p (by omega), nth_colS K t j hj, F.neg_mul hrt hx, F.neg_neg (F.cl.mul _ _ hrt hx)]
    rfl
theorem colN_form (F : Fld O El) {r : Nat → Int} {K : List (List Int)} (hK : Rws El m K) {φ : List Int → Int} (hφ : Lin O El K.length φ) : ∀ t, (∀ p, p < t → El (r p)) → φ (colN O r K t) = dotN O r (fun p => φ (colS K p)) t
  | 0, _ => hφ.zero F (colN_vc F hK 0 fun p hp => by omega) fun i hi => by simp [colN, nth, List.getD_eq_getElem?_getD, List.getElem?_replicate, hi]
  | t + 1, hr => by
    have hv := colN_vc F hK t fun p hp => hr p (by omega)
    have hc := colS_vc hK F.zero t
    have hrt := hr t (by omega)
    have hx := hφ.el _ hc
    rw [colN, hφ.sub _ _ _ hv hc (F.cl.neg _ hrt), colN_form F hK hφ t fun p hp => hr p (by omega), F.neg_mul hrt hx, F.neg_neg (F.cl.mul _ _ hrt hx)]
    rfl
theorem form_dot (F : Fld O El) {r : Nat → Int} {K : List (List Int)} (hK : Rws El m K) {φ : List Int → Int} (hφ : Lin O El K.length φ) (hr : ∀ p, p < m → El (r p)) (h : ∀ j, j < K.length → dotN O r (fun p => nth (nthR K j) p) m = 0) :
    dotN O r (fun p => φ (colS K p)) m = 0 := by
  rw [← colN_form F hK hφ m hr]
  exact hφ.zero F (colN_vc F hK m hr) fun i hi => by rw [colN_at F hK hi m (Nat.le_refl _) hr]; exact h i hi

/-- the rows of the one are orthogonal to those of the other -/
def Orth (O : FOps) (m : Nat) (G K : List (List Int)) : Prop := ∀ i j, i < G.length → j < K.length → dotN O (fun p => nth (nthR G i) p) (fun p => nth (nthR K j) p) m = 0
variable {G K : List (List Int)}
theorem Orth.symm (F : Fld O El) (hG : Rws El m G) (hK : Rws El m K) (h : Orth O m G K) : Orth O m K G := fun i j hi hj => by
  rw [dotN_comm F m (fun p hp => Vc.at (hK.row hi) hp) fun p hp => Vc.at (hG.row hj) hp]
  exact h j i hj hi
theorem Orth.forms (F : Fld O El) (hG : Rws El m G) (hK : Rws El m K) (h : Orth O m G K) {φ ψ : List Int → Int} (hφ : Lin O El K.length φ) (hψ : Lin O El G.length ψ) :
    dotN O (fun p => φ (colS K p)) (fun p => ψ (colS G p)) m = 0 := by
  have hcφ : ∀ p, p < m → El (φ (colS K p)) := fun p _ => hφ.el _ (colS_vc hK F.zero p)
  refine form_dot F hG hψ hcφ fun i hi => ?_
  rw [dotN_comm F m hcφ fun p hp => Vc.at (hG.row hi) hp]
  exact form_dot F hK hφ (fun p hp => Vc.at (hG.row hi) hp) fun j hj => h i j hi hj
/-- what is not in the closure of the ones is in that of the others -/
theorem Orth.cl (F : Fld O El) (hG : Rws El m G) (hK : Rws El m K) (h : Orth O m G K) {A B : List Nat} {x : Nat} (hx : x < m) (hAB : ∀ p, p < m → p ≠ x → p ∈ A ∨ p ∈ B) (hn : ¬ clV O El G.length (colS G) A x) :
    clV O El K.length (colS K) B x := by
  intro φ hφ h0
  apply Classical.byContradiction
  intro hne
  apply hn
  intro ψ hψ hA
  have hd := h.forms F hG hK hφ hψ
  have e1 := hφ.el _ (colS_vc hK F.zero x)
  have e2 := hψ.el _ (colS_vc hG F.zero x)
  rw [dotN_one F (x := x) (F.cl.mul _ _ e1 e2) m fun p hp hpx => ?_, if_pos hx] at hd
  · exact F.mul_ne e1 e2 hne hd
  · rcases hAB p hp hpx with h1 | h1
    · show O.mul (φ (colS K p)) (ψ (colS G p)) = 0
      rw [hA p h1, F.mzero (hφ.el _ (colS_vc hK F.zero p))]
    · show O.mul (φ (colS K p)) (ψ (colS G p)) = 0
      rw [h0 p h1, F.zmul (hψ.el _ (colS_vc hG F.zero p))]

end
end

/- The kernel of a canonical matrix; canonical matrices are fixed. -/
section
section
variable {O : FOps} {El : Int → Prop} {m n : Nat}

/-- the rows are 0 ahead of their pivots, which ascend -/
structure Lead (L : List (List Int)) (P : List Int) : Prop where
  lead : ∀ i x, i < P.length → x < (nth P i).toNat → nth (nthR L i) x = 0
  asc : ∀ i j, i < j → j < P.length → nth P i < nth P j
theorem elim_lead (F : Fld O El) {L : List (List Int)} (hL : Rws El m L) : ∀ k, k ≤ m → Lead (elimTo O L k).1 (elimTo O L k).2
  | 0, _ => ⟨fun i x hi => by simp [elimTo] at hi, fun i j _ hj => by simp [elimTo] at hj⟩
  | k + 1, hk => by
    have ih := elim_lead F hL k (by omega)
    obtain ⟨h1, _, _⟩ := elim_inv F hL k (by omega)
    have hR := elim_rws F hL k (by omega)
    have hb := findRow_bd (L := (elimTo O L k).1) (c := k) (k := (elimTo O L k).2.length) h1.le
    by_cases hlt : (elimTo O L k).2.length < (elimTo O L k).1.length
    · rw [elimTo_next (Lk := (elimTo O L k).1) (P := (elimTo O L k).2) rfl hlt]
      split
      · exact ih
      · rename_i hf
        have hfl : findRow (elimTo O L k).1 k (elimTo O L k).2.length < (elimTo O L k).1.length := by omega
        have hne : nth (nthR (elimTo O L k).1 (findRow (elimTo O L k).1 k (elimTo O L k).2.length)) k ≠ 0 := findTo_stop _ k _ _ (by show findRow _ k _ < _; omega)
        generalize findRow (elimTo O L k).1 k (elimTo O L k).2.length = r at *
        generalize (elimTo O L k).1 = A at *
        generalize (elimTo O L k).2 = P at *
        have hp : El (nth (nthR A r) k) := Vc.at (hR.row hfl) (by omega)
        have hpi := F.cl.inv _ hp hne
        refine ⟨fun i x hi hx => ?_, fun i j hij hj => ?_⟩
        · rw [List.length_append, List.length_singleton] at hi
          have hx' : x < m := by
            rw [nth_push] at hx
            by_cases e : i < P.length
            · rw [if_pos e] at hx; have := h1.lt i e; omega
            · rw [if_neg e, if_pos (by omega)] at hx; omega
          rw [nth_pivotS F hR hlt hfl (by omega) hne (i := i) (by omega) hx']
          rw [nth_push] at hx
          by_cases e : i < P.length
          · rw [if_pos e] at hx
            have h2 := h1.lt i e
            rw [if_neg (by omega), show sw P.length r i = i by unfold sw; rw [if_neg (by omega), if_neg (by omega)], h1.zero r x hb.1 hfl (by omega), F.mzero hpi, F.zmul (Vc.at (hR.row (by omega)) (by omega)), F.nzero, F.add_zero _ (Vc.at (hR.row (by omega)) hx')]
            exact ih.lead i x e hx
          · rw [if_neg e, if_pos (by omega)] at hx
            rw [if_pos (by omega), h1.zero r x hb.1 hfl (by omega), F.mzero hpi]
        · rw [List.length_append, List.length_singleton] at hj
          rw [nth_push, nth_push, if_pos (by omega)]
          by_cases e : j < P.length
          · rw [if_pos e]; exact ih.asc i j hij e
          · rw [if_neg e, if_pos (by omega)]
            have := h1.lt i (by omega)
            omega
    · have hfull : (elimTo O L k).2.length = L.length := by have := elimTo_length O L k; have := h1.le; omega
      rw [elimTo_full hfull 1]
      exact ih

theorem inv_one (F : Fld O El) : O.inv 1 = 1 := by
  have h := F.mul_inv 1 F.one (by decide)
  rwa [F.one_mul _ (F.cl.inv 1 F.one (by decide))] at h
theorem clearTo_id (O : FOps) {R : List (List Int)} {t c : Nat} (h : ∀ i, i < R.length → i ≠ t → nth (nthR R i) c = 0) : ∀ i, i ≤ R.length → clearTo O t c R i = R
  | 0, _ => rfl
  | i + 1, hi => by
    unfold clearTo
    rw [clearTo_id O h i (by omega)]
    split
    · rfl
    · rename_i e
      unfold clearRow
      rw [if_pos (h i (by omega) e), set_nthR]
/-- a canonical matrix stays -/
theorem elim_fix (F : Fld O El) {R : List (List Int)} {P : List Int} (hP : Piv R P m) (hl : Lead R P) (hlen : R.length = P.length) : ∀ k, k ≤ m →
    ∃ t, t ≤ P.length ∧ elimTo O R k = (R, P.take t) ∧ (∀ j, j < t → nth P j < k) ∧ (∀ j, t ≤ j → j < P.length → (k : Int) ≤ nth P j)
  | 0, _ => ⟨0, Nat.zero_le _, by simp [elimTo], fun j hj => by omega, fun j _ hj => (hP.lt j hj).1⟩
  | k + 1, hk => by
    obtain ⟨t, ht, he, h1, h2⟩ := elim_fix F hP hl hlen k (by omega)
    have htl : (P.take t).length = t := by rw [List.length_take]; omega
    by_cases htt : t = P.length
    · refine ⟨t, ht, ?_, fun j hj => by have := h1 j hj; omega, fun j h3 h4 => by omega⟩
      have hfull : (elimTo O R k).2.length = R.length := by rw [he]; show (P.take t).length = _; omega
      rw [elimTo_full hfull 1, he]
    · have htR : t < R.length := by omega
      rw [elimTo_next (Lk := R) (P := P.take t) he.symm (by rw [htl]; exact htR), htl]
      by_cases hpk : nth P t = k
      · have h11 := hP.one t t (by omega) htR
        rw [hpk, if_pos rfl, Int.toNat_natCast] at h11
        have hf : findRow R k t = t := by rw [findRow_step htR, if_neg (by rw [h11]; decide)]
        rw [hf, if_neg (by omega)]
        have hpv : pivotS O R t t k = R := by
          rw [pivotS_eq, if_pos rfl]
          have hn : normRow O R t k = R := by unfold normRow; rw [h11, if_pos (inv_one F)]
          rw [hn]
          refine clearTo_id O (fun i hi hit => ?_) _ (Nat.le_refl _)
          have := hP.one t i (by omega) hi
          rw [hpk, if_neg hit, Int.toNat_natCast] at this
          exact this
        rw [hpv]
        refine ⟨t + 1, by omega, ?_, fun j hj => ?_, fun j h3 h4 => ?_⟩
        · rw [List.take_succ_eq_append_getElem (by omega), ← nth_getElem, hpk]
        · by_cases e : j = t
          · subst e; omega
          · have := h1 j (by omega); omega
        · have := hl.asc t j (by omega) h4
          omega
      · have hgt : (k : Int) < nth P t := by have := h2 t (Nat.le_refl _) (by omega); omega
        have hz : ∀ i, t ≤ i → i < R.length → nth (nthR R i) k = 0 := fun i h3 h4 => by
          refine hl.lead i k (by omega) ?_
          by_cases e : i = t
          · subst e; omega
          · have := hl.asc t i (by omega) (by omega); omega
        have hf : ∀ d i, d = R.length - i → t ≤ i → i ≤ R.length → findRow R k i = R.length := by
          intro d
          induction d with
          | zero => intro i h3 _ h5; rw [findRow_end (by omega)]; omega
          | succ d ih =>
            intro i h3 h4 h5
            rw [findRow_step (by omega), if_pos (hz i h4 (by omega))]
            exact ih (i + 1) (by omega) (by omega) (by omega)
        rw [hf _ t rfl (Nat.le_refl _) (by omega), if_pos rfl]
        refine ⟨t, ht, rfl, fun j hj => by have := h1 j hj; omega, fun j h3 h4 => ?_⟩
        by_cases e : j = t
        · subst e; omega
        · have := hl.asc t j (by omega) h4; omega
theorem elim_fixed (F : Fld O El) {R : List (List Int)} {P : List Int} (hP : Piv R P m) (hl : Lead R P) (hlen : R.length = P.length) : elimTo O R m = (R, P) := by
  obtain ⟨t, ht, he, h1, h2⟩ := elim_fix F hP hl hlen m (Nat.le_refl _)
  have : t = P.length := by
    apply Classical.byContradiction
    intro h
    have h3 := h2 t (Nat.le_refl _) (by omega)
    have h4 := hP.lt t (by omega)
    omega
  rw [he, this, List.take_length]

/-- the canonical rows of L -/
def canO (O : FOps) (m : Nat) (L : List (List Int)) : List (List Int) := (elimTo O L m).1.take (elimTo O L m).2.length
theorem nthR_takeK {L : List (List Int)} {t i : Nat} (h : i < t) : nthR (L.take t) i = nthR L i := by
  unfold nthR
  simp only [List.getD_eq_getElem?_getD, List.getElem?_take]
  rw [if_pos h]
theorem canO_len (F : Fld O El) {L : List (List Int)} (hL : Rws El m L) : (canO O m L).length = (elimTo O L m).2.length := by
  have h1 := (elim_inv F hL m (Nat.le_refl _)).1.le
  unfold canO
  rw [List.length_take]; omega
theorem canO_rws (F : Fld O El) {L : List (List Int)} (hL : Rws El m L) : Rws El m (canO O m L) := fun r hr => elim_rws F hL m (Nat.le_refl _) r (List.mem_of_mem_take hr)
theorem canO_piv (F : Fld O El) {L : List (List Int)} (hL : Rws El m L) : Piv (canO O m L) (elimTo O L m).2 m ∧ Lead (canO O m L) (elimTo O L m).2 := by
  have h1 := (elim_inv F hL m (Nat.le_refl _)).1
  have h2 := elim_lead F hL m (Nat.le_refl _)
  have hl := canO_len F hL
  refine ⟨⟨by omega, h1.lt, fun j i hj hi => ?_, fun i x hi1 hi2 _ => by omega⟩, ⟨fun i x hi hx => ?_, h2.asc⟩⟩
  · unfold canO
    rw [nthR_takeK (by omega)]
    exact h1.one j i hj (by have := h1.le; omega)
  · unfold canO
    rw [nthR_takeK hi]
    exact h2.lead i x hi hx
theorem RS.nul (F : Fld O El) {L : List (List Int)} {f : Nat → Int} (h : ∀ x, x < m → f x = 0) : RS O El m L f := by
  refine ⟨fun _ => 0, ⟨fun _ _ => F.zero, fun v r x hv hr hx => ?_, fun r x hr hx => (F.mzero hx).symm⟩, fun x hx => h x hx⟩
  show (0 : Int) = O.add 0 (O.neg (O.mul x 0))
  rw [F.mzero hx, F.nzero, F.add_zero 0 F.zero]
theorem canO_rsub (F : Fld O El) {L : List (List Int)} (hL : Rws El m L) : RSub O El m (canO O m L) L ∧ RSub O El m L (canO O m L) := by
  obtain ⟨h1, h2, h3⟩ := elim_inv F hL m (Nat.le_refl _)
  have hl := canO_len F hL
  refine ⟨fun i hi => ?_, h3.trans fun i hi => ?_⟩
  · have e : nthR (canO O m L) i = nthR (elimTo O L m).1 i := by unfold canO; exact nthR_takeK (by omega)
    rw [e]; exact h2 i (by have := h1.le; omega)
  · by_cases e : i < (elimTo O L m).2.length
    · have e2 : nthR (elimTo O L m).1 i = nthR (canO O m L) i := by unfold canO; exact (nthR_takeK e).symm
      rw [e2]; exact RS.row F (by omega)
    · exact RS.nul F fun x hx => h1.zero i x (by omega) hi hx
/-- the number of the canonical rows is the rank of their columns -/
theorem canO_rk (F : Fld O El) {L : List (List Int)} (hL : Rws El m L) : Rk (clV O El (canO O m L).length (colS (canO O m L))) (List.range m) (canO O m L).length := by
  have h := piv_rk F (canO_rws F hL)
  obtain ⟨h1, h2⟩ := canO_piv F hL
  rw [elim_fixed F h1 h2 (canO_len F hL)] at h
  rw [canO_len F hL]
  rw [canO_len F hL] at h
  exact h

variable {R : List (List Int)} {P : List Int}
end
end

/- The walks of the reference of layer 4: Order, prime, digits, Is, In, Digits, Value. -/
section
open Go.RowKit

/-- the parameters of a field's description that is in range -/
structure RF (P : Int) (m : Nat) : Prop where
  p2 : 2 ≤ P
  p256 : P ≤ 256
  m1 : 1 ≤ m
  m8 : m ≤ 8
  pw : P ^ m ≤ 256
theorem RF.res {P : Int} {m : Nat} (h : RF P m) : Res P m := ⟨h.p2, h.m1⟩
theorem RF.order {P : Int} {m : Nat} (h : RF P m) : orderS P m = P ^ m := by
  have := h.p2; have := h.p256; have := h.m1; have := h.m8
  have e := orderS_in (p := P) (m := m) (by omega) (by simpa using h.pw)
  rwa [Int.toNat_natCast] at e
theorem RF.of {P M : Int} (h : orderS P M ≠ 0) : ∃ m : Nat, M = m ∧ RF P m := by
  obtain ⟨h1, h2, h3, h4, h5, h6⟩ := orderS_ne h
  exact ⟨M.toNat, by omega, ⟨h1, h2, by omega, by omega, h5⟩⟩

set_option maxHeartbeats 1600000 in
theorem rOrder_any (P M : Int) (am : Option Addr) (mn cm : Nat) (w : World) :
    Calls Tryz.prog 130 #[.agg #[.int .i64 P, .int .i64 M, .slice am mn cm]] w fun e w' => e = .returned (.int .i64 (orderS P M)) ∧ Below w.heap.size w w' := by
  have Hal := Lib.hid (below1 w (.cells #[.int .i64 P, .int .i64 M, .slice am mn cm] 24))
  by_cases h1 : P < 2
  · have Ho := Lib.hid (orderS_out (p := P) (m := M) (.inl h1))
    go_enter Tryz.func130, Tryz.ntmps130
    go_wp2
    go_ret
    exact ⟨ret_int Ho.out.symm, Hal.out⟩
  have h1' : decide (P < 2) = false := by simpa using h1
  by_cases h2 : M < 1
  · have Ho := Lib.hid (orderS_out (p := P) (m := M) (.inr (.inr (.inl h2))))
    go_enter Tryz.func130, Tryz.ntmps130
    go_wp2
    go_ret
    exact ⟨ret_int Ho.out.symm, Hal.out⟩
  have h2' : decide (M < 1) = false := by simpa using h2
  by_cases h3 : 8 < M
  · have Ho := Lib.hid (orderS_out (p := P) (m := M) (.inr (.inr (.inr h3))))
    go_enter Tryz.func130, Tryz.ntmps130
    go_wp2
    go_ret
    exact ⟨ret_int Ho.out.symm, Hal.out⟩
  have h3' : decide (8 < M) = false := by simpa using h3
  obtain ⟨n, rfl⟩ : ∃ n : Nat, M = n := ⟨M.toNat, by omega⟩
  go_enter Tryz.func130, Tryz.ntmps130
  go_wp2_with fail
  obtain ⟨W, hW⟩ : ∃ W : World, W = w.alloc (.cells #[.int .i64 P, .int .i64 n, .slice am mn cm] 24) := ⟨_, rfl⟩
  rw [← hW]
  have hbW : Below w.heap.size w W := by rw [hW]; exact below1 _ _
  have c0 : W.cell? ⟨w.heap.size, 0, none⟩ = some (.int .i64 P) := by rw [hW]; exact cell_alloc_at _ _ _ rfl 0
  have c1 : W.cell? ⟨w.heap.size, 1, none⟩ = some (.int .i64 n) := by rw [hW]; exact cell_alloc_at _ _ _ rfl 1
  clear hW
  go_loop [3, 4] (fun qv iv => ∃ k : Nat, k ≤ n ∧ iv = .int .i64 k ∧ qv = .int .i64 (P ^ k) ∧ P ^ k ≤ 256 ∧ 1 ≤ P ^ k) (fun _ i => n - (intOf i).toNat)
  case atStart => exact ⟨0, Nat.zero_le _, rfl, by simp, by simp, by simp⟩
  case round =>
    obtain ⟨k, hk, rfl, rfl, hb, hb1⟩ := hrel
    have hP0 : P ≠ 0 := by omega
    by_cases hlt : k < n
    · have e1 : P ^ (k + 1) = P ^ k * P := Int.pow_succ _ _
      have hd0 : (0 : Int) ≤ 256 / P := Int.ediv_nonneg (by omega) (by omega)
      have hd1 : 256 / P ≤ 256 := Int.ediv_le_self _ (by omega)
      by_cases h5 : 256 / P < P ^ k
      · have hbig : orderS P n = 0 := orderS_big (by
          intro h
          have h6 := pow_mono (show 1 ≤ P by omega) (show k + 1 ≤ n by omega)
          rw [Int.toNat_natCast] at h
          have h7 : 256 < P ^ k * P := Int.lt_mul_of_ediv_lt (by omega) h5
          omega)
        have Hb := Lib.hid hbig
        clear e1 hbig
        generalize P ^ k = q at *
        go_wp2
        go_ret
        exact ⟨ret_int Hb.out.symm, hbW⟩
      · have h7 : P ^ k * P ≤ 256 := by
          have h8 := Int.mul_le_mul_of_nonneg_right (show P ^ k ≤ 256 / P by omega) (show 0 ≤ P by omega)
          have h9 := Int.ediv_mul_le 256 hP0
          omega
        have e3 : 1 * 1 ≤ P ^ k * P := Int.mul_le_mul hb1 (by omega) (by omega) (by omega)
        have E1 := Lib.hid e1
        clear e1
        generalize P ^ k = q at *
        go_wp2
        go_round
        case rel => exact ⟨k + 1, by omega, by go_num, by rw [E1.out], by rw [E1.out]; exact h7, by rw [E1.out]; omega⟩
        case measure => simp [intOf] <;> omega
    · obtain rfl : k = n := by omega
      by_cases h256 : 256 < P
      · have hk1 : 1 ≤ k := by omega
        have h6 := pow_mono (show 1 ≤ P by omega) hk1
        have h8 : P ^ 1 = P := by rw [Int.pow_succ, Int.pow_zero, Int.one_mul]
        omega
      · have Hb := Lib.hid (orderS_in (p := P) (m := k) (by omega) (by simpa using hb))
        go_wp2
        go_ret
        exact ⟨ret_int (by rw [Hb.out]; simp), hbW⟩

set_option maxHeartbeats 400000 in
theorem rPrime_any (n : Nat) (w : World) (h2 : 2 ≤ n) (h256 : n ≤ 256) :
    Calls Tryz.prog 131 #[.int .i64 n] w fun e w' => e = .returned (.bool (primeB n)) ∧ w = w' := by
  go_enter Tryz.func131, Tryz.ntmps131
  go_wp2
  go_loop [3] (fun dv => ∃ d : Nat, 2 ≤ d ∧ d ≤ n ∧ dv = .int .i64 d ∧ Hid (∀ e, 2 ≤ e → e < d → n % e ≠ 0)) (fun d => n + 1 - (intOf d).toNat)
  case atStart => exact ⟨2, Nat.le_refl _, h2, rfl, fun e he he2 => by omega⟩
  case round =>
    obtain ⟨d, hd2, hdn, rfl, hno⟩ := hrel
    have hd0 : (d : Int) ≠ 0 := by omega
    by_cases hs : d < n
    · by_cases hm : n % d = 0
      · have hm' : ((n : Int) % d == 0) = true := by simp; exact_mod_cast hm
        have Hf := Lib.hid (primeB_no hd2 hs hm)
        clear hm
        go_wp2
        go_ret
        exact ⟨ret_bool Hf.out.symm, rfl⟩
      · have hm' : ((n : Int) % d == 0) = false := by simp; exact_mod_cast hm
        have Hm := Lib.hid hm
        clear hm
        go_wp2
        go_round
        case rel =>
          refine ⟨d + 1, by omega, by omega, by go_num, fun e he he2 => ?_⟩
          rcases Nat.lt_or_ge e d with h | h
          · exact hno.out e he h
          · rw [show e = d from by omega]; exact Hm.out
        case measure => simp [intOf] <;> omega
    · have Hf := Lib.hid (primeB_yes (n := n) fun e he he2 => hno.out e he (by omega))
      go_wp2
      go_ret
      exact ⟨ret_bool (by rw [Hf.out]), rfl⟩

set_option maxHeartbeats 400000 in
theorem rdigits_any (x p : Int) (m : Nat) (w : World) (hx : 0 ≤ x) (hx2 : x ≤ 9223372036854775807) (hp : 1 ≤ p) (hm : m ≤ 256) :
    Calls Tryz.prog 175 #[.int .i64 x, .int .i64 p, .int .i64 m] w (NewInts w (digs x p m)) := by
  go_enter Tryz.func175, Tryz.ntmps175
  go_wp2_with (at_make; refine wpList_mk rfl _ _ 22 3 rfl (.int .i64 0) 8 Tryz.underlying22 infoInt rfl m rfl rfl (by omega) (by unfold maxLen; omega) ?_; intro a w1 hown hbel hge hlt)
  go_loopw [0, 8] (fun xv iv wr => ∃ k : Nat, k ≤ m ∧ iv = .int .i64 k ∧ xv = .int .i64 (dquo x p k) ∧
      wr.ownsRow w.heap.size 3 1 (.slice a m m) m ((fillTo (digs x p k) k m).map (Value.int .i64)) ∧ Below w.heap.size w wr)
    (fun _ i _ => m - (intOf i).toNat)
  case atStart => exact ⟨0, Nat.zero_le _, rfl, rfl, by simpa [fillTo, digs] using hown, hbel⟩
  case round =>
    obtain ⟨k, hk, rfl, rfl, hown, hbel⟩ := hrel
    obtain ⟨hints, hmine⟩ := Ints.own hown
    have hq := dquo_bd x p hx hp k
    have hpl := hints.pl
    by_cases hlt : k < m
    · have hc := hints.cell k hlt
      have hf := (hmine (by omega)).2 k hlt
      have hB := (hmine (by omega)).1
      go_wp2
      go_roundw
      case rel =>
        refine ⟨k + 1, by omega, by go_num, rfl, ?_, hbel.setCell hB _⟩
        have h := own_set hown k hlt (.int .i64 (dquo x p k % p))
        rw [← List.map_set, fillTo_set _ _ _ _ (digs_length p k x) hlt, ← digs_snoc] at h
        exact h
      case measure => simp [intOf] <;> omega
    · obtain rfl : k = m := by omega
      have Hl := Lib.hid (digs_length p k x)
      rw [fillTo_all] at hown
      go_wp2
      go_ret
      exact ⟨a, k, by rw [Hl.out]; rfl, by rw [Hl.out]; exact hown, hbel⟩

set_option maxRecDepth 100000 in
set_option maxHeartbeats 800000 in
theorem rIs_any (P M : Int) (am : Option Addr) (mn cm : Nat) (x : Int) (w : World) :
    Calls Tryz.prog 140 #[.agg #[.int .i64 P, .int .i64 M, .slice am mn cm], .int .i64 x] w fun e w' => e = .returned (.bool (isQ (orderS P M) x)) ∧ Below w.heap.size w w' := by
  have Hal := Lib.hid (below1 w (.cells #[.int .i64 P, .int .i64 M, .slice am mn cm] 24))
  by_cases h0 : 0 ≤ x
  · have h0' : decide (0 ≤ x) = true := by simpa using h0
    have Hq : Hid (isQ (orderS P M) x = decide (x < orderS P M)) := by show _ = _; rw [isQ, h0']; simp
    clear h0
    go_enter Tryz.func140, Tryz.ntmps140
    go_wp2_with (go_at_call 130; refine (rOrder_any P M am mn cm _).mono ?_; rintro e w2 ⟨rfl, hb2⟩)
    go_ret
    exact ⟨ret_bool (by rw [Hq.out]), Below.next Hal.out hb2⟩
  · have h0' : decide (0 ≤ x) = false := by simpa using h0
    have Hq : Hid (isQ (orderS P M) x = false) := by show _ = _; rw [isQ, h0']; simp
    clear h0
    go_enter Tryz.func140, Tryz.ntmps140
    go_wp2_with fail
    go_ret
    exact ⟨ret_bool (by rw [Hq.out]), Hal.out⟩

theorem rIn_any (P M : Int) (am : Option Addr) (mn cm : Nat) (x : Int) (w : World) (hx : isQ (orderS P M) x = true) :
    Calls Tryz.prog 180 #[.agg #[.int .i64 P, .int .i64 M, .slice am mn cm], .int .i64 x] w fun e w' => e = .returned (.int .i64 x) ∧ Below w.heap.size w w' := by
  have Hal := Lib.hid (below1 w (.cells #[.int .i64 P, .int .i64 M, .slice am mn cm] 24))
  have Hx := Lib.hid hx
  clear hx
  go_enter Tryz.func180, Tryz.ntmps180
  go_wp2_with fail
  refine (rIs_any P M am mn cm x _).mono ?_
  rintro e w2 ⟨rfl, hb2⟩
  rw [Hx.out]
  go_wp2_with fail
  go_ret
  exact ⟨rfl, Below.next Hal.out hb2⟩
end

/- The walks of the reference of layer 4: Digits, Value, Add, Neg. -/
section
open Go.RowKit

set_option maxRecDepth 100000 in
set_option maxHeartbeats 1600000 in
theorem rDigits_any (P : Int) (m : Nat) (am : Option Addr) (mn cm : Nat) (x : Int) (w : World) (hf : RF P m) (hx : isQ (orderS P m) x = true) :
    Calls Tryz.prog 141 #[.agg #[.int .i64 P, .int .i64 m, .slice am mn cm], .int .i64 x] w (NewInts w (digs x P m)) := by
  have hx0 : 0 ≤ x ∧ x < 256 := by
    have h1 := hf.order
    have h2 := hf.pw
    unfold isQ at hx
    simp only [Bool.and_eq_true, decide_eq_true_eq] at hx
    omega
  have hp1 : 1 ≤ P := by have := hf.p2; omega
  have hm := hf.m8
  have Hx := Lib.hid hx
  clear hx
  go_enter Tryz.func141, Tryz.ntmps141
  go_wp2_with fail
  obtain ⟨W, hW⟩ : ∃ W : World, W = w.alloc (.cells #[.int .i64 P, .int .i64 m, .slice am mn cm] 24) := ⟨_, rfl⟩
  rw [← hW]
  have hbW : Below w.heap.size w W := by rw [hW]; exact below1 _ _
  have x0 : Box W w.heap.size [.int .i64 P, .int .i64 m, .slice am mn cm] := by rw [hW]; exact Box.new _ _ _ rfl
  have HX := Lib.hid x0
  clear hW x0
  have hS : ∀ V, Below W.heap.size W V → V.cell? ⟨w.heap.size, 0, none⟩ = some (.int .i64 P) ∧ V.cell? ⟨w.heap.size, 1, none⟩ = some (.int .i64 m) ∧ V.cell? ⟨w.heap.size, 2, none⟩ = some (.slice am mn cm) ∧ Below W.heap.size W V := by
    intro V hV
    have x1 := HX.out.keep hV
    exact ⟨x1.cell 0 rfl, x1.cell 1 rfl, x1.cell 2 rfl, hV⟩
  have HS := Lib.hid hS
  have HbW := Lib.hid hbW
  clear hS hbW
  go_region_held3 (fun V => V.cell? ⟨w.heap.size, 0, none⟩ = some (.int .i64 P) ∧ V.cell? ⟨w.heap.size, 1, none⟩ = some (.int .i64 m) ∧ V.cell? ⟨w.heap.size, 2, none⟩ = some (.slice am mn cm) ∧ Below W.heap.size W V)
    ((refine HS.out _ ?_; first | exact (Below.refl _ _).drew | (go_split_ands; exact Below.next (by assumption) (by assumption))))
    (first
      | (go_at_call 180; ((with_reducible refine (rIn_any P m am mn cm x _ Hx.out).mono ?_); rintro e w4 ⟨rfl, hb4⟩))
      | (go_at_call 175; ((with_reducible refine (rdigits_any x P m _ hx0.1 (by omega) hp1 (by omega)).mono ?_); rintro e w5 ⟨a5, c5, rfl, hown5, hb5⟩)))
  all_goals (
    have hsz : w.heap.size ≤ w4.heap.size := by
      have h1 := HbW.out.size
      have h2 := hb4.size
      have h3 : W.drew.heap.size = W.heap.size := rfl
      omega
    have Hown := Lib.hid (own_mono hown5 hsz)
    clear hown5
    go_wp2_with fail
    go_ret
    exact ⟨a5, c5, rfl, Hown.out, Below.next HbW.out (by go_split_ands; assumption)⟩)

set_option maxRecDepth 100000 in
set_option maxHeartbeats 1600000 in
theorem rValue_any (P : Int) (M : Int) (am : Option Addr) (mn cm : Nat) (a : Option Addr) (n c : Nat) (l : List Int) (w : World) (h : Ints w a n l) (hn : n ≤ 1000) (hP1 : 0 ≤ P) (hP : P ≤ 256)
    (hb : ∀ k, 0 ≤ valu P (l.drop k) * P ∧ valu P (l.drop k) * P ≤ 1000000000 ∧ 0 ≤ nth l k ∧ nth l k ≤ 1000000000) :
    Calls Tryz.prog 142 #[.agg #[.int .i64 P, .int .i64 M, .slice am mn cm], .slice a n c] w fun e w' => e = .returned (.int .i64 (valu P l)) ∧ Below w.heap.size w w' := by
  have HB := Lib.hid hb
  have Hlen := Lib.hid h.len
  clear hb
  go_enter Tryz.func142, Tryz.ntmps142
  go_wp2_with fail
  obtain ⟨W, hW⟩ : ∃ W : World, W = w.alloc (.cells #[.int .i64 P, .int .i64 M, .slice am mn cm] 24) := ⟨_, rfl⟩
  rw [← hW]
  have hbW : Below w.heap.size w W := by rw [hW]; exact below1 _ _
  have x0 : W.cell? ⟨w.heap.size, 0, none⟩ = some (.int .i64 P) := by rw [hW]; exact cell_alloc_at _ _ _ rfl 0
  clear hW
  have hW := h.keep hbW
  have hpl := hW.pl
  go_loopw [5, 6] (fun xv iv wr => ∃ k : Nat, k ≤ n ∧ iv = .int .i64 ((k : Int) - 1) ∧ xv = .int .i64 (valu P (l.drop k)) ∧ Drawn W wr) (fun _ i _ => (intOf i + 1).toNat)
  case atStart => exact ⟨n, Nat.le_refl _, rfl, by rw [List.drop_of_length_le (by rw [Hlen.out]; exact Nat.le_refl _)]; rfl, Drawn.refl _⟩
  case round =>
    obtain ⟨k, hk, rfl, rfl, hd⟩ := hrel
    by_cases hlt : 0 < k
    · obtain ⟨j, rfl⟩ : ∃ j, k = j + 1 := ⟨k - 1, by omega⟩
      have hc := (hW.drawn hd).cell j (by omega)
      have c0 := hd.cell x0
      have hjl : j < l.length := by rw [Hlen.out]; omega
      obtain ⟨b1, b2, b3, b4⟩ : 0 ≤ valu P (l.drop (j + 1)) * P ∧ valu P (l.drop (j + 1)) * P ≤ 1000000000 ∧ 0 ≤ nth l j ∧ nth l j ≤ 1000000000 := ⟨(HB.out (j + 1)).1, (HB.out (j + 1)).2.1, (HB.out j).2.2⟩
      have e1 : ((j + 1 : Nat) : Int) - 1 = (j : Int) := by omega
      rw [e1]
      clear e1 hlt
      have hfin : valu P (l.drop (j + 1)) * P + nth l j = valu P (l.drop j) := by
        rw [drop_nth l j hjl]; simp only [valu]; rw [Int.mul_comm P, Int.add_comm]
      generalize valu P (l.drop (j + 1)) = X at *
      generalize nth l j = Y at *
      have Hfin := Lib.hid hfin
      clear hfin
      have e1 : (0 : Int) ≤ j := by omega
      have e2 : (j : Int) < n := by omega
      have r1 : IntKind.i64.wrap (X * P) = X * P := IntWalk.i64_in _ (by omega)
      have r2 : IntKind.i64.wrap (X * P + Y) = X * P + Y := IntWalk.i64_in _ (by omega)
      go_wp2_with fail
      go_quiet (fail)
      clear r1 r2
      go_wp2
      go_roundw
      case rel => exact ⟨j, by omega, by go_num, by rw [← Hfin.out], hd.drewN _⟩
      case measure => simp [intOf] <;> omega
    · obtain rfl : k = 0 := by omega
      go_wp2_with fail
      go_ret
      exact ⟨by simp, Below.next hbW hd.below⟩

def addD (P : Int) (a b : List Int) : List Int := List.zipWith (fun u v => (u + v) % P) a b
theorem valu_addD {P : Int} : ∀ (m : Nat) (x y : Int), valu P (addD P (digs x P m) (digs y P m)) = fsum P m x y
  | 0, _, _ => rfl
  | m + 1, x, y => by
    simp only [digs, addD, List.zipWith_cons_cons, valu, fsum]
    have := valu_addD (P := P) m (x / P) (y / P)
    unfold addD at this
    rw [this, Int.add_emod x y]
def negD (P : Int) (a : List Int) : List Int := a.map fun u => (P - u) % P
theorem valu_negD {P : Int} : ∀ (m : Nat) (x : Int), valu P (negD P (digs x P m)) = fneg P m x
  | 0, _ => rfl
  | m + 1, x => by
    simp only [digs, negD, List.map_cons, valu, fneg]
    have := valu_negD (P := P) m (x / P)
    unfold negD at this
    rw [this]
theorem Dig.zip {P : Int} (hP : 0 < P) (f : Int → Int → Int) (a b : List Int) : Dig P (List.zipWith (fun u v => (f u v) % P) a b) := by
  refine Dig.of_mem hP fun x hx => ?_
  rw [List.mem_iff_getElem] at hx
  obtain ⟨i, hi, rfl⟩ := hx
  rw [List.getElem_zipWith]
  exact ⟨Int.emod_nonneg _ (by omega), Int.emod_lt_of_pos _ hP⟩
theorem Dig.mapD {P : Int} (hP : 0 < P) (a : List Int) : Dig P (negD P a) := by
  refine Dig.of_mem hP fun x hx => ?_
  unfold negD at hx
  obtain ⟨y, _, rfl⟩ := List.mem_map.1 hx
  exact ⟨Int.emod_nonneg _ (by omega), Int.emod_lt_of_pos _ hP⟩
/-- the bounds that Value asks -/
theorem Dig.bds {P : Int} {m : Nat} (hf : RF P m) {l : List Int} (h : Dig P l) (hl : l.length = m) : ∀ k, 0 ≤ valu P (l.drop k) * P ∧ valu P (l.drop k) * P ≤ 1000000000 ∧ 0 ≤ nth l k ∧ nth l k ≤ 1000000000 := by
  intro k
  have hP : 0 < P := by have := hf.p2; omega
  have hP2 := hf.p256
  have h1 := h.tail_bd hP hl hf.pw k
  have h2 := h k
  have h3 := mul_bd h1.1 (show valu P (l.drop k) ≤ 256 by omega) (show 0 ≤ P by omega) hP2
  exact ⟨h3.1, by omega, h2.1, by omega⟩
end

end Go.Proofs.YtapjcccpokhhhaaGreat
