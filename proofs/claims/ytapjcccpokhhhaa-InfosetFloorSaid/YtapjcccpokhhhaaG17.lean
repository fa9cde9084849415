/- The walk of infoset.Exchange. -/
import Derived.Test.YtapjcccpokhhhaaG16
import Derived.Test.YtapjcccpokhhhaaG10
import Derived.Test.YtapjcccpokhhhaaG9
import Derived.Test.YtapjcccpokhhhaaG11
import Derived.Test.YtapjcccpokhhhaaG12
namespace Go.Proofs.Ytapjcccpokhhhaa
set_option linter.unusedVariables false
set_option linter.unusedSimpArgs false
set_option linter.unusedSectionVars false

/- The walks of the references: Canon of layer 9, Check of layers 10 and 12. -/
section
open Go.RowKit

def canR (O : FOps) (L : List (List Int)) (cols : Nat) : List (List Int) := (elimTo O L cols).1.take (elimTo O L cols).2.length
def RCanonPost (O : FOps) (L : List (List Int)) (cols : Nat) (w : World) (e : Ending) (w' : World) : Prop :=
  ∃ a c ap cp, e = .returned (.tuple #[.slice a (elimTo O L cols).2.length c, .slice ap (elimTo O L cols).2.length cp]) ∧ MatN w.heap.size w' a (elimTo O L cols).2.length (canR O L cols) ∧
    IntsN w.heap.size w' ap (elimTo O L cols).2.length (elimTo O L cols).2 ∧ Below w.heap.size w w'

def rspaceE (P M : Int) (mod : List Int) (cols : Int) (L : List (List Int)) : Int :=
  if rmatE P M mod cols L = 0 then (if canR (rops P M.toNat mod) L cols.toNat = L then 0 else 5) else rmatE P M mod cols L

theorem fieldRB_rf {P M : Int} {mod : List Int} (h : fieldRB P M mod = true) : ∃ m : Nat, M = m ∧ RF P m ∧ (∀ (w : World) am mn, Ints w am mn mod → Mods w P m am mn mod) := by
  unfold fieldRB shapeB at h
  simp only [Bool.and_eq_true, bne_iff_ne, ne_eq] at h
  obtain ⟨⟨⟨h1, h2⟩, h3⟩, h4⟩ := h
  obtain ⟨m, rfl, hrf⟩ := RF.of h1
  refine ⟨m, rfl, hrf, fun w am mn hi => ⟨hi, fun hm => ?_, ?_⟩⟩
  · rw [if_neg (by omega)] at h3
    simp only [Bool.and_eq_true, decide_eq_true_eq] at h3
    have := hi.len
    omega
  · by_cases hm : (m : Int) = 1
    · rw [if_pos hm] at h3
      have : mod = [] := List.eq_nil_of_length_eq_zero (by simpa using h3)
      subst this
      exact Dig.of_mem (by have := hrf.p2; omega) (by simp)
    · rw [if_neg hm] at h3
      simp only [Bool.and_eq_true] at h3
      refine Dig.of_mem (by have := hrf.p2; omega) fun x hx => ?_
      have := List.all_eq_true.1 h3.2 x hx
      simpa using this
theorem rmatE_zero {P M : Int} {mod : List Int} {cols : Int} {L : List (List Int)} (h : rmatE P M mod cols L = 0) : fieldRB P M mod = true ∧ matE (orderS P M) cols L = 0 := by
  unfold rmatE at h
  split at h
  · rename_i h1; exact ⟨h1, h⟩
  · omega

theorem lenE_lo {N : Int} (h : N < 1) : lenE N = 4 := by rw [lenE, if_pos (.inl h)]
theorem lenE_hi {N : Int} (h : 64 < N) : lenE N = 4 := by rw [lenE, if_pos (.inr h)]
theorem lenE_in {N : Int} (h1 : ¬ N < 1) (h2 : ¬ 64 < N) : lenE N = 0 := by rw [lenE, if_neg (by omega)]
def rcodeE (P M : Int) (mod : List Int) (N : Int) (L : List (List Int)) : Int :=
  if fieldRB P M mod = true then (if lenE N = 0 then rspaceE P M mod N L else 4) else 1
end

/- The reference's operations are the program's: what the two Checks say is the same. -/
section
theorem invTo_find (f : Int → Int) : ∀ (n : Nat) (y z : Int), y ≤ z → z < y + n → f z = 1 → f (invTo f n y) = 1 ∧ y ≤ invTo f n y ∧ invTo f n y < y + n
  | 0, y, z, h1, h2, _ => by omega
  | n + 1, y, z, h1, h2, hz => by
    unfold invTo
    split
    · exact ⟨by assumption, by omega, by omega⟩
    · rename_i hn
      have hne : y ≠ z := fun e => hn (e ▸ hz)
      have := invTo_find f n (y + 1) z (by omega) (by omega) hz
      exact ⟨this.1, by omega, by omega⟩

/-- the program's operations and the reference's agree on the elements -/
theorem eq_ops {P M : Int} {mod : List Int} (h : fieldB P M mod = true) : ∃ m : Nat, M = m ∧ ElP P m = (tblOf P m mod).El ∧ ((tblOf P m mod).q : Int) = orderS P M ∧ Fld (tblOf P m mod).ops (ElP P m) ∧ Agr (tblOf P m mod).ops (rops P m mod) (ElP P m) ∧
    ∀ p, ElP P m p → p ≠ 0 → (invR P m mod p = 1 ↔ p = 1) := by
  have hF := fieldB_fld h
  obtain ⟨m, y, rfl, hr, h256, hsh, hq, g⟩ := fieldB_gen h
  have hrf : RF P m := by
    obtain ⟨m', e, h2, _⟩ := fieldRB_rf (by rw [fieldRB_eq]; exact h)
    have : m = m' := by omega
    rw [this]; exact h2
  rw [Int.toNat_natCast] at hF
  have e : ElP P m = (tblOf P m mod).El := by
    funext x; simp only [Tbl.El, tblOf, ElP]; rw [hq]
  rw [← e] at hF
  have hq2 := g.q2
  have hmul : ∀ x z, ElP P m x → ElP P m z → (tblOf P m mod).ops.mul x z = mulR P m mod x z := fun x z hx hz => by
    rw [mulR_eq hrf]; exact g.mulT_eq hx hz
  have hqo : ((orderS P m).toNat : Int) = orderS P m := by omega
  have hinv : ∀ x, ElP P m x → x ≠ 0 → (tblOf P m mod).ops.inv x = invR P m mod x := by
    intro x hx h0
    have hi := hF.cl.inv x hx h0
    have hm := hF.mul_inv x hx h0
    rw [hmul x _ hx hi] at hm
    have hi0 : (tblOf P m mod).ops.inv x ≠ 0 := by
      intro e0
      have h2 := hF.mul_inv x hx h0
      rw [e0, hF.mzero hx] at h2
      exact absurd h2 (by decide)
    have hb1 := hi.1
    have hb2 := hi.2
    obtain ⟨h1, h2, h3⟩ := invTo_find (mulR P m mod x) ((orderS P m).toNat - 1) 1 _ (by omega) (by omega) hm
    have hel : ElP P m (invR P m mod x) := ⟨by unfold invR; omega, by unfold invR; omega⟩
    have h4 : (tblOf P m mod).ops.mul x (invR P m mod x) = 1 := by rw [hmul x _ hx hel]; exact h1
    have h5 := hF.mul_inv x hx h0
    have e1 : (tblOf P m mod).ops.mul ((tblOf P m mod).ops.inv x) ((tblOf P m mod).ops.mul x (invR P m mod x)) = invR P m mod x := by
      rw [← hF.mul_assoc _ x _ hi hx hel, hF.mul_comm _ x hi hx, h5, hF.one_mul _ hel]
    rw [h4, hF.mone hi] at e1
    exact e1
  refine ⟨m, rfl, e, hqo, hF, ⟨fun x z _ _ => rfl, hmul, fun x _ => rfl, hinv⟩, fun p hp h0 => ?_⟩
  rw [← hinv p hp h0]
  have hi := hF.cl.inv p hp h0
  have hm := hF.mul_inv p hp h0
  constructor
  · intro e1; rw [e1, hF.mone hp] at hm; exact hm
  · intro e1; rw [e1] at hm hi ⊢; rw [hF.one_mul _ hi] at hm; exact hm

theorem hinv_all {P M : Int} {mod : List Int} (h : fieldRB P M mod = true) : ∀ p, ElP P M.toNat p → p ≠ 0 → (invR P M.toNat mod p = 1 ↔ p = 1) := by
  obtain ⟨m, rfl, _, _, _, _, h6⟩ := eq_ops (by rw [← fieldRB_eq]; exact h)
  exact h6
theorem rmatE_eq (P M : Int) (mod : List Int) (cols : Int) (L : List (List Int)) : rmatE P M mod cols L = fmatE P M mod cols L := by
  unfold rmatE fmatE
  rw [fieldRB_eq]
  split
  · rename_i h
    obtain ⟨m, rfl, _, hq, _⟩ := eq_ops h
    rw [Int.toNat_natCast, hq]
  · rfl
theorem canR_eq {P M : Int} {mod : List Int} (h : fieldB P M mod = true) {L : List (List Int)} {m : Nat} (hL : Rws (tblOf P M.toNat mod).El m L) : canR (rops P M.toNat mod) L m = canS (tblOf P M.toNat mod) L m := by
  obtain ⟨k, rfl, he, _, hF, hA, _⟩ := eq_ops h
  rw [Int.toNat_natCast] at hL ⊢
  rw [← he] at hL
  unfold canR canS
  rw [(elimTo_agr hA hF.cl hL m (Nat.le_refl _)).1]
theorem rspaceE_eq (P M : Int) (mod : List Int) (cols : Int) (L : List (List Int)) : rspaceE P M mod cols L = spaceE P M mod cols L := by
  unfold rspaceE spaceE
  rw [rmatE_eq]
  split
  · rename_i h0
    obtain ⟨h1, h2⟩ := fmatE_zero h0
    obtain ⟨m, rfl, _, _, hR⟩ := matE_zero h2
    rw [Int.toNat_natCast, canR_eq h1 hR]
  · rfl
theorem rcodeE_eq (P M : Int) (mod : List Int) (N : Int) (L : List (List Int)) : rcodeE P M mod N L = codeE P M mod N L := by
  unfold rcodeE codeE
  rw [fieldRB_eq, rspaceE_eq]

/-- a code: its field is a field, its rows are vectors of elements -/
theorem codeE_fld {P M : Int} {mod : List Int} {N : Int} {L : List (List Int)} (h : codeE P M mod N L = 0) : ∃ n : Nat, N = n ∧ 1 ≤ n ∧ n ≤ 64 ∧ Fld (tblOf P M.toNat mod).ops (tblOf P M.toNat mod).El ∧ Rws (tblOf P M.toNat mod).El n L := by
  obtain ⟨m, rfl, h1, h2, _, hR⟩ := codeE_rws h
  exact ⟨m, rfl, h1, h2, fieldB_fld (codeE_zero h).1, hR⟩

/-- the rank of the bits of x -/
def rkb (P M : Int) (mod : List Int) (L : List (List Int)) (l : List Nat) (r : Nat) : Prop := Rk (clV (tblOf P M.toNat mod).ops (tblOf P M.toNat mod).El L.length (colS L)) l r

theorem mem_bitsTo (x : Nat) (i : Int) : ∀ k, i ∈ bitsTo x k ↔ ∃ j : Nat, j < k ∧ i = j ∧ x.testBit j = true
  | 0 => by simp [bitsTo]
  | k + 1 => by
    have ih := mem_bitsTo x i k
    unfold bitsTo
    split
    · rename_i ht
      rw [List.mem_append, ih, List.mem_singleton]
      constructor
      · rintro (⟨j, h1, h2, h3⟩ | rfl)
        · exact ⟨j, by omega, h2, h3⟩
        · exact ⟨k, by omega, rfl, ht⟩
      · rintro ⟨j, h1, h2, h3⟩
        by_cases e : j = k
        · subst e; exact .inr h2
        · exact .inl ⟨j, by omega, h2, h3⟩
    · rename_i ht
      rw [ih]
      constructor
      · rintro ⟨j, h1, h2, h3⟩; exact ⟨j, by omega, h2, h3⟩
      · rintro ⟨j, h1, h2, h3⟩
        by_cases e : j = k
        · subst e; exact absurd h3 ht
        · exact ⟨j, by omega, h2, h3⟩
theorem mem_grBits (x N : Nat) (i : Nat) : i ∈ grL (bitsTo x N) (bitsTo x N).length ↔ i < N ∧ x.testBit i = true := by
  rw [mem_grL]
  constructor
  · rintro ⟨j, hj, e⟩
    have hm : nth (bitsTo x N) j ∈ bitsTo x N := nth_mem hj
    obtain ⟨t, h1, h2, h3⟩ := (mem_bitsTo x _ N).1 hm
    have : t = i := by omega
    subst this; exact ⟨h1, h3⟩
  · rintro ⟨h1, h2⟩
    have hm : (i : Int) ∈ bitsTo x N := (mem_bitsTo x _ N).2 ⟨i, h1, rfl, h2⟩
    obtain ⟨j, hj, e⟩ := List.mem_iff_getElem.1 hm
    exact ⟨j, hj, by rw [nth_getElem hj, e]; rfl⟩

/-- the bits of the mask of a set -/
theorem maskTo_test {Q : List Int} : ∀ k, (∀ j, j < k → 0 ≤ nth Q j ∧ nth Q j < 64) → ∀ i, (maskTo Q k).testBit i = true ↔ ∃ j, j < k ∧ nth Q j = (i : Int)
  | 0, _, i => by simp [maskTo]
  | k + 1, h, i => by
    have ih := maskTo_test k (fun j hj => h j (by omega)) i
    have hk := h k (by omega)
    rw [maskTo, Nat.testBit_or, Bool.or_eq_true, ih, Nat.testBit_two_pow, decide_eq_true_eq]
    constructor
    · rintro (⟨j, h1, h2⟩ | h1)
      · exact ⟨j, by omega, h2⟩
      · exact ⟨k, by omega, by omega⟩
    · rintro ⟨j, h1, h2⟩
      by_cases e : j = k
      · subst e; exact .inr (by omega)
      · exact .inl ⟨j, by omega, h2⟩

/-- the dimension between the ranks of the set and of its complement -/
theorem dimS_rk {P M : Int} {mod : List Int} {n : Nat} {L : List (List Int)} (F : Fld (tblOf P M.toNat mod).ops (tblOf P M.toNat mod).El) (hR : Rws (tblOf P M.toNat mod).El n L) (x N : Nat) (hN : N ≤ 64) :
    ∃ (l l' : List Nat) (r r' : Nat), dimS (tblOf P M.toNat mod).ops L N x = r + r' - L.length ∧ rkb P M mod L l r ∧ rkb P M mod L l' r' ∧ (∀ i, i ∈ l ↔ i < N ∧ x.testBit i = true) ∧ (∀ i, i ∈ l' ↔ i < N ∧ ¬ x.testBit i = true) := by
  refine ⟨_, _, _, _, rfl, grS_rk F hR _, grS_rk F hR _, mem_grBits x N, fun i => ?_⟩
  rw [mem_grBits]
  constructor
  · rintro ⟨h1, h2⟩
    rw [cplU_test _ _ (by omega)] at h2
    exact ⟨h1, by simpa using h2⟩
  · rintro ⟨h1, h2⟩
    exact ⟨h1, by rw [cplU_test _ _ (by omega)]; simpa using h2⟩
end

/- The laws of the dimensions of two sets, and of one position more. -/
section
theorem maskS_test {n : Nat} {Q : List Int} (h : okSet n Q = true) (hn : n ≤ 64) (i : Nat) : (maskS Q).testBit i = true ↔ ∃ j, j < Q.length ∧ nth Q j = (i : Int) :=
  maskTo_test Q.length (fun j hj => ⟨(okSet_at h hj).1, by have := (okSet_at h hj).2.1; omega⟩) i
theorem maskS_bits (x n : Nat) (hn : n ≤ 64) (i : Nat) : (maskS (bitsTo x n)).testBit i = true ↔ i < n ∧ x.testBit i = true := by
  rw [maskS_test (okSet_bits x n) hn]
  constructor
  · rintro ⟨j, hj, e⟩
    have hm : nth (bitsTo x n) j ∈ bitsTo x n := nth_mem hj
    obtain ⟨t, h1, h2, h3⟩ := (mem_bitsTo x _ n).1 hm
    have : t = i := by omega
    subst this; exact ⟨h1, h3⟩
  · rintro ⟨h1, h2⟩
    have hm : (i : Int) ∈ bitsTo x n := (mem_bitsTo x _ n).2 ⟨i, h1, rfl, h2⟩
    obtain ⟨j, hj, e⟩ := List.mem_iff_getElem.1 hm
    exact ⟨j, hj, by rw [nth_getElem hj, e]⟩

variable {P M : Int} {mod : List Int} {n : Nat} {L : List (List Int)}

theorem dimS_bd (O : FOps) (L : List (List Int)) (N x : Nat) : -(L.length : Int) ≤ dimS O L N x ∧ dimS O L N x ≤ N + N := by
  have h1 := grS_len O L (bitsTo x N)
  have h2 := grS_len O L (bitsTo (cplU x) N)
  have h3 := bitsTo_len x N
  have h4 := bitsTo_len (cplU x) N
  unfold dimS
  omega

theorem steps_law (hE : codeE P M mod n L = 0) (x y p : Nat) (hy : ∀ i, i < n → (y.testBit i = true ↔ x.testBit i = true ∨ i = p)) (hp : p < n) :
    dimS (tblOf P M.toNat mod).ops L n x ≤ dimS (tblOf P M.toNat mod).ops L n y + 1 ∧ dimS (tblOf P M.toNat mod).ops L n y ≤ dimS (tblOf P M.toNat mod).ops L n x + 1 := by
  obtain ⟨n', e, _, hn, F, hR⟩ := codeE_fld hE
  obtain rfl : n = n' := by omega
  have hC := col_clo F hR
  obtain ⟨l1, l1', r1, r1', d1, k1, k1', m1, m1'⟩ := dimS_rk F hR x n hn
  obtain ⟨l2, l2', r2, r2', d2, k2, k2', m2, m2'⟩ := dimS_rk F hR y n hn
  by_cases hx : x.testBit p = true
  · have e1 := Rk.same hC k1 k2 fun i => by
      rw [m1, m2]
      exact ⟨fun ⟨h1, h2⟩ => ⟨h1, (hy i h1).2 (.inl h2)⟩, fun ⟨h1, h2⟩ => ⟨h1, by rcases (hy i h1).1 h2 with h | rfl; exact h; exact hx⟩⟩
    have e2 := Rk.same hC k1' k2' fun i => by
      rw [m1', m2']
      exact ⟨fun ⟨h1, h2⟩ => ⟨h1, fun h => by rcases (hy i h1).1 h with h | rfl; exact h2 h; exact h2 hx⟩, fun ⟨h1, h2⟩ => ⟨h1, fun h => h2 ((hy i h1).2 (.inl h))⟩⟩
    rw [d1, d2, e1, e2]; omega
  · have e1 := Rk.one_more hC k1 k2 (p := p) fun i => by
      rw [m1, m2]
      constructor
      · rintro ⟨h1, h2⟩
        rcases (hy i h1).1 h2 with h | h
        · exact .inl ⟨h1, h⟩
        · exact .inr h
      · rintro (⟨h1, h2⟩ | rfl)
        · exact ⟨h1, (hy i h1).2 (.inl h2)⟩
        · exact ⟨hp, (hy i hp).2 (.inr rfl)⟩
    have e2 := Rk.one_more hC k2' k1' (p := p) fun i => by
      rw [m1', m2']
      constructor
      · rintro ⟨h1, h2⟩
        by_cases e : i = p
        · exact .inr e
        · exact .inl ⟨h1, fun h => by rcases (hy i h1).1 h with h | h; exact h2 h; exact e h⟩
      · rintro (⟨h1, h2⟩ | rfl)
        · exact ⟨h1, fun h => h2 ((hy i h1).2 (.inl h))⟩
        · exact ⟨hp, hx⟩
    rw [d1, d2]; omega

theorem modular_law (hE : codeE P M mod n L = 0) (s t u v : Nat) (hu : ∀ i, i < n → (u.testBit i = true ↔ s.testBit i = true ∨ t.testBit i = true)) (hv : ∀ i, i < n → (v.testBit i = true ↔ s.testBit i = true ∧ t.testBit i = true)) :
    dimS (tblOf P M.toNat mod).ops L n u + dimS (tblOf P M.toNat mod).ops L n v ≤ dimS (tblOf P M.toNat mod).ops L n s + dimS (tblOf P M.toNat mod).ops L n t := by
  obtain ⟨n', e, _, hn, F, hR⟩ := codeE_fld hE
  obtain rfl : n = n' := by omega
  have hC := col_clo F hR
  obtain ⟨ls, ls', rs, rs', ds, ks, ks', ms, ms'⟩ := dimS_rk F hR s n hn
  obtain ⟨lt, lt', rt, rt', dt, kt, kt', mt, mt'⟩ := dimS_rk F hR t n hn
  obtain ⟨lu, lu', ru, ru', du, ku, ku', mu, mu'⟩ := dimS_rk F hR u n hn
  obtain ⟨lv, lv', rv, rv', dv, kv, kv', mv, mv'⟩ := dimS_rk F hR v n hn
  have e1 := Rk.modular hC ks kt ku kv
    (fun i hi => by
      obtain ⟨h1, h2⟩ := (mu i).1 hi
      rcases (hu i h1).1 h2 with h | h
      · exact .inl ((ms i).2 ⟨h1, h⟩)
      · exact .inr ((mt i).2 ⟨h1, h⟩))
    (fun i hi => by
      obtain ⟨h1, h2⟩ := (mv i).1 hi
      obtain ⟨h3, h4⟩ := (hv i h1).1 h2
      exact ⟨(ms i).2 ⟨h1, h3⟩, (mt i).2 ⟨h1, h4⟩⟩)
  have e2 := Rk.modular hC ks' kt' kv' ku'
    (fun i hi => by
      obtain ⟨h1, h2⟩ := (mv' i).1 hi
      by_cases h : s.testBit i = true
      · exact .inr ((mt' i).2 ⟨h1, fun h3 => h2 ((hv i h1).2 ⟨h, h3⟩)⟩)
      · exact .inl ((ms' i).2 ⟨h1, h⟩))
    (fun i hi => by
      obtain ⟨h1, h2⟩ := (mu' i).1 hi
      exact ⟨(ms' i).2 ⟨h1, fun h => h2 ((hu i h1).2 (.inl h))⟩, (mt' i).2 ⟨h1, fun h => h2 ((hu i h1).2 (.inr h))⟩⟩)
  rw [ds, dt, du, dv]; omega
end

/- The walks of the reference of layer 48: Pick, rank, Others. -/
section
open Go.RowKit

/-- positions within n -/
def InN (n : Nat) (Q : List Int) : Prop := ∀ j, j < Q.length → 0 ≤ nth Q j ∧ nth Q j < n

theorem OMat.lit (w : World) {B : Nat} (hB : B ≤ w.heap.size) : OMat (w.alloc (.cells #[] 22)) B (some ⟨w.heap.size, 0, none⟩) 0 0 [] [] :=
  ⟨rfl, rfl, own_mono (own_emp w 22) hB, fun i hi => by omega, fun i hi => by omega, fun i j hi => by omega⟩
theorem nthR_map (f : List Int → List Int) (L : List (List Int)) {k : Nat} (hk : k < L.length) : nthR (L.map f) k = f (nthR L k) := by
  rw [nthR_getElem (by simpa using hk), nthR_getElem hk]; simp

/-- the number of independent columns at the positions of Q, as the program counts them -/
theorem pick_gr {P M : Int} {mod : List Int} {N : Nat} {L : List (List Int)} (hE : codeE P M mod N L = 0) {Q : List Int} (hQ : InN N Q) :
    (elimTo (rops P M.toNat mod) (L.map (pickL Q)) Q.length).2.length = (grS (tblOf P M.toNat mod).ops L (bitsTo (maskS Q) N)).length := by
  obtain ⟨n', e, _, hn, F, hR⟩ := codeE_fld hE
  obtain rfl : N = n' := by omega
  obtain ⟨k, rfl, he, _, hF, hA, _⟩ := eq_ops (codeE_zero hE).1
  rw [Int.toNat_natCast] at *
  have hP := pick_rws hR hQ
  have hR2 : Rws (ElP P k) Q.length (L.map (pickL Q)) := by rw [he]; exact hP
  rw [← (elimTo_agr hA hF.cl hR2 _ (Nat.le_refl _)).1]
  refine Rk.same (col_clo F hR) (pick_rk F hR hQ) (grS_rk F hR _) fun x => ?_
  rw [mem_grBits, maskS, maskTo_test Q.length (fun j hj => by have := hQ j hj; omega), List.mem_map]
  constructor
  · rintro ⟨j, hj, rfl⟩
    have hj := List.mem_range.1 hj
    have := hQ j hj
    exact ⟨by omega, j, hj, by omega⟩
  · rintro ⟨_, j, hj, e⟩
    exact ⟨j, List.mem_range.2 hj, by omega⟩
end

/- The walks of the reference of layer 48: Others, Of, Dimension. -/
section
open Go.RowKit

/-- the bits below n -/
def bL (n x : Nat) : List Bool := (List.range n).map fun p => x.testBit p
theorem bL_length (n x : Nat) : (bL n x).length = n := by simp [bL]
theorem nthB_bL {n x i : Nat} (hi : i < n) : nthB (bL n x) i = x.testBit i := by
  rw [nthB_getElem (by rw [bL_length]; exact hi)]; simp [bL]
theorem bL_zero (n : Nat) : List.replicate n (Value.bool false) = (bL n 0).map Value.bool := by
  refine List.ext_getElem (by simp [bL]) fun i h1 h2 => ?_
  simp [bL]
theorem bL_set (n x z : Nat) : (bL n x).set z true = bL n (x ||| 2 ^ z) := by
  refine List.ext_getElem (by simp [bL]) fun i h1 h2 => ?_
  rw [List.getElem_set]
  simp only [bL, List.getElem_map, List.getElem_range, Nat.testBit_or, Nat.testBit_two_pow]
  by_cases h : z = i
  · simp [h]
  · simp [h]
theorem InN.bd {n : Nat} {Q : List Int} (h : InN n Q) (hn : n ≤ 64) {k : Nat} (hk : k ≤ Q.length) : ∀ j, j < k → 0 ≤ nth Q j ∧ nth Q j < 64 := fun j hj => by
  have := h j (by omega)
  omega
theorem InN.of_set {n : Nat} {Q : List Int} (h : okSet n Q = true) : InN n Q := fun j hj => by
  have := okSet_at h hj
  omega
theorem InN.bits (x n : Nat) : InN n (bitsTo x n) := fun j hj => nth_bits_lt x n j hj
theorem InN.mask {n : Nat} {Q : List Int} (h : InN n Q) (hn : n ≤ 64) : maskS Q < 18446744073709551616 := maskTo_lt _ (h.bd hn (Nat.le_refl _))

theorem bitsTo_congr {x y : Nat} : ∀ k, (∀ i, i < k → x.testBit i = y.testBit i) → bitsTo x k = bitsTo y k
  | 0, _ => rfl
  | k + 1, h => by
    rw [bitsTo, bitsTo, bitsTo_congr k fun i hi => h i (by omega), h k (by omega)]
theorem bitsTo_mask (x n : Nat) (hn : n ≤ 64) : bitsTo (maskS (bitsTo x n)) n = bitsTo x n :=
  bitsTo_congr n fun i hi => by
    rw [Bool.eq_iff_iff, maskS_bits x n hn]
    exact ⟨fun h => h.2, fun h => ⟨hi, h⟩⟩
end

/- What Dimension answers; bounds of dimensions (plain law). -/
section
open Go.RowKit

/-- what Dimension answers -/
def dimV (P M : Int) (mod : List Int) (N : Int) (L : List (List Int)) (Q : List Int) : Int × Int :=
  if codeE P M mod N L = 0 then (if okSet N Q = true then (dimS (tblOf P M.toNat mod).ops L N.toNat (maskS Q), 0) else (0, 5)) else (0, codeE P M mod N L)
theorem DimPost.val {P M : Int} {mod : List Int} {N : Int} {L : List (List Int)} {Q : List Int} {w : World} {e : Ending} {w' : World} (h : DimPost P M mod N L Q w e w') :
    e = .returned (.tuple #[.int .i64 (dimV P M mod N L Q).1, .int .i64 (dimV P M mod N L Q).2]) ∧ Below w.heap.size w w' := by
  obtain ⟨hb, h⟩ := h
  refine ⟨?_, hb⟩
  unfold dimV
  rcases h with ⟨h1, rfl⟩ | ⟨h1, h2, rfl⟩ | ⟨h1, h2, rfl⟩
  · rw [if_neg h1]
  · rw [if_pos h1, if_neg (by rw [h2]; decide)]
  · rw [if_pos h1, if_pos h2]
theorem dimV_ok {P M : Int} {mod : List Int} {N : Int} {L : List (List Int)} {Q : List Int} (h : (dimV P M mod N L Q).2 = 0) : codeE P M mod N L = 0 ∧ okSet N Q = true ∧ (dimV P M mod N L Q).1 = dimS (tblOf P M.toNat mod).ops L N.toNat (maskS Q) := by
  unfold dimV at h ⊢
  split at h
  · rename_i h1
    split at h
    · rename_i h2; rw [if_pos h1, if_pos h2]; exact ⟨h1, h2, rfl⟩
    · exact absurd h (by show ¬ (5 : Int) = 0; omega)
  · rename_i h1; exact absurd h h1

theorem bits_parts (x : Nat) : ∀ k, k ≤ 64 → (bitsTo x k).length + (bitsTo (cplU x) k).length = k
  | 0, _ => rfl
  | k + 1, hk => by
    have ih := bits_parts x k (by omega)
    have hc := cplU_test x k (by omega)
    rw [bitsTo, bitsTo, hc]
    cases hx : x.testBit k <;> simp <;> omega

theorem gr_rows {P M : Int} {mod : List Int} {N : Nat} {L : List (List Int)} (hE : codeE P M mod N L = 0) (x : Nat) : (grS (tblOf P M.toNat mod).ops L (bitsTo x N)).length ≤ L.length := by
  obtain ⟨n', e, _, hn, _⟩ := codeE_fld hE
  obtain rfl : N = n' := by omega
  rw [← bitsTo_mask x N hn, ← pick_gr hE (InN.bits x N)]
  have := (elimTo_piv (rops P M.toNat mod) (L.map (pickL (bitsTo x N))) (bitsTo x N).length).2
  rwa [List.length_map] at this

theorem dim_law {P M : Int} {mod : List Int} {N : Nat} {L : List (List Int)} (hE : codeE P M mod N L = 0) (x : Nat) :
    dimS (tblOf P M.toNat mod).ops L N (maskS (bitsTo (cplU x) N)) = dimS (tblOf P M.toNat mod).ops L N x ∧ dimS (tblOf P M.toNat mod).ops L N x ≤ L.length ∧ dimS (tblOf P M.toNat mod).ops L N x ≤ (N : Int) - L.length := by
  obtain ⟨n', e, _, hn, _⟩ := codeE_fld hE
  obtain rfl : N = n' := by omega
  have h1 := gr_rows hE x
  have h2 := gr_rows hE (cplU x)
  have h3 := grS_len (tblOf P M.toNat mod).ops L (bitsTo x N)
  have h4 := grS_len (tblOf P M.toNat mod).ops L (bitsTo (cplU x) N)
  have h5 := bits_parts x N hn
  have e2 : bitsTo (cplU (maskS (bitsTo (cplU x) N))) N = bitsTo x N := bitsTo_congr N fun i hi => by
    rw [cplU_test _ _ (by omega), Bool.eq_iff_iff]
    have := maskS_bits (cplU x) N hn i
    rw [cplU_test _ _ (by omega)] at this
    cases hx : x.testBit i <;> cases hm : (maskS (bitsTo (cplU x) N)).testBit i <;> simp_all
  refine ⟨?_, ?_, ?_⟩
  · unfold dimS; rw [bitsTo_mask _ _ hn, e2]; omega
  · unfold dimS; omega
  · unfold dimS; omega
end

/- The walks of slices.Index, slices.Contains, matrix.Kernel. -/
section
open Go.RowKit

set_option maxRecDepth 100000 in
set_option maxHeartbeats 1600000 in
theorem index_any (a : Option Addr) (n c : Nat) (l : List Int) (v : Int) (w : World) (h : Ints w a n l) :
    Calls Try.prog 27 #[.slice a n c, .int .i64 v] w fun e w' => ∃ z : Int, e = .returned (.int .i64 z) ∧ (0 ≤ z ↔ v ∈ l) ∧ w' = w := by
  have Hl := Lib.hid h.len
  have hpl := h.pl
  have hmax := h.max
  unfold maxLen at hmax
  go_enter Try.func27, Try.ntmps27
  go_wp2_with fail
  go_loopw [8] (fun iv wr => ∃ k : Nat, k ≤ n ∧ iv = .int .i64 k ∧ Hid (∀ j, j < k → nth l j ≠ v) ∧ wr = w) (fun i _ => n - (intOf i).toNat)
  case atStart => exact ⟨0, Nat.zero_le _, rfl, fun j hj => by omega, rfl⟩
  case round =>
    obtain ⟨k, hk, rfl, hno, rfl⟩ := hrel
    by_cases hlt : k < n
    · have c1 := h.cell k hlt
      by_cases he : nth l k = v
      · have he' : (v == nth l k) = true := by rw [he]; simp
        have Hm : Hid (v ∈ l) := by show v ∈ l; rw [← he]; exact nth_mem (by rw [Hl.out]; exact hlt)
        clear he
        go_wp2_with fail
        go_ret
        exact ⟨k, rfl, ⟨fun _ => Hm.out, fun _ => Int.natCast_nonneg _⟩, rfl⟩
      · have he' : (v == nth l k) = false := by simpa using fun e => he e.symm
        have Hn2 : Hid (∀ j, j < k + 1 → nth l j ≠ v) := fun j hj => by
          by_cases e : j = k
          · subst e; exact he
          · exact hno.out j (by omega)
        clear he
        go_wp2_with fail
        go_roundw
        case rel => exact ⟨k + 1, by omega, by go_num, Hn2.out, by simp⟩
        case measure => simp [intOf] <;> omega
    · obtain rfl : k = n := by omega
      have Hm : Hid (¬ v ∈ l) := fun hm => by
        obtain ⟨j, hj, e⟩ := List.mem_iff_getElem.1 hm
        rw [← nth_getElem hj] at e
        exact hno.out j (by have := Hl.out; omega) e
      go_wp2_with fail
      go_ret
      exact ⟨-1, rfl, ⟨fun h => absurd h (by omega), fun h => absurd h Hm.out⟩, rfl⟩

theorem contains_any (a : Option Addr) (n c : Nat) (l : List Int) (v : Int) (w : World) (h : Ints w a n l) :
    Calls Try.prog 25 #[.slice a n c, .int .i64 v] w fun e w' => e = .returned (.bool (decide (v ∈ l))) ∧ w' = w := by
  go_enter Try.func25, Try.ntmps25
  go_wp2_with fail
  refine (index_any a n c l v w h).mono ?_
  rintro e w1 ⟨z, rfl, hz, rfl⟩
  by_cases h0 : 0 ≤ z
  · have Hz : Hid (decide (v ∈ l) = true) := by show _ = _; simpa using hz.1 h0
    have h0' : decide (0 ≤ z) = true := by simpa using h0
    clear hz h0
    go_wp2_with fail
    go_ret
    exact ⟨ret_bool Hz.out.symm, rfl⟩
  · have Hz : Hid (decide (v ∈ l) = false) := by show _ = _; simpa using fun h => h0 (hz.2 h)
    have h0' : decide (0 ≤ z) = false := by simpa using h0
    clear hz h0
    go_wp2_with fail
    go_ret
    exact ⟨ret_bool Hz.out.symm, rfl⟩

/-- the rows of the dual code -/
def dualL (G : Tbl) (L : List (List Int)) (m : Nat) : List (List Int) := canS G (kerL G.ops m (canS G L m) (pivS G L m) m) m

def KerPost (G : Tbl) (L : List (List Int)) (m : Nat) (w : World) (e : Ending) (w' : World) : Prop :=
  ∃ a c, e = .returned (.tuple #[.agg #[.int .i64 m, .slice a (dualL G L m).length c], .int .i64 0]) ∧ MatN w.heap.size w' a (dualL G L m).length (dualL G L m) ∧ Below w.heap.size w w'

theorem npL_le (P : List Int) : ∀ k, (npL P k).length ≤ k
  | 0 => Nat.le_refl _
  | k + 1 => by have := npL_le P k; rw [npL]; split <;> simp <;> omega
end

/- The first entry with a property; slices.Index. -/
section
open Go.RowKit

theorem find_at (p : Int → Bool) : ∀ (l : List Int) (k : Nat), k < l.length → (∀ j, j < k → p (nth l j) = false) → p (nth l k) = true → l.find? p = some (nth l k)
  | [], k, h, _, _ => by simp at h
  | x :: l, 0, _, _, h => by
    have h' : p x = true := by simpa [nth] using h
    rw [List.find?_cons_of_pos h']; simp [nth]
  | x :: l, k + 1, hk, h0, h => by
    have hx : p x = false := by simpa [nth] using h0 0 (by omega)
    rw [List.find?_cons_of_neg (by rw [hx]; decide)]
    have := find_at p l k (by simpa using hk) (fun j hj => by simpa [nth] using h0 (j + 1) (by omega)) (by simpa [nth] using h)
    rw [this]; simp [nth]
theorem find_no (p : Int → Bool) (l : List Int) (h : ∀ j, j < l.length → p (nth l j) = false) : l.find? p = none := by
  rw [List.find?_eq_none]
  intro x hx
  obtain ⟨j, hj, rfl⟩ := List.mem_iff_getElem.1 hx
  have := h j hj
  rw [nth_getElem hj] at this
  rw [this]; decide

/-- where a list has an entry, or -1 -/
def ixV (l : List Int) (v : Int) : Int := if v ∈ l then ((l.findIdx fun x => x == v : Nat) : Int) else -1
theorem ix_at {v : Int} : ∀ (l : List Int) (k : Nat), k < l.length → (∀ j, j < k → nth l j ≠ v) → nth l k = v → (l.findIdx fun x => x == v) = k
  | [], k, h, _, _ => by simp at h
  | x :: l, 0, _, _, h => by
    have h' : x = v := by simpa [nth] using h
    simp [List.findIdx_cons, h']
  | x :: l, k + 1, hk, h0, h => by
    have hx : x ≠ v := by simpa [nth] using h0 0 (by omega)
    have := ix_at l k (by simpa using hk) (fun j hj => by simpa [nth] using h0 (j + 1) (by omega)) (by simpa [nth] using h)
    have hb : (x == v) = false := by simpa using hx
    simp [List.findIdx_cons, this, hb]
theorem ix_in {l : List Int} {v : Int} (h : v ∈ l) : ∃ k : Nat, ixV l v = k ∧ k < l.length ∧ nth l k = v := by
  have h1 : (l.findIdx fun x => x == v) < l.length := List.findIdx_lt_length_of_exists ⟨v, h, by simp⟩
  refine ⟨_, by rw [ixV, if_pos h], h1, ?_⟩
  rw [nth_getElem h1]
  have := List.findIdx_getElem (w := h1)
  simpa using this

set_option maxHeartbeats 1600000 in
theorem indexV_any (a : Option Addr) (n c : Nat) (l : List Int) (v : Int) (w : World) (h : Ints w a n l) :
    Calls Try.prog 27 #[.slice a n c, .int .i64 v] w fun e w' => e = .returned (.int .i64 (ixV l v)) ∧ w' = w := by
  have Hl := Lib.hid h.len
  have hpl := h.pl
  have hmax := h.max
  unfold maxLen at hmax
  go_enter Try.func27, Try.ntmps27
  go_wp2_with fail
  go_loopw [8] (fun iv wr => ∃ k : Nat, k ≤ n ∧ iv = .int .i64 k ∧ Hid (∀ j, j < k → nth l j ≠ v) ∧ wr = w) (fun i _ => n - (intOf i).toNat)
  case atStart => exact ⟨0, Nat.zero_le _, rfl, fun j hj => by omega, rfl⟩
  case round =>
    obtain ⟨k, hk, rfl, hno, rfl⟩ := hrel
    by_cases hlt : k < n
    · have c1 := h.cell k hlt
      by_cases he : nth l k = v
      · have he' : (v == nth l k) = true := by rw [he]; simp
        have Hm : Hid (ixV l v = k) := by
          show _ = _
          rw [ixV, if_pos (by rw [← he]; exact nth_mem (by rw [Hl.out]; exact hlt)), ix_at l k (by rw [Hl.out]; exact hlt) hno.out he]
        clear he
        go_wp2_with fail
        go_ret
        exact ⟨ret_int Hm.out.symm, rfl⟩
      · have he' : (v == nth l k) = false := by simpa using fun e => he e.symm
        have Hn2 : Hid (∀ j, j < k + 1 → nth l j ≠ v) := fun j hj => by
          by_cases e : j = k
          · subst e; exact he
          · exact hno.out j (by omega)
        clear he
        go_wp2_with fail
        go_roundw
        case rel => exact ⟨k + 1, by omega, by go_num, Hn2.out, by simp⟩
        case measure => simp [intOf] <;> omega
    · obtain rfl : k = n := by omega
      have Hm : Hid (ixV l v = -1) := by
        show _ = _
        rw [ixV, if_neg]
        intro hm
        obtain ⟨j, hj, e⟩ := List.mem_iff_getElem.1 hm
        rw [← nth_getElem hj] at e
        exact hno.out j (by have := Hl.out; omega) e
      go_wp2_with fail
      go_ret
      exact ⟨ret_int Hm.out.symm, rfl⟩
end

/- The walks of infoset.Is, is. -/
section
open Go.RowKit

/-- whether a set is an information set -/
def isV (P M : Int) (mod : List Int) (N : Int) (L : List (List Int)) (Q : List Int) : Bool :=
  decide (rankE P M mod N L Q = 0) && (decide ((grS (tblOf P M.toNat mod).ops L Q).length = Q.length) && decide ((grS (tblOf P M.toNat mod).ops L Q).length = L.length))

set_option maxRecDepth 100000 in
set_option maxHeartbeats 4000000 in
theorem infIs_any (P M : Int) (am : Option Addr) (mn cm : Nat) (mod : List Int) (N : Int) (a : Option Addr) (n c : Nat) (L : List (List Int)) (ao : Option Addr) (no co : Nat) (Q : List Int) (w : World)
    (hmod : Ints w am mn mod) (hi : Mat w a n L) (hq : Ints w ao no Q) :
    Calls Try.prog 7 #[.agg #[.int .i64 P, .int .i64 M, .slice am mn cm, .int .i64 N, .slice a n c], .slice ao no co] w
      fun e w' => e = .returned (.tuple #[.bool (isV P M mod N L Q), .int .i64 (rankE P M mod N L Q)]) ∧ Below w.heap.size w w' := by
  have hql := hq.len
  have hil := hi.len
  go_enter Try.func7, Try.ntmps7
  go_wp2_with fail
  obtain ⟨W, hW⟩ : ∃ W : World, W = w.alloc (.cells #[.int .i64 P, .int .i64 M, .slice am mn cm, .int .i64 N, .slice a n c] 32) := ⟨_, rfl⟩
  rw [← hW]
  have hbW : Below w.heap.size w W := by rw [hW]; exact below1 _ _
  have x0 : Box W w.heap.size [.int .i64 P, .int .i64 M, .slice am mn cm, .int .i64 N, .slice a n c] := by rw [hW]; exact Box.new _ _ _ rfl
  have HX := Lib.hid x0
  clear hW x0
  refine (rank_any P M am mn cm mod N a n c L ao no co Q W (hmod.keep hbW) (hi.keep hbW) (hq.keep hbW)).mono ?_
  rintro e w1 ⟨hb1, ⟨hE, rfl⟩ | ⟨hE, rfl⟩⟩
  · have HV : Hid (isV P M mod N L Q = false) := by show _ = _; unfold isV; rw [decide_eq_false hE]; rfl
    have hE1 : (rankE P M mod N L Q == 0) = false := by simpa using hE
    have hbw1 := Below.next hbW hb1
    clear hE hql hil
    go_wp2_with fail
    go_ret2
    exact ⟨by rw [HV.out]; rfl, hbw1⟩
  · have HV : Hid (isV P M mod N L Q = (decide ((grS (tblOf P M.toNat mod).ops L Q).length = no) && decide ((grS (tblOf P M.toNat mod).ops L Q).length = n))) := by show _ = _; unfold isV; rw [decide_eq_true hE, hql, hil]; rfl
    have hbw1 := Below.next hbW hb1
    have xU := HX.out.keep hb1
    have b4 := xU.cell 4 rfl
    have HE := Lib.hid hE
    clear hE hql hil xU
    obtain ⟨r, hr⟩ : ∃ r, (grS (tblOf P M.toNat mod).ops L Q).length = r := ⟨_, rfl⟩
    rw [hr] at HV ⊢
    clear hr
    by_cases h1 : r = no
    · subst h1
      have h1' : ((r : Int) == r) = true := by simp
      by_cases h2 : r = n
      · subst h2
        have HV2 : Hid (isV P M mod N L Q = true) := by show _ = _; rw [HV.out]; simp
        clear HV
        go_wp2_with fail
        go_ret2
        exact ⟨by rw [HV2.out, HE.out]; rfl, hbw1⟩
      · have h2' : ((r : Int) == n) = false := by simp only [beq_eq_false_iff_ne, ne_eq]; omega
        have HV2 : Hid (isV P M mod N L Q = false) := by show _ = _; rw [HV.out]; simp [h2]
        clear h2 HV
        go_wp2_with fail
        go_ret2
        exact ⟨by rw [HV2.out, HE.out]; rfl, hbw1⟩
    · have h1' : ((r : Int) == no) = false := by simp only [beq_eq_false_iff_ne, ne_eq]; omega
      have HV2 : Hid (isV P M mod N L Q = false) := by show _ = _; rw [HV.out]; simp [h1]
      clear h1 HV
      go_wp2_with fail
      go_ret2
      exact ⟨by rw [HV2.out, HE.out]; rfl, hbw1⟩

set_option maxRecDepth 100000 in
set_option maxHeartbeats 4000000 in
theorem infis_any {w : World} {b : Nat} {G : Tbl} (P M : Int) (am : Option Addr) (mn cm : Nat) (N : Int) (a : Option Addr) (n c : Nat) (L : List (List Int)) (m : Nat) (ao : Option Addr) (no co : Nat) (Q : List Int)
    (h : GFw w b G) (hi : Mat w a n L) (hR : Rws G.El m L) (hq : Ints w ao no Q) (hQ : ∀ k, k < no → 0 ≤ nth Q k ∧ nth Q k < m) (hn : n ≤ 1000000) (hno : no ≤ 1000000) :
    Calls Try.prog 26 #[.pointer (some ⟨b, 0, none⟩), .agg #[.int .i64 P, .int .i64 M, .slice am mn cm, .int .i64 N, .slice a n c], .slice ao no co] w
      fun e w' => e = .returned (.bool (decide (Q.length = L.length) && decide ((grS G.ops L Q).length = Q.length))) ∧ Below w.heap.size w w' := by
  have hql := hq.len
  have hil := hi.len
  go_enter Try.func26, Try.ntmps26
  go_upto_region 1 with fail
  obtain ⟨W, hW⟩ : ∃ W : World, W = w.alloc (.cells #[.int .i64 P, .int .i64 M, .slice am mn cm, .int .i64 N, .slice a n c] 32) := ⟨_, rfl⟩
  rw [← hW]
  have hbW : Below w.heap.size w W := by rw [hW]; exact below1 _ _
  have x0 : Box W w.heap.size [.int .i64 P, .int .i64 M, .slice am mn cm, .int .i64 N, .slice a n c] := by rw [hW]; exact Box.new _ _ _ rfl
  have hc := greedy_any P M am mn cm N a n c L m ao no co Q (h.keep hbW) (hi.keep hbW) hR (hq.keep hbW) hQ hn hno
  have HC := Lib.hid hc
  have HV : Hid ((decide (Q.length = L.length) && decide ((grS G.ops L Q).length = Q.length)) = (decide (no = n) && decide ((grS G.ops L Q).length = no))) := by show _ = _; rw [hql, hil]
  clear hW hQ hR hql hil hc
  have b0 := x0.cell 0 rfl
  have b1 := x0.cell 1 rfl
  have b2 := x0.cell 2 rfl
  have b3 := x0.cell 3 rfl
  have b4 := x0.cell 4 rfl
  clear x0
  by_cases h1 : no = n
  · subst h1
    have h1' : ((no : Int) == no) = true := by simp
    go_wp2_with fail
    refine HC.out.mono ?_
    rintro e w4 ⟨a4, c4, rfl, hown4, hb4⟩
    have hF := Below.next hbW hb4
    clear HC hown4
    obtain ⟨out, ho⟩ : ∃ out, grS G.ops L Q = out := ⟨_, rfl⟩
    have Ho := Lib.hid ho
    rw [ho]
    clear ho
    by_cases h2 : out.length = no
    · have h2' : ((out.length : Int) == no) = true := by simp only [beq_iff_eq]; omega
      have HV2 := Lib.hid (HV.out.trans (show _ = true by rw [Ho.out]; simp [h2]))
      clear h2 HV
      go_wp2_with fail
      go_ret
      exact ⟨ret_bool HV2.out.symm, hF⟩
    · have h2' : ((out.length : Int) == no) = false := by simp only [beq_eq_false_iff_ne, ne_eq]; omega
      have HV2 := Lib.hid (HV.out.trans (show _ = false by rw [Ho.out]; simp [h2]))
      clear h2 HV
      go_wp2_with fail
      go_ret
      exact ⟨ret_bool HV2.out.symm, hF⟩
  · have h1' : ((no : Int) == n) = false := by simp only [beq_eq_false_iff_ne, ne_eq]; omega
    have HV2 := Lib.hid (HV.out.trans (show _ = false by simp [h1]))
    clear h1 HV HC
    go_wp2_with fail
    go_ret
    exact ⟨ret_bool HV2.out.symm, hbW⟩
end

/- The walk of infoset.Exchange. -/
section
open Go.RowKit

/-- the information sets by the greedy choice -/
def isB (O : FOps) (L : List (List Int)) (Q : List Int) : Bool := decide (Q.length = L.length) && decide ((grS O L Q).length = Q.length)
/-- whether an entry can be put at a place -/
def exP (O : FOps) (L : List (List Int)) (A : List Int) (at' : Nat) (j : Int) : Bool := decide (¬ j ∈ A) && isB O L (A.set at' j)
def rk2E (P M : Int) (mod : List Int) (N : Int) (L : List (List Int)) (A B : List Int) : Int := if codeE P M mod N L = 0 then setsE N [A, B] else codeE P M mod N L
def exV (P M : Int) (mod : List Int) (N : Int) (L : List (List Int)) (A B : List Int) (i : Int) : Int × Int :=
  if rk2E P M mod N L A B ≠ 0 then (0, rk2E P M mod N L A B)
  else if (isB (tblOf P M.toNat mod).ops L A && isB (tblOf P M.toNat mod).ops L B) = false then (0, 9)
  else if ¬ i ∈ A then (0, 11)
  else match B.find? (exP (tblOf P M.toNat mod).ops L A (A.findIdx fun x => x == i)) with
    | some j => (j, 0)
    | none => (0, 11)
theorem InNs.set {m : Nat} {A : List Int} (hA : ∀ k, k < A.length → 0 ≤ nth A k ∧ nth A k < m) {t : Nat} (ht : t < A.length) {j : Int} (hj : 0 ≤ j ∧ j < m) : ∀ k, k < A.length → 0 ≤ nth (A.set t j) k ∧ nth (A.set t j) k < m := fun k hk => by
  rw [nth_set _ _ _ _ ht]
  split
  · exact hj
  · exact hA k hk

set_option maxRecDepth 100000 in
set_option maxHeartbeats 8000000 in
theorem exchange_any (P M : Int) (am : Option Addr) (mn cm : Nat) (mod : List Int) (N : Int) (a : Option Addr) (n c : Nat) (L : List (List Int)) (aa : Option Addr) (na ca : Nat) (A : List Int) (ab : Option Addr) (nb cb : Nat) (B : List Int) (i : Int) (w : World)
    (hmod : Ints w am mn mod) (hi : Mat w a n L) (hA : Ints w aa na A) (hB : Ints w ab nb B) :
    Calls Try.prog 12 #[.agg #[.int .i64 P, .int .i64 M, .slice am mn cm, .int .i64 N, .slice a n c], .slice aa na ca, .slice ab nb cb, .int .i64 i] w
      fun e w' => e = .returned (.tuple #[.int .i64 (exV P M mod N L A B i).1, .int .i64 (exV P M mod N L A B i).2]) ∧ Below w.heap.size w w' := by
  have Hal := Lib.hid hA.len
  have Hbl := Lib.hid hB.len
  have Hil := Lib.hid hi.len
  have hplb := hB.pl
  go_enter Try.func12, Try.ntmps12
  go_wp2_with fail
  obtain ⟨W, hW⟩ : ∃ W : World, W = w.alloc (.cells #[.int .i64 P, .int .i64 M, .slice am mn cm, .int .i64 N, .slice a n c] 32) := ⟨_, rfl⟩
  rw [← hW]
  have hbW : Below w.heap.size w W := by rw [hW]; exact below1 _ _
  have x0 : Box W w.heap.size [.int .i64 P, .int .i64 M, .slice am mn cm, .int .i64 N, .slice a n c] := by rw [hW]; exact Box.new _ _ _ rfl
  have hS : ∀ V, Below W.heap.size W V → V.cell? ⟨w.heap.size, 0, none⟩ = some (.int .i64 P) ∧ V.cell? ⟨w.heap.size, 1, none⟩ = some (.int .i64 M) ∧ V.cell? ⟨w.heap.size, 2, none⟩ = some (.slice am mn cm) ∧ V.cell? ⟨w.heap.size, 3, none⟩ = some (.int .i64 N) ∧ V.cell? ⟨w.heap.size, 4, none⟩ = some (.slice a n c) := fun V hV => by
    have x1 := x0.keep hV
    exact ⟨x1.cell 0 rfl, x1.cell 1 rfl, x1.cell 2 rfl, x1.cell 3 rfl, x1.cell 4 rfl⟩
  have HS := Lib.hid hS
  have HbW := Lib.hid hbW
  clear hW x0 hS
  refine (infOpen_any P M am mn cm mod N a n c L W (hmod.keep hbW) (hi.keep hbW)).mono ?_
  rintro e w1 ⟨hb1, ⟨hE, rfl⟩ | ⟨hE, b, rfl, hG⟩⟩
  · have hbw1 := Below.next hbW hb1
    have HE : Hid (exV P M mod N L A B i = (0, codeE P M mod N L)) := by
      show _ = _
      have h1 : rk2E P M mod N L A B = codeE P M mod N L := by rw [rk2E, if_neg hE]
      rw [exV, h1, if_pos hE]
    have hE1 : (codeE P M mod N L == 0) = false := by simpa using hE
    have hE2 : (codeE P M mod N L != 0) = true := by simpa using hE
    clear hE
    go_wp2_with fail
    go_ret2
    exact ⟨by rw [HE.out]; rfl, hbw1⟩
  have hbw1 := Below.next hbW hb1
  obtain ⟨m, hm, hm1, hm2, hLl, hRw⟩ := codeE_rws hE
  subst hm
  have hn : n ≤ 1000000 := by rw [← Hil.out]; omega
  have HE : Hid (rk2E P M mod m L A B = setsE m [A, B]) := by show _ = _; rw [rk2E, if_pos hE]
  have hbl := below1 w1 (.cells #[.slice aa na ca, .slice ab nb cb] 22)
  have hMs : Mat (w1.alloc (.cells #[.slice aa na ca, .slice ab nb cb] 22)) (some ⟨w1.heap.size, 0, none⟩) 2 [A, B] := ⟨rfl, fun _ => rfl, by unfold maxLen; omega, fun k hk => by
    have h2 := cell_alloc_at w1 #[.slice aa na ca, .slice ab nb cb] 22 rfl k
    match k, hk with
    | 0, _ => exact ⟨aa, na, ca, h2, (hA.keep hbw1).keep hbl⟩
    | 1, _ => exact ⟨ab, nb, cb, h2, (hB.keep hbw1).keep hbl⟩⟩
  have HMs := Lib.hid (sets_any P M am mn cm m a n c _ 2 2 [A, B] _ hMs)
  obtain ⟨c0, c1, c2, c3, c4⟩ := HS.out w1 hb1
  have Hbl2 := Lib.hid hbl
  clear hE hMs hbl
  go_wp2_with fail
  refine HMs.out.mono ?_
  rintro e w2 ⟨rfl, hb2⟩
  have hb12 : Below w1.heap.size w1 w2 := Below.next Hbl2.out hb2
  have hbw2 := Below.next hbw1 hb12
  clear c0 c1 c2 c3 c4 HMs
  have hse : setsE m [A, B] = if okSet m A = true ∧ okSet m B = true then 0 else 6 := by simp [setsE]
  rw [hse] at HE ⊢
  by_cases hok : okSet m A = true ∧ okSet m B = true
  rotate_left
  · have HV : Hid (exV P M mod m L A B i = (0, 6)) := by
      show _ = _
      have h1 : rk2E P M mod m L A B = 6 := by rw [HE.out, if_neg hok]
      rw [exV, h1, if_pos (by decide)]
    rw [if_neg hok]
    clear hok hse
    go_wp2_with fail
    go_ret2
    exact ⟨by rw [HV.out]; rfl, hbw2⟩
  have HE2 : Hid (rk2E P M mod m L A B = 0) := by show _ = _; rw [HE.out, if_pos hok]
  rw [if_pos hok]
  obtain ⟨hokA, hokB⟩ := hok
  have hAk : ∀ k, k < A.length → 0 ≤ nth A k ∧ nth A k < m := fun k hk => ⟨(okSet_at hokA hk).1, (okSet_at hokA hk).2.1⟩
  have hBk : ∀ k, k < B.length → 0 ≤ nth B k ∧ nth B k < m := fun k hk => ⟨(okSet_at hokB hk).1, (okSet_at hokB hk).2.1⟩
  have hna : na ≤ 1000000 := by have := okSet_len hokA (by omega); rw [← Hal.out]; omega
  have hnb : nb ≤ 1000000 := by have := okSet_len hokB (by omega); rw [← Hbl.out]; omega
  have HisQ : Hid (∀ V Q aq nq cq, Below w1.heap.size w1 V → Ints V aq nq Q → (∀ k, k < Q.length → 0 ≤ nth Q k ∧ nth Q k < m) → nq ≤ 1000000 →
      Calls Try.prog 26 #[.pointer (some ⟨b, 0, none⟩), .agg #[.int .i64 P, .int .i64 M, .slice am mn cm, .int .i64 m, .slice a n c], .slice aq nq cq] V
        fun e w' => e = .returned (.bool (isB (tblOf P M.toNat mod).ops L Q)) ∧ Below V.heap.size V w') := fun V Q aq nq cq hV hq hQ hnq =>
    infis_any P M am mn cm m a n c L m aq nq cq Q (hG.keep hV) (hi.keep (Below.next hbw1 hV)) hRw hq (fun k hk => hQ k (by rw [hq.len]; exact hk)) hn hnq
  have HAk := Lib.hid hAk
  have HBk := Lib.hid hBk
  obtain ⟨O, hO⟩ : ∃ O, (tblOf P M.toNat mod).ops = O := ⟨_, rfl⟩
  rw [hO] at HisQ
  have HexV : Hid (exV P M mod m L A B i = if (isB O L A && isB O L B) = false then ((0, 9) : Int × Int) else if ¬ i ∈ A then (0, 11) else match B.find? (exP O L A (A.findIdx fun x => x == i)) with | some j => (j, 0) | none => (0, 11)) := by
    show _ = _
    rw [exV, HE2.out, hO, if_neg (by decide)]
  have hbW2 := Below.next hb1 hb12
  obtain ⟨c0, c1, c2, c3, c4⟩ := HS.out w2 hbW2
  have HiA := Lib.hid (HisQ.out w2 A aa na ca hb12 (hA.keep hbw2) hAk hna)
  clear hAk hBk hokA hokB hse hRw hG hO HE HE2
  go_wp2_with fail
  refine HiA.out.mono ?_
  rintro e w3 ⟨rfl, hb3⟩
  have hb13 := Below.next hb12 hb3
  have hbW3 := Below.next hbW2 hb3
  clear c0 c1 c2 c3 c4 HiA
  by_cases hiA : isB O L A = true
  rotate_left
  · have hiA' : isB O L A = false := by simpa using hiA
    have HV : Hid (exV P M mod m L A B i = (0, 9)) := by show _ = _; rw [HexV.out, hiA']; rfl
    have hF := Below.next HbW.out hbW3
    rw [hiA']
    clear hiA hiA'
    go_wp2_with fail
    go_ret2
    exact ⟨by rw [HV.out]; rfl, hF⟩
  obtain ⟨c0, c1, c2, c3, c4⟩ := HS.out w3 hbW3
  have HiB := Lib.hid (HisQ.out w3 B ab nb cb hb13 (hB.keep (Below.next HbW.out hbW3)) HBk.out hnb)
  rw [hiA]
  go_wp2_with fail
  refine HiB.out.mono ?_
  rintro e w4 ⟨rfl, hb4⟩
  have hb14 := Below.next hb13 hb4
  have hbW4 := Below.next hbW3 hb4
  clear c0 c1 c2 c3 c4 HiB
  by_cases hiB : isB O L B = true
  rotate_left
  · have hiB' : isB O L B = false := by simpa using hiB
    have HV : Hid (exV P M mod m L A B i = (0, 9)) := by show _ = _; rw [HexV.out, hiA, hiB']; rfl
    have hF := Below.next HbW.out hbW4
    rw [hiB']
    clear hiB hiB' hiA
    go_wp2_with fail
    go_ret2
    exact ⟨by rw [HV.out]; rfl, hF⟩
  have HexV2 : Hid (exV P M mod m L A B i = if ¬ i ∈ A then ((0, 11) : Int × Int) else match B.find? (exP O L A (A.findIdx fun x => x == i)) with | some j => (j, 0) | none => (0, 11)) := by
    show _ = _
    rw [HexV.out, hiA, hiB, if_neg (by decide)]
  rw [hiB]
  have hA4 := hA.keep (Below.next HbW.out hbW4)
  clear hiA hiB HexV
  go_wp2_with fail
  refine (indexV_any aa na ca A i w4 hA4).mono ?_
  rintro e w5 ⟨rfl, rfl⟩
  by_cases hin : i ∈ A
  rotate_left
  · have HV : Hid (exV P M mod m L A B i = (0, 11)) := by show _ = _; rw [HexV2.out, if_pos hin]
    have hix : ixV A i = -1 := by rw [ixV, if_neg hin]
    have hF := Below.next HbW.out hbW4
    rw [hix]
    clear hin hix
    go_wp2_with fail
    go_ret2
    exact ⟨by rw [HV.out]; rfl, hF⟩
  obtain ⟨t, hix, htl, _⟩ := ix_in hin
  have htx : (A.findIdx fun x => x == i) = t := by rw [ixV, if_pos hin] at hix; omega
  have HexV3 : Hid (exV P M mod m L A B i = match B.find? (exP O L A t) with | some j => (j, 0) | none => (0, 11)) := by
    show _ = _
    rw [HexV2.out, if_neg (by simpa using hin), htx]
  have htn : t < na := by rw [← Hal.out]; exact htl
  rw [hix]
  have ht0 : decide ((t : Int) < 0) = false := by simp
  clear hin hix htx HexV2 htl
  generalize w5 = U at *
  go_wp2_with fail
  go_loopw [50] (fun iv wr => ∃ k : Nat, k ≤ nb ∧ iv = .int .i64 k ∧ Hid (∀ j, j < k → exP O L A t (nth B j) = false) ∧ Below U.heap.size U wr) (fun iv _ => nb - (intOf iv).toNat)
  case atStart => exact ⟨0, Nat.zero_le _, rfl, fun j hj => by omega, Below.refl _ _⟩
  case round =>
    obtain ⟨k, hk, rfl, hno, hbr⟩ := hrel
    have hb1r := Below.next hb14 hbr
    have hbWr := Below.next hbW4 hbr
    have hbwr := Below.next HbW.out hbWr
    by_cases hlt : k < nb
    · have cb' := (hB.keep hbwr).cell k hlt
      have hAr := hA.keep hbwr
      have hBkk := HBk.out k (by rw [Hbl.out]; exact hlt)
      have Hno := fun (h : exP O L A t (nth B k) = false) => Lib.hid (show ∀ j, j < k + 1 → exP O L A t (nth B j) = false from fun j hj => by
        by_cases e : j = k
        · subst e; exact h
        · exact hno.out j (by omega))
      have Hyes := fun (h : exP O L A t (nth B k) = true) => Lib.hid (show exV P M mod m L A B i = (nth B k, 0) by
        rw [HexV3.out, find_at _ B k (by rw [Hbl.out]; exact hlt) hno.out h])
      by_cases hm : nth B k ∈ A
      · have Hn := Hno (by unfold exP; simp [hm])
        have hmd : decide (nth B k ∈ A) = true := by simpa using hm
        have HcA := Lib.hid (contains_any aa na ca A (nth B k) wr hAr)
        rw [hmd] at HcA
        clear hm hmd Hno Hyes hno
        go_wp2_with fail
        refine HcA.out.mono ?_
        rintro e w6 ⟨rfl, rfl⟩
        go_wp2_with fail
        go_roundw
        case rel => exact ⟨k + 1, by omega, by go_num, Hn.out, hbr⟩
        case measure => simp [intOf] <;> omega
      · have hmd : decide (nth B k ∈ A) = false := by simpa using hm
        have HcA := Lib.hid (contains_any aa na ca A (nth B k) wr hAr)
        rw [hmd] at HcA
        have hex : exP O L A t (nth B k) = isB O L (A.set t (nth B k)) := by unfold exP; simp [hm]
        have HSk := Lib.hid (InNs.set HAk.out (show t < A.length by rw [Hal.out]; exact htn) hBkk)
        have Hex := Lib.hid hex
        clear hm hmd hno hex
        go_wp2_with fail
        refine HcA.out.mono ?_
        rintro e w6 ⟨rfl, rfl⟩
        go_wp2_with fail
        refine (clone1_any aa na ca A hAr hna).mono ?_
        rintro e w7 ⟨a7, c7, rfl, hown7, hb7⟩
        rw [Hal.out] at hown7 ⊢
        obtain ⟨hints, hmine⟩ := Ints.own hown7
        have hpl7 := hints.pl
        have cz := hints.cell t htn
        have fz := (hmine (by omega)).2 t htn
        have hBz := (hmine (by omega)).1
        have hown8 := own_set hown7 t htn (.int .i64 (nth B k))
        rw [← List.map_set] at hown8
        have hb8 : Below w6.heap.size w6 (w7.setCell ⟨ablk a7, aoff a7 + t, none⟩ (.int .i64 (nth B k))) := hb7.setCell hBz _
        have H8 := Lib.hid (Ints.own hown8).1
        have hb18 := Below.next hb1r hb8
        obtain ⟨c0, c1, c2, c3, c4⟩ := HS.out _ (Below.next hbWr hb8)
        have HiS := Lib.hid (HisQ.out _ (A.set t (nth B k)) a7 na c7 hb18 H8.out (by rw [List.length_set]; exact HSk.out) hna)
        clear hown7 hown8 hints hmine H8 HcA
        go_wp2_with fail
        refine HiS.out.mono ?_
        rintro e w9 ⟨rfl, hb9⟩
        have hbr9 := Below.next hbr (Below.next hb8 hb9)
        have hF9 := Below.next hbwr (Below.next hb8 hb9)
        clear c0 c1 c2 c3 c4
        by_cases hs : isB O L (A.set t (nth B k)) = true
        · have HV := Hyes (by rw [Hex.out]; exact hs)
          rw [hs]
          clear hs Hno Hyes HiS
          go_wp2_with fail
          go_ret2
          exact ⟨by rw [HV.out]; rfl, hF9⟩
        · have hs' : isB O L (A.set t (nth B k)) = false := by simpa using hs
          have Hn := Hno (by rw [Hex.out]; exact hs')
          rw [hs']
          clear hs hs' Hno Hyes HiS
          go_wp2_with fail
          go_roundw
          case rel => exact ⟨k + 1, by omega, by go_num, Hn.out, hbr9⟩
          case measure => simp [intOf] <;> omega
    · obtain rfl : k = nb := by omega
      have HV : Hid (exV P M mod m L A B i = (0, 11)) := by
        show _ = _
        rw [HexV3.out, find_no _ B (by rw [Hbl.out]; exact hno.out)]
      clear hno
      go_wp2_with fail
      go_ret2
      exact ⟨by rw [HV.out]; rfl, hbwr⟩
end

end Go.Proofs.Ytapjcccpokhhhaa
