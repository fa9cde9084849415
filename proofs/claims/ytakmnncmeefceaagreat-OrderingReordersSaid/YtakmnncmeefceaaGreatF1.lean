/- The walks of slices.Sort, Sorted at []int. -/
import Derived.Test.YtakmnncmeefceaaGreatE7
import Derived.Test.YtakmnncmeefceaaGreatE2
import Derived.Test.YtakmnncmeefceaaGreatB2
import Derived.Shelf.Sort.Plain
import Derived.Test.YtakmnncmeefceaaGreatProg
import Derived.RangeFuncBox
import Derived.RangeFuncLeaves
import Derived.Shelf.Abstract
import Derived.WalkKit
import Derived.OwnWalkIn
import Derived.TacticsInMore
import Derived.LoopNIn
import Derived.LoopIn
import Derived.Maps.AppendAt
import Derived.Test.YtakmnncmeefceaaGreatA4
import Derived.Test.YtakmnncmeefceaaGreatA1
import Derived.Sort.OwnSortedInts
namespace Go.Proofs.YtakmnncmeefceaaGreat
set_option linter.unusedVariables false
set_option linter.unusedSimpArgs false
set_option linter.unusedSectionVars false

/- A code with its positions in another order (plain law). -/
section
/-- the numbers from lo on, n of them -/
def spanL (lo n : Nat) : List Int := (List.range n).map fun t => ((lo + t : Nat) : Int)
theorem spanL_len (lo n : Nat) : (spanL lo n).length = n := by simp [spanL]
theorem nth_spanL {lo n j : Nat} (h : j < n) : nth (spanL lo n) j = ((lo + j : Nat) : Int) := by
  rw [nth_getElem (by rw [spanL_len]; exact h)]; simp [spanL]
theorem mem_grSpan (lo n x : Nat) : x ∈ grL (spanL lo n) (spanL lo n).length ↔ lo ≤ x ∧ x < lo + n := by
  rw [mem_grL, spanL_len]
  constructor
  · rintro ⟨j, hj, e⟩
    rw [nth_spanL hj, Int.toNat_natCast] at e
    omega
  · rintro ⟨h1, h2⟩
    exact ⟨x - lo, by omega, by rw [nth_spanL (by omega), Int.toNat_natCast]; omega⟩

section
variable {O : FOps} {El : Int → Prop} {m : Nat}

/-- the rows of the code with its positions in the order Q -/
def reoL (O : FOps) (m : Nat) (Q : List Int) (L : List (List Int)) : List (List Int) := canO O m (L.map (pickL Q))
theorem reo_rws (F : Fld O El) {L : List (List Int)} (hL : Rws El m L) {Q : List Int} (hQ : InN m Q) (hl : Q.length = m) : Rws El m (L.map (pickL Q)) := by
  have h := pick_rws hL hQ
  rw [hl] at h
  exact h
theorem reo_rk (F : Fld O El) {L : List (List Int)} (hL : Rws El m L) {Q : List Int} (hQ : InN m Q) (hl : Q.length = m) {S : List Nat} {r : Nat} (hS : ∀ x ∈ S, x < m)
    (h : Rk (clV O El (reoL O m Q L).length (colS (reoL O m Q L))) S r) : Rk (clV O El L.length (colS L)) (S.map fun j => (nth Q j).toNat) r := by
  have hR := reo_rws F hL hQ hl
  obtain ⟨r1, r2⟩ := canO_rsub F hR
  have hcol : ∀ j, j < m → colS (L.map (pickL Q)) j = colS L (nth Q j).toNat := fun j hj => by
    unfold colS
    rw [List.map_map]
    exact List.map_congr_left fun r _ => nth_pickL Q r (by omega)
  refine Rk.map (fun j => j < m) _ (fun l x hl' hx => ?_) h hS
  have e1 : clV O El (reoL O m Q L).length (colS (reoL O m Q L)) l x ↔ clV O El (L.map (pickL Q)).length (colS (L.map (pickL Q))) l x := ⟨r2.cl hl' hx, r1.cl hl' hx⟩
  rw [e1]
  unfold clV
  rw [List.length_map]
  constructor
  · intro h φ hφ h0
    rw [← hcol x hx]
    refine h φ hφ fun y hy => ?_
    rw [hcol y (hl' y hy)]
    exact h0 _ (List.mem_map.2 ⟨y, hy, rfl⟩)
  · intro h φ hφ h0
    rw [hcol x hx]
    refine h φ hφ fun y hy => ?_
    obtain ⟨j, hj, rfl⟩ := List.mem_map.1 hy
    rw [← hcol j (hl' j hj)]
    exact h0 j hj
end

/-- an order has each position, and has it once -/
theorem ord_has {n : Nat} {Q : List Int} (hn : n ≤ 64) (h : ordB n Q = true) {p : Nat} (hp : p < n) : ∃ j, j < n ∧ nth Q j = (p : Int) := by
  obtain ⟨hI, hl⟩ := ordB_in h
  unfold ordB at h
  simp only [Bool.and_eq_true] at h
  have h2 := bits_ord (by omega) h.2 n rfl
  rw [hl] at h2
  have h3 := maskTo_ltp (n := n) (Q := Q) n fun j hj => hI j (by omega)
  have h4 := bits_all h3 h2
  have h5 : (maskTo Q n).testBit p = true := by rw [h4, Nat.testBit_two_pow_sub_one]; simp [hp]
  exact (maskTo_test n (fun j hj => by have := hI j (by omega); omega) p).1 h5
theorem ord_once {n : Nat} {Q : List Int} (hn : n ≤ 64) (h : ordB n Q = true) {i j : Nat} (hi : i < n) (hj : j < n) (e : nth Q i = nth Q j) : i = j := by
  obtain ⟨hI, hl⟩ := ordB_in h
  unfold ordB at h
  simp only [Bool.and_eq_true] at h
  have key : ∀ i j, i < j → j < n → nth Q i = nth Q j → False := fun i j hij hj e => by
    have h1 := ordTo_at h.2 j (by omega)
    have h2 : (maskTo Q j).testBit (nth Q j).toNat = true := (maskTo_test j (fun t ht => by have := hI t (by omega); omega) _).2 ⟨i, hij, by rw [e]; omega⟩
    rw [h1.2.2] at h2
    exact absurd h2 (by decide)
  apply Classical.byContradiction
  intro hne
  rcases Nat.lt_or_gt_of_ne hne with h1 | h1
  · exact key i j h1 hj e
  · exact key j i h1 hi e.symm

section
variable {P M : Int} {mod : List Int} {m : Nat} {L : List (List Int)} {Q : List Int}
/-- the ranks of the beginnings and of the ends of the reordered code -/
theorem reo_ranks (hE : codeE P M mod m L = 0) (hO : ordB m Q = true) {i : Nat} (hi : i ≤ m) :
    (grS (tblOf P M.toNat mod).ops (reoL (tblOf P M.toNat mod).ops m Q L) (spanL 0 i)).length = (grS (tblOf P M.toNat mod).ops L (bitsTo (maskTo Q i) m)).length ∧
    (grS (tblOf P M.toNat mod).ops (reoL (tblOf P M.toNat mod).ops m Q L) (spanL i (m - i))).length = (grS (tblOf P M.toNat mod).ops L (bitsTo (cplU (maskTo Q i)) m)).length := by
  obtain ⟨N', e, hm1, hm64, F, hR⟩ := codeE_fld hE
  obtain rfl : m = N' := by omega
  obtain ⟨hI, hl⟩ := ordB_in hO
  have hR2 := reo_rws F hR hI hl
  have hD := canO_rws F hR2
  have hbd : ∀ k, k ≤ m → ∀ j, j < k → 0 ≤ nth Q j ∧ nth Q j < 64 := fun k hk j hj => by have := hI j (by omega); omega
  constructor
  · have h1 := reo_rk F hR hI hl (S := grL (spanL 0 i) (spanL 0 i).length) (fun x hx => by have := (mem_grSpan 0 i x).1 hx; omega) (grS_rk F hD (spanL 0 i))
    refine Rk.same (col_clo F hR) h1 (grS_rk F hR _) fun x => ?_
    rw [mem_grBits, maskTo_test i (hbd i hi), List.mem_map]
    constructor
    · rintro ⟨j, hj, rfl⟩
      have hj' := (mem_grSpan 0 i j).1 hj
      have := hI j (by omega)
      exact ⟨by omega, j, by omega, by omega⟩
    · rintro ⟨_, j, hj, e⟩
      exact ⟨j, (mem_grSpan 0 i j).2 (by omega), by omega⟩
  · have h1 := reo_rk F hR hI hl (S := grL (spanL i (m - i)) (spanL i (m - i)).length) (fun x hx => by have := (mem_grSpan i (m - i) x).1 hx; omega) (grS_rk F hD (spanL i (m - i)))
    refine Rk.same (col_clo F hR) h1 (grS_rk F hR _) fun x => ?_
    rw [mem_grBits, List.mem_map]
    constructor
    · rintro ⟨j, hj, rfl⟩
      have hj' := (mem_grSpan i (m - i) j).1 hj
      have hb := hI j (by omega)
      refine ⟨by omega, ?_⟩
      rw [cplU_test _ _ (by omega)]
      have : (maskTo Q i).testBit (nth Q j).toNat = false := by
        apply Classical.byContradiction
        intro hc
        obtain ⟨t, ht, e⟩ := (maskTo_test i (hbd i hi) _).1 (by simpa using hc)
        have := ord_once hm64 hO (i := t) (j := j) (by omega) (by omega) (by omega)
        omega
      rw [this]; rfl
    · rintro ⟨hx, hc⟩
      rw [cplU_test _ _ (by omega)] at hc
      obtain ⟨j, hj, e⟩ := ord_has hm64 hO hx
      have hij : i ≤ j := by
        apply Classical.byContradiction
        intro h
        have : (maskTo Q i).testBit x = true := (maskTo_test i (hbd i hi) _).2 ⟨j, by omega, e⟩
        rw [this] at hc
        exact absurd hc (by decide)
      exact ⟨j, (mem_grSpan i (m - i) j).2 (by omega), by omega⟩
theorem reo_len (hE : codeE P M mod m L = 0) (hO : ordB m Q = true) : (reoL (tblOf P M.toNat mod).ops m Q L).length = L.length := by
  obtain ⟨N', e, hm1, hm64, F, hR⟩ := codeE_fld hE
  obtain rfl : m = N' := by omega
  obtain ⟨hI, hl⟩ := ordB_in hO
  obtain ⟨h5, h6⟩ := spaceE_zero (codeE_zero hE).2.2.2
  rw [Int.toNat_natCast] at h6
  have hcan : canO (tblOf P M.toNat mod).ops m L = L := h6
  have hR2 := reo_rws F hR hI hl
  have h1 := reo_rk F hR hI hl (S := List.range m) (fun x hx => List.mem_range.1 hx) (canO_rk F hR2)
  have h2 := canO_rk F hR
  rw [hcan] at h2
  refine Rk.same (col_clo F hR) h1 h2 fun x => ?_
  rw [List.mem_map, List.mem_range]
  constructor
  · rintro ⟨j, hj, rfl⟩
    have := hI j (by have := List.mem_range.1 hj; omega)
    omega
  · intro hx
    obtain ⟨j, hj, e⟩ := ord_has hm64 hO hx
    exact ⟨j, List.mem_range.2 hj, by omega⟩
/-- the reordered code is a code -/
theorem reo_code (hE : codeE P M mod m L = 0) (hO : ordB m Q = true) : codeE P M mod m (reoL (tblOf P M.toNat mod).ops m Q L) = 0 := by
  obtain ⟨N', e, hm1, hm64, F, hR⟩ := codeE_fld hE
  obtain rfl : m = N' := by omega
  obtain ⟨hI, hl⟩ := ordB_in hO
  have hlen := reo_len hE hO
  have hL256 := (codeE_rws hE).choose_spec.2.2.2.1
  have hR2 := reo_rws F hR hI hl
  have hKR := canO_rws F hR2
  have hidem := canO_idem F hR2
  have hfB := (codeE_zero hE).1
  show codeE P M mod m (canO (tblOf P M.toNat mod).ops m (L.map (pickL Q))) = 0
  have hlen' : (canO (tblOf P M.toNat mod).ops m (L.map (pickL Q))).length = L.length := hlen
  generalize canO (tblOf P M.toNat mod).ops m (L.map (pickL Q)) = D at *
  have hm : matE (tblOf P M.toNat mod).q m D = 0 := by
    unfold matE
    rw [if_neg (by omega)]
    have hsh : shapeQ (m : Int) D = true := by
      unfold shapeQ
      rw [List.all_eq_true]
      intro r hr
      have := (hKR r hr).1
      simp; omega
    rw [if_neg (by rw [hsh]; decide), if_pos]
    rw [List.all_eq_true]
    intro r hr
    unfold elsQ isQ
    rw [List.all_eq_true]
    intro x hx
    have := (hKR r hr).2 x hx
    unfold Tbl.El at this
    simp
    exact this
  have hf : fmatE P M mod m D = 0 := by unfold fmatE; rw [if_pos hfB]; exact hm
  have hsp : spaceE P M mod m D = 0 := by
    unfold spaceE
    rw [if_pos hf, Int.toNat_natCast, if_pos]
    exact hidem
  have hle : lenE (m : Int) = 0 := lenE_in (by omega) (by omega)
  unfold codeE
  rw [if_pos hfB, if_pos hle]
  exact hsp
/-- the profile's entries are the dimensions of the order's beginnings -/
theorem reo_prof (hE : codeE P M mod m L = 0) (hO : ordB m Q = true) {i : Nat} (hi : i ≤ m) :
    ((grS (tblOf P M.toNat mod).ops (reoL (tblOf P M.toNat mod).ops m Q L) (spanL 0 i)).length : Int) + (grS (tblOf P M.toNat mod).ops (reoL (tblOf P M.toNat mod).ops m Q L) (spanL i (m - i))).length - (reoL (tblOf P M.toNat mod).ops m Q L).length =
      dimS (tblOf P M.toNat mod).ops L m (maskTo Q i) := by
  obtain ⟨h1, h2⟩ := reo_ranks hE hO hi
  rw [h1, h2, reo_len hE hO]
  rfl
end
end

/- Sorted lists of numbers (plain law). -/
section
def sortL (l : List Int) : List Int := l.mergeSort fun x y => decide (x ≤ y)
theorem sortL_perm (l : List Int) : (sortL l).Perm l := List.mergeSort_perm l _
theorem sortL_len (l : List Int) : (sortL l).length = l.length := (sortL_perm l).length_eq
theorem sortL_pair (l : List Int) : (sortL l).Pairwise fun x y => x ≤ y := by
  have h := List.pairwise_mergeSort (le := fun x y : Int => decide (x ≤ y)) (fun a b c h1 h2 => by simp at *; omega) (fun a b => by simp; omega) l
  exact h.imp fun h => by simpa using h
/-- sorted lists with the same members are one -/
theorem pair_unique : ∀ {l l' : List Int}, l.Pairwise (fun x y => x ≤ y) → l'.Pairwise (fun x y => x ≤ y) → l.Perm l' → l = l'
  | [], l', _, _, h => by rw [List.nil_perm] at h; exact h.symm
  | x :: l, [], _, _, h => by rw [List.perm_nil] at h; exact h
  | x :: l, y :: l', h1, h2, h => by
    rw [List.pairwise_cons] at h1 h2
    have hx : x ∈ y :: l' := h.subset (List.mem_cons_self ..)
    have hy : y ∈ x :: l := h.symm.subset (List.mem_cons_self ..)
    have e : x = y := by
      rcases List.mem_cons.1 hx with e | hx
      · exact e
      · rcases List.mem_cons.1 hy with e | hy
        · exact e.symm
        · have := h1.1 y hy
          have := h2.1 x hx
          omega
    subst e
    rw [pair_unique h1.2 h2.2 (List.Perm.cons_inv h)]
theorem sortL_unique {l l' : List Int} (h : l'.Pairwise fun x y => x ≤ y) (hp : l'.Perm l) : l' = sortL l := pair_unique h (sortL_pair l) (hp.trans (sortL_perm l).symm)
theorem sortL_of_perm {l l' : List Int} (hp : l.Perm l') : sortL l = sortL l' := pair_unique (sortL_pair l) (sortL_pair l') ((sortL_perm l).trans (hp.trans (sortL_perm l').symm))
theorem nth_inj_nodup {l : List Int} (h : ∀ i j, i < j → j < l.length → nth l i ≠ nth l j) : l.Nodup := by
  unfold List.Nodup
  rw [List.pairwise_iff_getElem]
  intro i j hi hj hij
  have := h i j hij hj
  rwa [nth_getElem hi, nth_getElem hj] at this
/-- a list of distinct numbers below m, sorted, is an ascending set -/
theorem okSet_sort {m : Int} {l : List Int} (hn : l.Nodup) (hb : ∀ x ∈ l, 0 ≤ x ∧ x < m) : okSet m (sortL l) = true := by
  have h1 := sortL_pair l
  have h2 : (sortL l).Nodup := (sortL_perm l).nodup_iff.2 hn
  have h3 : ∀ x ∈ sortL l, 0 ≤ x ∧ x < m := fun x hx => hb x ((sortL_perm l).subset hx)
  rw [List.pairwise_iff_getElem] at h1
  unfold List.Nodup at h2
  rw [List.pairwise_iff_getElem] at h2
  have key : ∀ k, (∀ i, i < k → okAt m (sortL l) i = true) → okTo m (sortL l) k = true := fun k => by
    induction k with
    | zero => intro _; rfl
    | succ k ih => intro h; exact okTo_succ (ih fun i hi => h i (by omega)) (h k (by omega))
  unfold okSet
  refine key _ fun i hi => ?_
  have h4 := h3 _ (List.getElem_mem hi)
  unfold okAt
  rw [nth_getElem hi]
  by_cases h0 : i = 0
  · simp [h0] at h4 ⊢; omega
  · have h5 := h1 (i - 1) i (by omega) hi (by omega)
    have h6 := h2 (i - 1) i (by omega) hi (by omega)
    rw [nth_getElem (show i - 1 < (sortL l).length by omega)]
    simp; omega
end

/- The inverse of an order, and rows whose entries are put at their places (plain law). -/
section
/-- the inverse of the order Q after k steps -/
def permTo (m : Nat) (Q : List Int) : Nat → List Int
  | 0 => List.replicate m 0
  | k + 1 => (permTo m Q k).set (nth Q k).toNat (k : Int)
theorem permTo_len (m : Nat) (Q : List Int) : ∀ k, (permTo m Q k).length = m
  | 0 => by simp [permTo]
  | k + 1 => by rw [permTo, List.length_set, permTo_len m Q k]
/-- the row's first k entries at the places R -/
def scat (m : Nat) (R r : List Int) : Nat → List Int
  | 0 => List.replicate m 0
  | k + 1 => (scat m R r k).set (nth R k).toNat (nth r k)
theorem scat_len (m : Nat) (R r : List Int) : ∀ k, (scat m R r k).length = m
  | 0 => by simp [scat]
  | k + 1 => by rw [scat, List.length_set, scat_len m R r k]
section
variable {m : Nat} {Q : List Int}
theorem permTo_at (hm : m ≤ 64) (hO : ordB m Q = true) : ∀ k, k ≤ m → ∀ j, j < k → nth (permTo m Q k) (nth Q j).toNat = (j : Int)
  | 0, _, j, hj => by omega
  | k + 1, hk, j, hj => by
    obtain ⟨hI, hl⟩ := ordB_in hO
    have h1 := hI k (by omega)
    rw [permTo, nth_set _ _ _ _ (by rw [permTo_len]; omega)]
    by_cases e : j = k
    · subst e; rw [if_pos rfl]
    · rw [if_neg, permTo_at hm hO k (by omega) j (by omega)]
      intro e2
      have h2 := hI j (by omega)
      exact e (ord_once hm hO (i := j) (j := k) (by omega) (by omega) (by omega))
theorem permTo_nth (hm : m ≤ 64) (hO : ordB m Q = true) {i : Nat} (hi : i < m) : ∃ j, j < m ∧ nth Q j = (i : Int) ∧ nth (permTo m Q m) i = (j : Int) := by
  obtain ⟨j, hj, e⟩ := ord_has hm hO hi
  refine ⟨j, hj, e, ?_⟩
  have := permTo_at hm hO m (Nat.le_refl _) j hj
  rwa [e, Int.toNat_natCast] at this
theorem permTo_in (hm : m ≤ 64) (hO : ordB m Q = true) : InN m (permTo m Q m) := fun i hi => by
  rw [permTo_len] at hi
  obtain ⟨j, hj, _, e⟩ := permTo_nth hm hO hi
  omega
theorem permTo_set (hm : m ≤ 64) (hO : ordB m Q = true) : okSet m (sortL (permTo m Q m)) = true := by
  refine okSet_sort (nth_inj_nodup fun i j hij hj e => ?_) fun x hx => ?_
  · rw [permTo_len] at hj
    obtain ⟨a, _, ea, e1⟩ := permTo_nth hm hO (show i < m by omega)
    obtain ⟨b, _, eb, e2⟩ := permTo_nth hm hO hj
    have : a = b := by omega
    subst this
    omega
  · obtain ⟨i, hi, rfl⟩ := List.mem_iff_getElem.1 hx
    rw [← nth_getElem hi]
    exact permTo_in hm hO i hi
/-- putting the entries at the places of the inverse picks them by the order -/
theorem scat_at (hm : m ≤ 64) (hO : ordB m Q = true) (r : List Int) : ∀ k, k ≤ m → ∀ i, i < k → ∀ j : Nat, nth (permTo m Q m) i = (j : Int) → nth (scat m (permTo m Q m) r k) j = nth r i
  | 0, _, i, hi, _, _ => by omega
  | k + 1, hk, i, hi, j, e => by
    obtain ⟨jk, hjk, ek, e1⟩ := permTo_nth hm hO (show k < m by omega)
    obtain ⟨ji, hji, ei, e2⟩ := permTo_nth hm hO (show i < m by omega)
    rw [scat, e1, Int.toNat_natCast, nth_set _ _ _ _ (by rw [scat_len]; exact hjk)]
    by_cases h : i = k
    · subst h
      rw [if_pos (by omega)]
    · rw [if_neg, scat_at hm hO r k (by omega) i (by omega) j e]
      intro e3
      have h4 : ji = jk := by omega
      subst h4
      omega
theorem scat_pick (hm : m ≤ 64) (hO : ordB m Q = true) (r : List Int) : scat m (permTo m Q m) r m = pickL Q r := by
  obtain ⟨hI, hl⟩ := ordB_in hO
  refine nth_ext (by rw [scat_len]; simp [pickL]; omega) fun j hj => ?_
  rw [scat_len] at hj
  have h1 := hI j (by omega)
  rw [nth_pickL Q r (by omega)]
  exact scat_at hm hO r m (Nat.le_refl _) (nth Q j).toNat (by omega) j (permTo_at hm hO m (Nat.le_refl _) j hj)
end
end

/- The library's contract of slices.Sort laid over this program. -/
section
open Go.Shelf

def layS_ren : Go.Shelf.Ren := ⟨fun | 189 => 80 | 125 => 124 | 257 => 123 | 128 => 173 | 129 => 174 | 294 => 164 | 295 => 165 | 296 => 166 | 297 => 167 | 298 => 168 | 299 => 169 | 216 => 170 | 300 => 171 | 301 => 172 | 328 => 194 | 329 => 195 | 330 => 196 | 331 => 197 | 332 => 198 | 215 => 199 | 343 => 203 | n => n, fun | 28 => 22 | 3 => 3 | 46 => 140 | 0 => 0 | 51 => 178 | 53 => 116 | 4 => 4 | 183 => 170 | 182 => 169 | 131 => 175 | 5 => 5 | 9 => 9 | 218 => 188 | 222 => 192 | 228 => 194 | 229 => 81 | n => n, fun n => n⟩
theorem layS : Go.Proofs.Lays.n189 Tryz.prog layS_ren := {
  mixed := by kernel_rfl
  f125 := Tryz.func124.trans (congrArg some (by kernel_rfl))
  f128 := Tryz.func173.trans (congrArg some (by kernel_rfl))
  f129 := Tryz.func174.trans (congrArg some (by kernel_rfl))
  f189 := Tryz.func80.trans (congrArg some (by kernel_rfl))
  f215 := Tryz.func199.trans (congrArg some (by kernel_rfl))
  f216 := Tryz.func170.trans (congrArg some (by kernel_rfl))
  f257 := Tryz.func123.trans (congrArg some (by kernel_rfl))
  f294 := Tryz.func164.trans (congrArg some (by kernel_rfl))
  f295 := Tryz.func165.trans (congrArg some (by kernel_rfl))
  f296 := Tryz.func166.trans (congrArg some (by kernel_rfl))
  f297 := Tryz.func167.trans (congrArg some (by kernel_rfl))
  f298 := Tryz.func168.trans (congrArg some (by kernel_rfl))
  f299 := Tryz.func169.trans (congrArg some (by kernel_rfl))
  f300 := Tryz.func171.trans (congrArg some (by kernel_rfl))
  f301 := Tryz.func172.trans (congrArg some (by kernel_rfl))
  f328 := Tryz.func194.trans (congrArg some (by kernel_rfl))
  f329 := Tryz.func195.trans (congrArg some (by kernel_rfl))
  f330 := Tryz.func196.trans (congrArg some (by kernel_rfl))
  f331 := Tryz.func197.trans (congrArg some (by kernel_rfl))
  f332 := Tryz.func198.trans (congrArg some (by kernel_rfl))
  f343 := Tryz.func203.trans (congrArg some (by kernel_rfl))
  t0 := Tryz.underlying0
  a0 := Tryz.isAgg0
  z0 := Tryz.sizeOf0
  v0 := Tryz.zeroValue0
  t3 := Tryz.underlying3
  a3 := Tryz.isAgg3
  z3 := Tryz.sizeOf3
  v3 := Tryz.zeroValue3
  t4 := Tryz.underlying4
  a4 := Tryz.isAgg4
  z4 := Tryz.sizeOf4
  v4 := Tryz.zeroValue4
  t5 := Tryz.underlying5
  a5 := Tryz.isAgg5
  z5 := Tryz.sizeOf5
  v5 := Tryz.zeroValue5
  t9 := Tryz.underlying9
  a9 := Tryz.isAgg9
  z9 := Tryz.sizeOf9
  v9 := Tryz.zeroValue9
  t28 := Tryz.underlying22
  a28 := Tryz.isAgg22
  z28 := Tryz.sizeOf22
  v28 := Tryz.zeroValue22
  t46 := Tryz.underlying140
  a46 := Tryz.isAgg140
  z46 := Tryz.sizeOf140
  v46 := Tryz.zeroValue140
  t51 := Tryz.underlying178
  a51 := Tryz.isAgg178
  z51 := Tryz.sizeOf178
  v51 := Tryz.zeroValue178
  t53 := Tryz.underlying116
  a53 := Tryz.isAgg116
  z53 := Tryz.sizeOf116
  v53 := Tryz.zeroValue116
  t131 := Tryz.underlying175
  a131 := Tryz.isAgg175
  z131 := Tryz.sizeOf175
  v131 := Tryz.zeroValue175
  t182 := Tryz.underlying169
  a182 := Tryz.isAgg169
  z182 := Tryz.sizeOf169
  v182 := Tryz.zeroValue169
  t183 := Tryz.underlying170
  a183 := Tryz.isAgg170
  z183 := Tryz.sizeOf170
  v183 := Tryz.zeroValue170
  t218 := Tryz.underlying188
  a218 := Tryz.isAgg188
  z218 := Tryz.sizeOf188
  v218 := Tryz.zeroValue188
  t222 := Tryz.underlying192
  a222 := Tryz.isAgg192
  z222 := Tryz.sizeOf192
  v222 := Tryz.zeroValue192
  t228 := Tryz.underlying194
  a228 := Tryz.isAgg194
  z228 := Tryz.sizeOf194
  v228 := Tryz.zeroValue194
  t229 := Tryz.underlying81
  a229 := Tryz.isAgg81
  z229 := Tryz.sizeOf81
  v229 := Tryz.zeroValue81 }
end

/- The walks of slices.Values, AppendSeq, Collect at []int. -/
section
open Go.RowKit Go.Shelf

attribute [local go_sem] Oper.semAt_some

theorem take_nth (l : List Int) {k : Nat} (h : k < l.length) : l.take (k + 1) = l.take k ++ [nth l k] := by
  rw [List.take_succ_eq_append_getElem h, nth_getElem h]

set_option maxRecDepth 100000 in
set_option maxHeartbeats 2000000 in
/-- the iterator of slices.Values -/
theorem iterVals1_in (F : Fence) (n : Nat) (hF : F.fn 122) (hro : F.round = none) (hn : 1 ≤ n) (l Bs n₀ : Nat) (a : Option Addr) (len cap : Nat) (zs : List Int) (hreach : len * 8 ≤ 140737488351232) (J Jx : List Int → World → Prop)
    (hY : ∀ pre x W, J pre W → pre.length < len → YieldAt F (n - 1) Tryz.prog l #[.int .i64 x] W fun e W' =>
      (e = .returned (.bool true) ∧ J (pre ++ [x]) W' ∧ Below n₀ W W') ∨ (e = .returned (.bool false) ∧ Jx (pre ++ [x]) W'))
    (W : World) (hBs : W.cell? ⟨Bs, 0, none⟩ = some (.slice a len cap)) (hc : Ints W a len zs) (hb : 0 < len → ablk a < n₀) (h0 : J [] W) :
    CallsIn F n Tryz.prog 122 #[.func (.yield l) #[] #[], .pointer (some ⟨Bs, 0, none⟩)] W fun e W' => (∃ v, e = .returned v) ∧
      ((∃ ys, ys = zs ∧ J ys W') ∨ (∃ pre, (∃ k, k ≤ len ∧ pre = zs.take k) ∧ Jx pre W')) := by
  have hpl := hc.pl
  have Hlen := Lib.hid hc.len
  refine callsIn_of_wp Tryz.func122 rfl hF ?_ hro
  simp only [Tryz.ntmps122, List.size_toArray, List.length_cons, List.length_nil, Nat.reduceAdd, Nat.reduceSub, Array.replicate_succ, Array.replicate_zero, List.push_toArray, List.append_toArray, List.nil_append, List.cons_append]
  gi_wp2
  gi_loopw [7] (fun i wr => ∃ k : Nat, k ≤ len ∧ i = .int .i64 k ∧ J (zs.take k) wr ∧ Below n₀ W wr)
    (fun i _ => len - (intOf i).toNat)
  case atStart => exact ⟨0, Nat.zero_le _, rfl, h0, Below.refl _ _⟩
  case round =>
    obtain ⟨k, hk, rfl, hJs, hnx⟩ := hrel
    by_cases hlt : k < len
    · have hcx := (hc.below hnx hb).cell k hlt
      have htk := take_nth zs (k := k) (by rw [Hlen.out]; exact hlt)
      have Htk := Lib.hid htk
      obtain ⟨fn, tmps, assign, body, hy, hR⟩ := hY _ (nth zs k) wr hJs (by rw [List.length_take, Hlen.out]; omega)
      rw [← htk] at hR
      clear htk
      gi_wp2
      refine hR.mono ?_
      rintro e W3 (⟨rfl, hJ3, hk3⟩ | ⟨rfl, hJx3⟩)
      · gi_wp2
        go_roundw
        case rel => exact ⟨k + 1, by omega, by simp, hJ3, hnx.trans hk3⟩
        case measure => simp [intOf]; omega
      · gi_wp2
        refine bodyPost_ret (results_none rfl _ _ _) rfl ?_
        exact ⟨⟨_, rfl⟩, .inr ⟨_, ⟨k + 1, by omega, rfl⟩, hJx3⟩⟩
    · obtain rfl : k = len := by omega
      rw [List.take_of_length_le (by rw [Hlen.out]; exact Nat.le_refl _)] at hJs
      gi_wp2
      go_end0
      exact ⟨⟨_, rfl⟩, .inl ⟨_, rfl, hJs⟩⟩

set_option maxHeartbeats 1000000 in
/-- slices.Values: the slice is boxed; the function value captures the box -/
theorem iterVals_in (F : Fence) (n : Nat) (hF : F.fn 79) (hro : F.round = none) (a : Option Addr) (len cap : Nat) (w : World) :
    CallsIn F n Tryz.prog 79 #[.slice a len cap] w fun e w' => e = .returned (.func (.func 122) #[] #[.pointer (some ⟨w.heap.size, 0, none⟩)]) ∧ w' = w.alloc (.cells #[.slice a len cap] 22) := by
  refine callsIn_of_wp Tryz.func79 rfl hF ?_ hro
  simp only [Tryz.ntmps79, List.size_toArray, List.length_cons, List.length_nil, Nat.reduceAdd, Nat.reduceSub, Array.replicate_succ, Array.replicate_zero, List.push_toArray, List.append_toArray, List.nil_append, List.cons_append]
  gi_wp2
  go_ret
  exact ⟨rfl, rfl⟩

/-- it hands back all of the slice's numbers, in their order, or a beginning of them -/
theorem iterVals_stops (F : Fence) (n : Nat) (hF : F.fn 122) (hro : F.round = none) (hn : 1 ≤ n) (Bs n₀ : Nat) (a : Option Addr) (len cap : Nat) (zs : List Int) (hreach : len * 8 ≤ 140737488351232) (w : World) (hBs : Bs < w.heap.size) (hn₀ : n₀ ≤ w.heap.size)
    (hc : w.cell? ⟨Bs, 0, none⟩ = some (.slice a len cap)) (hI : Ints w a len zs) (hb : 0 < len → ablk a < n₀) :
    SeqStopsK F n Tryz.prog 122 #[.pointer (some ⟨Bs, 0, none⟩)] (fun x : Int => #[Value.int .i64 x]) (Below n₀) (fun ys => ys = zs) (fun pre => pre <+: zs) len w := fun l J Jx W hW _ _ hY h0 => by
  have hc' := (hW.cell (p := ⟨Bs, 0, none⟩) hBs).trans hc
  refine (iterVals1_in F n hF hro hn l Bs n₀ a len cap zs hreach J Jx hY W hc' (hI.below (hW.mono hn₀) hb) hb h0).mono ?_
  rintro e W' ⟨he, ⟨ys, rfl, hj⟩ | ⟨pre, ⟨k, hk, rfl⟩, hj⟩⟩
  · exact ⟨he, .inl ⟨_, rfl, hj⟩⟩
  · exact ⟨he, .inr ⟨_, List.take_prefix _ _, hj⟩⟩

set_option maxRecDepth 100000 in
set_option maxHeartbeats 2000000 in
/-- slices.AppendSeq onto nil, over the numbers of a slice -/
theorem appendSeq_in (F : Fence) (n : Nat) (hA : F.fn 163) (hV : F.fn 122) (hro : F.round = none) (hn : 3 ≤ n) (Bs : Nat) (a : Option Addr) (len cap : Nat) (zs : List Int) (hlen : len ≤ 1000000) (w : World) (hBs : Bs < w.heap.size)
    (hc : w.cell? ⟨Bs, 0, none⟩ = some (.slice a len cap)) (hI : Ints w a len zs) :
    CallsIn F n Tryz.prog 163 #[.slice none 0 0, .func (.func 122) #[] #[.pointer (some ⟨Bs, 0, none⟩)]] w fun e W' =>
      ∃ v, e = .returned v ∧ W'.ownsRow w.heap.size 3 1 v len (zs.map (Value.int .i64)) ∧ Below w.heap.size w W' := by
  have h1 : 1 ≤ n := by omega
  have Hlen := Lib.hid hI.len
  obtain ⟨i0, hi, hz0, hz1, hz2⟩ := info_parts infoInt
  refine callsIn_of_wp_marks Tryz.func163 rfl hA ?_ hro
  simp only [Tryz.ntmps163, List.size_toArray, List.length_cons, List.length_nil, Nat.reduceAdd, Nat.reduceSub, Array.replicate_succ, Array.replicate_zero, List.push_toArray, List.append_toArray, List.nil_append, List.cons_append]
  gi_wp2
  have bO := Boxed.new w 22 (.slice none 0 0)
  have hB0 : Below w.heap.size w (w.alloc (.cells #[.slice none 0 0] 22)) := (Below.refl _ w).alloc (Nat.le_refl _) _
  refine wpIn_rangeFunc_ownG hro h1 (gf := 122) (lb := #[.pointer (some ⟨Bs, 0, none⟩)]) rfl hV (enters_of Tryz.func122 (by kernel_rfl) rfl)
    (iterVals_stops F (n - 1) hV hro (by omega) Bs w.heap.size a len cap zs (by omega) w hBs (Nat.le_refl _) hc hI (fun h => hI.lt h)) belowK_t (belowK_b (by simp)) hB0 (fun _ => rfl)
    (fun pre W => (∃ v, Boxed W w.heap.size 22 v ∧ W.ownsRow w.heap.size 3 1 v pre.length (pre.map (Value.int .i64)) ∧ True) ∧ Below w.heap.size w W)
    (fun _ _ _ => False)
    (OwnFrom.and (Own.from (holdsRow_own w.heap.size w.heap.size 22 3 1 (fun pre : List Int => pre.length) (fun pre => pre.map (Value.int .i64)) (fun _ _ => True)) _) (ownFrom_below (Nat.le_refl _) (by simp)))
    (fun _ _ _ _ _ hs _ _ => hs)
    ⟨⟨_, bO, World.ownsRow_nil _ _ _ _, trivial⟩, hB0⟩
    (fun x => { tmps := #[.slice none 0 0, .func (.func 122) #[] #[.pointer (some ⟨Bs, 0, none⟩)], .pointer (some ⟨w.heap.size, 0, none⟩), undef, .slice none 0 0, .int .i64 x, .func (.func 122) #[] #[.pointer (some ⟨Bs, 0, none⟩)], .int .i64 x, undef, undef, undef, undef, undef], defers := [] }) ?assign ?body ?done ?stop
  case assign =>
    intro l x W K hK
    gi_wp2
    exact hK
  case body =>
    rintro l pre x W ⟨⟨v, hv, hrow, _⟩, hB⟩ hlt
    have hcv := hv.cell
    gi_wp2_with (gi_at_builtin; refine wpListIn_append_own _ rfl _ _ 22 rfl w.heap.size 3 i0 (.int .i64 0) 1 8 Tryz.underlying22 hi hz0 hz1 hz2 rfl (by decide) _ _ _ rfl (hrow.alloc _) ⟨W.heap.size, 0, none⟩ 1 1 [.int .i64 x] rfl rfl (cell_one_new _ _ _) (by simp [Value.oneCell']) (by unfold maxLen; omega) (by omega) (by have := hB.size; simp; omega) ?_; intro v' w1 hown' hgrow _; obtain ⟨g', cap', rfl⟩ := ownsRow_succ hown'; obtain ⟨hv1, hv2, hr2, hk2, hb2⟩ := hv.appended (by decide) hrow hB.size (Nat.le_refl _) hown' hgrow; have hc1 := hv1.cell; have hf1 := hv1.frozen)
    exact ⟨hk2.from _, hb2, ⟨_, hv2, by simpa using hr2, trivial⟩, hB.trans hb2⟩
  case done =>
    rintro D ys W hD rfl ⟨⟨v, hv, hrow, _⟩, hB⟩ hK
    have hcv := hv.cell
    gi_wp2
    refine ⟨by simp, .inl ⟨_, _, rfl, run_takeDeferred hK, ?_⟩⟩
    exact ⟨_, results_tmp rfl _ _ _, v, rfl, by have := ownsRow_putObj hrow (.deferred none) hK rfl; rw [Hlen.out] at this; exact this, hB.trans (belowK_b (w := w) (Nat.le_refl _) W D _ _ (by simp at hD; omega) hK rfl rfl)⟩
  case stop =>
    rintro D c pre W _ _ h _
    exact h.elim

set_option maxRecDepth 100000 in
set_option maxHeartbeats 2000000 in
/-- slices.Collect over the numbers of a slice -/
theorem collect_in (F : Fence) (n : Nat) (hC : F.fn 121) (hA : F.fn 163) (hV : F.fn 122) (hro : F.round = none) (hn : 4 ≤ n) (Bs : Nat) (a : Option Addr) (len cap : Nat) (zs : List Int) (hlen : len ≤ 1000000) (w : World) (hBs : Bs < w.heap.size)
    (hc : w.cell? ⟨Bs, 0, none⟩ = some (.slice a len cap)) (hI : Ints w a len zs) :
    CallsIn F n Tryz.prog 121 #[.func (.func 122) #[] #[.pointer (some ⟨Bs, 0, none⟩)]] w fun e W' =>
      ∃ v, e = .returned v ∧ W'.ownsRow w.heap.size 3 1 v len (zs.map (Value.int .i64)) ∧ Below w.heap.size w W' := by
  refine callsIn_of_wp Tryz.func121 rfl hC ?_ hro
  simp only [Tryz.ntmps121, List.size_toArray, List.length_cons, List.length_nil, Nat.reduceAdd, Nat.reduceSub, Array.replicate_succ, Array.replicate_zero, List.push_toArray, List.append_toArray, List.nil_append, List.cons_append]
  gi_wp2
  refine ⟨fun _ => by omega, ?_⟩
  refine (appendSeq_in F (n - 1) hA hV hro (by omega) Bs a len cap zs hlen _ hBs hc hI).mono ?_
  rintro e W' ⟨v, rfl, hown, hb⟩
  gi_wp2
  go_ret
  exact ⟨v, rfl, hown, hb⟩

theorem values_any (a : Option Addr) (len cap : Nat) (w : World) :
    Calls Tryz.prog 79 #[.slice a len cap] w fun e w' => e = .returned (.func (.func 122) #[] #[.pointer (some ⟨w.heap.size, 0, none⟩)]) ∧ w' = w.alloc (.cells #[.slice a len cap] 22) :=
  callsIn_wide.1 (iterVals_in Fence.wide 8 trivial rfl a len cap w)
theorem collect_any (Bs : Nat) (a : Option Addr) (len cap : Nat) (zs : List Int) (hlen : len ≤ 1000000) (w : World) (hBs : Bs < w.heap.size) (hc : w.cell? ⟨Bs, 0, none⟩ = some (.slice a len cap)) (hI : Ints w a len zs) :
    Calls Tryz.prog 121 #[.func (.func 122) #[] #[.pointer (some ⟨Bs, 0, none⟩)]] w fun e W' =>
      ∃ v, e = .returned v ∧ W'.ownsRow w.heap.size 3 1 v len (zs.map (Value.int .i64)) ∧ Below w.heap.size w W' :=
  callsIn_wide.1 (collect_in Fence.wide 8 trivial trivial trivial rfl (by omega) Bs a len cap zs hlen w hBs hc hI)
end

/- The walks of slices.Sort, Sorted at []int. -/
section
open Go.RowKit Go.Shelf Go.Sort

set_option maxHeartbeats 1000000 in
theorem insSort0_any (a : Option Addr) (c : Nat) (w : World) : Calls Tryz.prog 164 #[.slice a 0 c, .int .i64 0, .int .i64 0] w fun e w' => e = .returned (.tuple #[]) ∧ w' = w := by
  go_enter Tryz.func164, Tryz.ntmps164
  go_wp2_with fail
  refine wp_loop_rounds 1 ?_
  rw [rounds_succ]
  go_wp2_with fail
  go_end0
  exact ⟨rfl, rfl⟩

set_option maxHeartbeats 2000000 in
set_option maxRecDepth 100000 in
theorem pdq0_any (a : Option Addr) (c : Nat) (w : World) : Calls Tryz.prog 123 #[.slice a 0 c, .int .i64 0, .int .i64 0, .int .i64 0] w fun e w' => e = .returned (.tuple #[]) ∧ w' = w := by
  go_enter Tryz.func123, Tryz.ntmps123
  go_wp2_with fail
  refine wp_loop_rounds 1 ?_
  rw [rounds_succ]
  go_wp2_with fail
  refine (insSort0_any a c w).mono ?_
  rintro e w' ⟨rfl, rfl⟩
  go_wp2_with fail
  (try simp only [Exit.inBlock, Exit.then]); refine bodyPost_ret (results_none rfl _ _ _) rfl ?_
  exact ⟨rfl, rfl⟩

theorem bitsLen0_any (w : World) : Calls Tryz.prog 124 #[.int .u64 0] w fun e w' => e = .returned (.int .i64 0) ∧ w' = w :=
  calls_of_every_depth fun D => AnyS.bits_LenIn { layS with } D 0 w (by omega) (by omega)

set_option maxHeartbeats 2000000 in
theorem sort0_any (a : Option Addr) (c : Nat) (w : World) : Calls Tryz.prog 80 #[.slice a 0 c] w fun e w' => e = .returned (.tuple #[]) ∧ w' = w := by
  go_enter Tryz.func80, Tryz.ntmps80
  go_wp2_with fail
  refine (bitsLen0_any w).mono ?_
  rintro e w' ⟨rfl, rfl⟩
  go_wp2_with fail
  refine (pdq0_any a c w').mono ?_
  rintro e w' ⟨rfl, rfl⟩
  go_wp2_with fail
  go_end0
  exact ⟨rfl, rfl⟩

/-- slices.Sort of a slice of the call's own -/
theorem sort_any (B : Nat) (a : Option Addr) (n c : Nat) (l : List Int) (w : World) (hown : w.ownsRow B 3 1 (.slice a n c) n (l.map (Value.int .i64))) (hB : B ≤ w.heap.size) (hn : n ≤ 1000000) :
    Calls Tryz.prog 80 #[.slice a n c] w fun e w' => e = .returned (.tuple #[]) ∧ w'.ownsRow B 3 1 (.slice a n c) n ((sortL l).map (Value.int .i64)) ∧ w.grownBy w' (Value.slice a n c).ownBlock ∧ Below B w w' := by
  have hl : l.length = n := by simpa using own_len hown
  have hown' := hown
  rcases hown.2 with ⟨hv, hz⟩ | ⟨g, cap, cur, hv, hbase, hb, h1, h2, h3, h4⟩
  · cases hv
    have hl0 : l = [] := List.eq_nil_of_length_eq_zero hl
    subst hl0
    refine (sort0_any none 0 w).mono ?_
    rintro e w' ⟨rfl, rfl⟩
    exact ⟨rfl, by simpa [sortL] using hown', ⟨rfl, rfl, rfl, Nat.le_refl _, fun k _ _ => rfl⟩, Below.refl _ _⟩
  · cases hv
    subst hl
    have hH := holds_of_blockI (ss := l) hb (by simpa using h4)
    have hgl : g < w.heap.size := (Array.getElem?_eq_some_iff.1 hb).1
    refine (Any.slices_Sort_int layS g 0 c l w hH hgl (by omega)).mono ?_
    rintro e w' ⟨rfl, nn, os, rfl⟩
    have hgr := grownBy_sortedI (w := w) (g := g) (n := nn) (os := os) (l.mergeSort fun x y => decide (x ≤ y)).toArray
    exact ⟨rfl, ownsRow_sortedI (by simp) hbase hb h1 h2 h3, hgr, (Below.refl B w).grown hgr hB (fun j hj => by cases hj; exact hbase)⟩

set_option maxHeartbeats 2000000 in
set_option maxRecDepth 100000 in
/-- slices.Sorted over the numbers of a slice -/
theorem sorted_any (Bs : Nat) (a : Option Addr) (len cap : Nat) (zs : List Int) (hlen : len ≤ 1000000) (w : World) (hBs : Bs < w.heap.size) (hc : w.cell? ⟨Bs, 0, none⟩ = some (.slice a len cap)) (hI : Ints w a len zs) :
    Calls Tryz.prog 78 #[.func (.func 122) #[] #[.pointer (some ⟨Bs, 0, none⟩)]] w fun e W' =>
      ∃ a2 c2, e = .returned (.slice a2 len c2) ∧ W'.ownsRow w.heap.size 3 1 (.slice a2 len c2) len ((sortL zs).map (Value.int .i64)) ∧ Below w.heap.size w W' := by
  go_enter Tryz.func78, Tryz.ntmps78
  go_wp2_with fail
  refine (collect_any Bs a len cap zs hlen w hBs hc hI).mono ?_
  rintro e w1 ⟨v, rfl, hown, hb⟩
  obtain ⟨a2, c2, rfl, _⟩ := Pl.own hown
  have HS := Lib.hid (sort_any w.heap.size a2 len c2 zs w1 hown hb.size hlen)
  clear hown
  go_wp2_with fail
  refine HS.out.mono ?_
  rintro e w2 ⟨rfl, hown2, _, hb2⟩
  go_wp2_with fail
  go_ret
  exact ⟨a2, c2, rfl, hown2, hb.trans hb2⟩
end

end Go.Proofs.YtakmnncmeefceaaGreat
