/- InfosetMatroid: the statement. -/
import Derived.Test.YtakmnncmeefceaaGreatH4
import Derived.Test.YtakmnncmeefceaaGreatG11
import Derived.Test.YtakmnncmeefceaaGreatG20
import Derived.Test.YtakmnncmeefceaaGreatG27
import Derived.Test.YtakmnncmeefceaaGreatG30
import Derived.Test.YtakmnncmeefceaaGreatG29
import Derived.Test.YtakmnncmeefceaaGreatRows
namespace Go.Proofs.YtakmnncmeefceaaGreat
set_option linter.unusedVariables false
set_option linter.unusedSimpArgs false
set_option linter.unusedSectionVars false

/- Information sets are bases (plain laws): greedy sets are information sets, and exchanges exist. -/
section
section
variable {O : FOps} {El : Int → Prop} {m : Nat} {L : List (List Int)}
theorem rkQ_out (F : Fld O El) (hL : Rws El m L) {Q : List Int} {x : Int} (h : ¬ clV O El L.length (colS L) (gA Q) x.toNat) : rkQ O L (Q ++ [x]) = rkQ O L Q + 1 := by
  have h1 := rkQ_rk F hL (Q ++ [x])
  rw [gA_snoc] at h1
  exact h1.uniq (Rk.ind _ h (rkQ_rk F hL Q))
theorem rkQ_step (F : Fld O El) (hL : Rws El m L) (Q : List Int) (x : Int) : rkQ O L (Q ++ [x]) ≤ rkQ O L Q + 1 := by
  have h1 := rkQ_rk F hL (Q ++ [x])
  rw [gA_snoc] at h1
  exact (rk_step (rkQ_rk F hL Q) h1).1
theorem isB_iff {Q : List Int} : isB O L Q = true ↔ Q.length = L.length ∧ rkQ O L Q = Q.length := by
  unfold isB rkQ
  simp
theorem exch_ex (F : Fld O El) (hL : Rws El m L) {A B : List Int} {t : Nat} {i : Int} (hA : isB O L A = true) (hB : isB O L B = true) (hnA : A.Nodup) (ht : t < A.length) (hi : nth A t = i) (hiB : ¬ i ∈ B) : ∃ j ∈ B, exP O L A t j = true := by
  refine Classical.byContradiction fun hno => ?_
  have hno' : ∀ j ∈ B, exP O L A t j = false := fun j hj => by
    by_cases h : exP O L A t j = true
    · exact absurd ⟨j, hj, h⟩ hno
    · simpa using h
  obtain ⟨A', hA'⟩ : ∃ A', A.filter (fun x => decide (x ≠ i)) = A' := ⟨_, rfl⟩
  have hp : ∀ j, (A' ++ [j]).Perm (A.set t j) := fun j => by rw [← hA']; exact filt_perm hnA ht hi j
  have hset : A.set t i = A := by rw [← hi, nth_getElem ht]; exact List.set_getElem_self ht
  have hpA := hp i
  rw [hset] at hpA
  obtain ⟨ha1, ha2⟩ := isB_iff.1 hA
  obtain ⟨hb1, hb2⟩ := isB_iff.1 hB
  have hl : A'.length + 1 = L.length := by
    have := hpA.length_eq
    rw [List.length_append] at this
    simp at this; omega
  have hr1 := rkQ_step F hL A' i
  rw [rkQ_perm F hL hpA] at hr1
  have hr2 : rkQ O L A' ≤ A'.length := grS_len _ _ _
  have hcl : ∀ j ∈ B, clV O El L.length (colS L) (gA A') j.toNat := fun j hj => by
    by_cases hjA : j ∈ A
    · refine (col_clo F hL).mem _ _ (mem_gA.2 ⟨j, ?_, rfl⟩)
      rw [← hA', List.mem_filter]
      exact ⟨hjA, by simpa using fun e : j = i => hiB (e ▸ hj)⟩
    · refine Classical.byContradiction fun hc => ?_
      have h1 := hno' j hj
      unfold exP at h1
      simp only [hjA, not_false_eq_true, decide_true, Bool.true_and] at h1
      rw [← isB_perm F hL (hp j)] at h1
      have h2 := rkQ_out F hL hc
      have h3 : isB O L (A' ++ [j]) = true := isB_iff.2 ⟨by rw [List.length_append]; simp; omega, by rw [h2, List.length_append]; simp; omega⟩
      rw [h1] at h3; exact absurd h3 (by decide)
  have h4 := rkQ_span F hL (Q := B) (Q' := A') fun x hx => by
    obtain ⟨y, hy, rfl⟩ := mem_gA.1 hx
    exact hcl y hy
  omega
/-- the greedy choice over all positions -/
theorem gr_basis (F : Fld O El) (hL : Rws El m L) (hfull : Rk (clV O El L.length (colS L)) (List.range m) L.length) {Q : List Int} (hQ : InN m Q) (hall : ∀ x, x < m → (x : Int) ∈ Q) : isB O L (grS O L Q) = true := by
  have h1 : (grS O L Q).length = L.length := by
    refine (rkQ_rk F hL Q).same (col_clo F hL) hfull fun x => ?_
    rw [mem_gA, List.mem_range]
    constructor
    · rintro ⟨y, hy, rfl⟩
      obtain ⟨j, hj, rfl⟩ := List.mem_iff_getElem.1 hy
      have := hQ j hj
      rw [nth_getElem hj] at this
      omega
    · intro hx
      exact ⟨x, hall x hx, by simp⟩
  have h2 := (gr_out F hL Q Q.length).1
  exact isB_iff.2 ⟨h1, (rkQ_rk F hL (grS O L Q)).uniq h2⟩
end
/-- a code's rows are independent -/
theorem code_full {P M : Int} {mod : List Int} {m : Nat} {L : List (List Int)} (hE : codeE P M mod m L = 0) : Rk (clV (tblOf P M.toNat mod).ops (tblOf P M.toNat mod).El L.length (colS L)) (List.range m) L.length := by
  obtain ⟨N', e, hm1, hm64, F, hR⟩ := codeE_fld hE
  obtain rfl : m = N' := by omega
  have h6 := (spaceE_zero (codeE_zero hE).2.2.2).2
  rw [Int.toNat_natCast] at h6
  have hcan : canO (tblOf P M.toNat mod).ops m L = L := h6
  have h := canO_rk F hR
  rwa [hcan] at h
theorem grS_nodup {O : FOps} {L : List (List Int)} {Q : List Int} (h : Q.Nodup) : (grS O L Q).Nodup := by
  have key : ∀ k, k ≤ Q.length → (grTo O L Q k).2.Nodup ∧ ∀ x ∈ (grTo O L Q k).2, x ∈ Q.take k := fun k => by
    induction k with
    | zero => intro _; exact ⟨by simp [grTo], fun x hx => by simp [grTo] at hx⟩
    | succ k ih =>
      intro hk
      obtain ⟨h1, h2⟩ := ih (by omega)
      have e : Q.take (k + 1) = Q.take k ++ [nth Q k] := by rw [List.take_succ_eq_append_getElem (by omega), nth_getElem (by omega)]
      rw [grTo]
      split
      · have hn : ¬ nth Q k ∈ Q.take k := by
          have h3 : (Q.take (k + 1)).Nodup := (List.take_sublist _ _).nodup h
          rw [e, List.nodup_append] at h3
          intro hm
          exact h3.2.2 _ hm _ (by simp) rfl
        refine ⟨?_, fun x hx => ?_⟩
        · rw [List.nodup_append]
          exact ⟨h1, by simp, fun x hx y hy => by rw [List.mem_singleton] at hy; subst hy; exact fun e => hn (e ▸ h2 _ hx)⟩
        · rw [e, List.mem_append]
          rcases List.mem_append.1 hx with hx | hx
          · exact .inl (h2 x hx)
          · exact .inr hx
      · exact ⟨h1, fun x hx => by rw [e, List.mem_append]; exact .inl (h2 x hx)⟩
  exact (key _ (Nat.le_refl _)).1
/-- all positions, in some order -/
def PermN (m : Nat) (Q : List Int) : Prop := Q.Perm ((List.range m).map Int.ofNat)
theorem PermN.mem {m : Nat} {Q : List Int} (h : PermN m Q) {x : Int} : x ∈ Q ↔ ∃ j : Nat, j < m ∧ x = j := by
  rw [h.mem_iff, List.mem_map]
  constructor
  · rintro ⟨j, hj, rfl⟩; exact ⟨j, List.mem_range.1 hj, rfl⟩
  · rintro ⟨j, hj, rfl⟩; exact ⟨j, List.mem_range.2 hj, rfl⟩
theorem PermN.len {m : Nat} {Q : List Int} (h : PermN m Q) : Q.length = m := by rw [h.length_eq]; simp
theorem PermN.nodup {m : Nat} {Q : List Int} (h : PermN m Q) : Q.Nodup := by
  refine h.nodup_iff.2 ?_
  rw [List.nodup_iff_pairwise_ne, List.pairwise_map]
  exact List.nodup_range.imp fun h e => h (Int.ofNat.inj e)
theorem PermN.inN {m : Nat} {Q : List Int} (h : PermN m Q) : InN m Q := fun j hj => by
  obtain ⟨i, hi, e⟩ := h.mem.1 (nth_mem hj)
  omega
section
variable {P M : Int} {mod : List Int} {m : Nat} {L : List (List Int)}
theorem perm_greE (hE : codeE P M mod m L = 0) {Q : List Int} (hQ : PermN m Q) : greE P M mod m L Q = 0 := by
  have h : okSet m (sortL Q) = true := okSet_sort hQ.nodup fun x hx => by
    obtain ⟨j, hj, rfl⟩ := hQ.mem.1 hx
    omega
  rw [greE, rankE, if_pos hE, setsE_one, if_pos h]
/-- what the greedy choice over all positions is -/
theorem perm_set (hE : codeE P M mod m L = 0) {Q : List Int} (hQ : PermN m Q) :
    okSet m (sortL (grS (tblOf P M.toNat mod).ops L Q)) = true ∧ isB (tblOf P M.toNat mod).ops L (sortL (grS (tblOf P M.toNat mod).ops L Q)) = true := by
  obtain ⟨N', e, hm1, hm64, F, hR⟩ := codeE_fld hE
  obtain rfl : m = N' := by omega
  refine ⟨okSet_sort (grS_nodup hQ.nodup) fun x hx => ?_, ?_⟩
  · obtain ⟨j, hj, rfl⟩ := hQ.mem.1 (grTo_sub _ L Q _ (Nat.le_refl _) x hx)
    omega
  · rw [isB_perm F hR (sortL_perm _)]
    exact gr_basis F hR (code_full hE) hQ.inN fun x hx => hQ.mem.2 ⟨x, hx, rfl⟩
theorem set_rankE (hE : codeE P M mod m L = 0) {Q : List Int} (hQ : okSet m Q = true) : rankE P M mod m L Q = 0 := by rw [rankE, if_pos hE, setsE_one, if_pos hQ]
theorem set_isV (hE : codeE P M mod m L = 0) {Q : List Int} (hQ : okSet m Q = true) : isV P M mod m L Q = isB (tblOf P M.toNat mod).ops L Q := by
  unfold isV isB
  rw [set_rankE hE hQ]
  by_cases h1 : (grS (tblOf P M.toNat mod).ops L Q).length = Q.length
  · rw [h1]; simp
  · simp [h1]
/-- the exchange -/
theorem exV_ok (hE : codeE P M mod m L = 0) {A B : List Int} (hA : okSet m A = true) (hB : okSet m B = true) (bA : isB (tblOf P M.toNat mod).ops L A = true) (bB : isB (tblOf P M.toNat mod).ops L B = true) {i : Int} (hi : i ∈ A) (hiB : ¬ i ∈ B) :
    ∃ j, exV P M mod m L A B i = (j, 0) ∧ ¬ j ∈ A ∧ j ∈ B ∧ okSet m (sortL (A.filter (fun x => decide (x ≠ i)) ++ [j])) = true ∧ isB (tblOf P M.toNat mod).ops L (sortL (A.filter (fun x => decide (x ≠ i)) ++ [j])) = true := by
  obtain ⟨N', e, hm1, hm64, F, hR⟩ := codeE_fld hE
  obtain rfl : m = N' := by omega
  obtain ⟨t, hix, htl, hti⟩ := ix_in hi
  have htx : (A.findIdx fun x => x == i) = t := by rw [ixV, if_pos hi] at hix; omega
  have hn := okSet_nodup hA
  obtain ⟨j0, hj0, he0⟩ := exch_ex F hR bA bB hn htl hti hiB
  obtain ⟨j, hj⟩ : ∃ j, B.find? (exP (tblOf P M.toNat mod).ops L A t) = some j := by
    cases h : B.find? (exP (tblOf P M.toNat mod).ops L A t) with
    | some j => exact ⟨j, rfl⟩
    | none =>
      rw [List.find?_eq_none] at h
      exact absurd he0 (h j0 hj0)
  have hjp := List.find?_some hj
  have hjB := List.mem_of_find?_eq_some hj
  rw [exP_filt F hR hn htl hti] at hjp
  simp only [Bool.and_eq_true, decide_eq_true_eq] at hjp
  have hs : setsE (m : Int) [A, B] = 0 := by simp [setsE, hA, hB]
  have hk : rk2E P M mod m L A B = 0 := by rw [rk2E, if_pos hE, hs]
  refine ⟨j, ?_, hjp.1, hjB, okSet_sort ?_ fun x hx => ?_, hjp.2⟩
  · rw [exV, hk, bA, bB, htx, hj, if_neg (by decide), if_neg (by decide), if_neg (by simpa using hi)]
  · rw [List.nodup_append]
    refine ⟨(List.filter_sublist).nodup hn, by simp, fun x hx y hy => ?_⟩
    rw [List.mem_singleton] at hy; subst hy
    intro e; subst e
    exact hjp.1 ((List.mem_filter.1 hx).1)
  · rcases List.mem_append.1 hx with hx | hx
    · have hx := (List.mem_filter.1 hx).1
      obtain ⟨k, hk, rfl⟩ := List.mem_iff_getElem.1 hx
      have := okSet_at hA hk
      rw [nth_getElem hk] at this
      exact ⟨this.1, this.2.1⟩
    · rw [List.mem_singleton] at hx; subst hx
      obtain ⟨k, hk, e⟩ := List.mem_iff_getElem.1 hjB
      have := okSet_at hB hk
      rw [nth_getElem hk, e] at this
      exact ⟨this.1, this.2.1⟩
end
end

/- Lists of bytes; the walks of codewrightlaw25: member, perm. -/
section
open Go.RowKit

/-- a slice of bytes -/
structure U8s (w : World) (a : Option Addr) (n : Nat) (l : List Int) : Prop where
  len : l.length = n
  pl : Pl a n
  max : n ≤ maxLen
  cell : ∀ i, i < n → w.cell? ⟨ablk a, aoff a + i, none⟩ = some (.int .u8 (nth l i))
  bd : ∀ i, i < n → 0 ≤ nth l i ∧ nth l i ≤ 255
theorem U8s.keep {w w' : World} {a : Option Addr} {n : Nat} {l : List Int} (h : U8s w a n l) (hb : Below w.heap.size w w') : U8s w' a n l :=
  ⟨h.len, h.pl, h.max, fun i hi => (hb.cell (World.block_lt_of_cell? w _ (h.cell i hi))).trans (h.cell i hi), h.bd⟩

set_option maxRecDepth 100000 in
set_option maxHeartbeats 1600000 in
theorem member25_any (a : Option Addr) (n c : Nat) (l : List Int) (v : Int) (w : World) (h : Ints w a n l) :
    Calls Tryz.prog 37 #[.slice a n c, .int .i64 v] w fun e w' => e = .returned (.bool (decide (v ∈ l))) ∧ w' = w := by
  have Hl := Lib.hid h.len
  have hpl := h.pl
  have hmax := h.max
  unfold maxLen at hmax
  go_enter Tryz.func37, Tryz.ntmps37
  go_wp2_with fail
  go_loopw [9] (fun iv wr => ∃ k : Nat, k ≤ n ∧ iv = .int .i64 k ∧ Hid (inTo l v k = false) ∧ wr = w) (fun i _ => n - (intOf i).toNat)
  case atStart => exact ⟨0, Nat.zero_le _, rfl, by show _ = _; simp [inTo], rfl⟩
  case round =>
    obtain ⟨k, hk, rfl, hno, rfl⟩ := hrel
    by_cases hlt : k < n
    · have c1 := h.cell k hlt
      have Hs := Lib.hid (inTo_succ (l := l) v (show k < l.length by rw [Hl.out]; exact hlt))
      by_cases he : nth l k = v
      · have he' : (nth l k == v) = true := by rw [he]; simp
        have Hm : Hid (decide (v ∈ l) = true) := by show _ = _; rw [← he]; simpa using nth_mem (show k < l.length by rw [Hl.out]; exact hlt)
        clear he
        go_wp2_with fail
        go_ret
        exact ⟨ret_bool Hm.out.symm, rfl⟩
      · have he' : (nth l k == v) = false := by simpa using he
        have Hn2 : Hid (inTo l v (k + 1) = false) := by show _ = _; rw [Hs.out, hno.out, decide_eq_false he]; rfl
        clear he
        go_wp2_with fail
        go_roundw
        case rel => exact ⟨k + 1, by omega, by go_num, Hn2.out, by simp⟩
        case measure => simp [intOf] <;> omega
    · obtain rfl : k = n := by omega
      have Hm : Hid (decide (v ∈ l) = false) := by show _ = _; rw [← inTo_all v Hl.out]; exact hno.out
      go_wp2_with fail
      go_ret
      exact ⟨ret_bool Hm.out.symm, rfl⟩

theorem swap_perm (Q : List Int) {i j : Nat} (hi : i < Q.length) (hj : j < Q.length) : ((Q.set i (nth Q j)).set j (nth Q i)).Perm Q := by
  rw [List.perm_iff_count]
  intro x
  rw [List.count_set (by simpa using hj), List.count_set hi, List.getElem_set, nth_getElem hi, nth_getElem hj]
  have h1 : Q[i] = x → 0 < Q.count x := fun e => List.count_pos_iff.2 (e ▸ List.getElem_mem hi)
  by_cases e : i = j
  · subst e
    by_cases a : Q[i] = x
    · have := h1 a; simp [a]; omega
    · simp [a]
  · by_cases a : Q[i] = x
    · have := h1 a
      by_cases b : Q[j] = x <;> simp [a, b, e] <;> omega
    · by_cases b : Q[j] = x <;> simp [a, b, e]
def idsTo (m : Nat) : List Int := (List.range m).map Int.ofNat
theorem idsTo_succ (m : Nat) : idsTo (m + 1) = idsTo m ++ [(m : Int)] := by unfold idsTo; rw [List.range_succ, List.map_append]; rfl
theorem idsTo_len (m : Nat) : (idsTo m).length = m := by simp [idsTo]

set_option maxRecDepth 100000 in
set_option maxHeartbeats 3200000 in
theorem perm25_any (a : Option Addr) (n c : Nat) (l : List Int) (m : Nat) (w : World) (h : U8s w a n l) (hm : m ≤ 1000) :
    Calls Tryz.prog 36 #[.slice a n c, .int .i64 m] w fun e w' => Below w.heap.size w w' ∧ ∃ a1 c1 Q, e = .returned (.slice a1 m c1) ∧ Ints w' a1 m Q ∧ PermN m Q := by
  have hpl := h.pl
  have hmax := h.max
  unfold maxLen at hmax
  go_enter Tryz.func36, Tryz.ntmps36
  go_wp2_with fail
  go_loopw [5, 10] (fun ov iv wr => ∃ (k : Nat) (a1 : Option Addr) (c1 : Nat), k ≤ m ∧ iv = .int .i64 k ∧ ov = .slice a1 k c1 ∧ wr.ownsRow w.heap.size 3 1 (.slice a1 k c1) k ((idsTo k).map (Value.int .i64)) ∧ Below w.heap.size w wr) (fun _ iv _ => m - (intOf iv).toNat)
  case atStart => exact ⟨0, none, 0, Nat.zero_le _, rfl, rfl, own_none, Below.refl _ _⟩
  case round =>
    obtain ⟨k, a1, c1, hk, rfl, rfl, hown, hbr⟩ := hrel
    by_cases hlt : k < m
    · have Hs := Lib.hid (idsTo_succ k)
      have hsz := hbr.size
      have hcn := cell_new wr (.int .i64 k) 3
      go_wp2_with (at_builtin; refine wpList_push rfl _ _ 22 3 rfl (.int .i64 0) 8 Tryz.underlying22 infoInt rfl w.heap.size a1 k c1 _ rfl (hown.alloc _) ⟨wr.heap.size, 0, none⟩ 1 (.int .i64 k) rfl hcn rfl (by omega) (by unfold maxLen; omega) (by simp; omega) ?_; intro a5 c5 w5 hown5 hgr5 hap5)
      go_roundw
      case rel => exact ⟨k + 1, a5, c5, by omega, by go_num, rfl, by rw [Hs.out]; simpa using hown5, Below.app (Below.allocN hbr _) (hown.alloc _) hgr5 (Nat.le_refl _) (Below.allocN hbr _).size⟩
      case measure => simp [intOf] <;> omega
    · obtain rfl : k = m := by omega
      generalize wr = X at *
      go_wp2_with fail
      go_loopw [20] (fun iv wr => ∃ (i : Nat) (Q : List Int), i ≤ k ∧ iv = .int .i64 i ∧ Hid (PermN k Q) ∧ wr.ownsRow w.heap.size 3 1 (.slice a1 k c1) k (Q.map (Value.int .i64)) ∧ Below w.heap.size w wr) (fun iv _ => k - (intOf iv).toNat)
      case atStart => exact ⟨0, idsTo k, Nat.zero_le _, rfl, List.Perm.refl _, hown, hbr⟩
      case round =>
        clear hown hbr
        obtain ⟨i, Q, hi, rfl, hQ, hown, hbr⟩ := hrel
        by_cases hlt2 : i < k
        · obtain ⟨hints, hmine⟩ := Ints.own hown
          have hpl1 := hints.pl
          have HQl := Lib.hid hints.len
          have hj : ∃ j : Nat, j < k ∧ ∀ (hn : i < n), (i : Int) + nth l i % ((k : Int) - i) = j := by
            by_cases hn : i < n
            · have hb := h.bd i hn
              have h1 := Int.emod_nonneg (nth l i) (show ((k : Int) - i) ≠ 0 by omega)
              have h2 := Int.emod_lt_of_pos (nth l i) (show 0 < ((k : Int) - i) by omega)
              exact ⟨((i : Int) + nth l i % ((k : Int) - i)).toNat, by omega, fun _ => by omega⟩
            · exact ⟨i, hlt2, fun hn' => absurd hn' hn⟩
          obtain ⟨j, hjk, hje⟩ := hj
          have key : ∀ j : Nat, j < k → ∃ V : World, V = (wr.setCell ⟨ablk a1, aoff a1 + i, none⟩ (.int .i64 (nth Q j))).setCell ⟨ablk a1, aoff a1 + j, none⟩ (.int .i64 (nth Q i)) ∧ V.ownsRow w.heap.size 3 1 (.slice a1 k c1) k (((Q.set i (nth Q j)).set j (nth Q i)).map (Value.int .i64)) ∧ Below w.heap.size w V := fun j hj => by
            have o1 := own_set (own_set hown i hlt2 (.int .i64 (nth Q j))) j hj (.int .i64 (nth Q i))
            rw [← List.map_set, ← List.map_set] at o1
            have hB := (hmine (by omega)).1
            exact ⟨_, rfl, o1, (hbr.setCell (p := ⟨ablk a1, aoff a1 + i, none⟩) hB (.int .i64 (nth Q j))).setCell (p := ⟨ablk a1, aoff a1 + j, none⟩) hB (.int .i64 (nth Q i))⟩
          have Hkey := Lib.hid key
          have ci := hints.cell i hlt2
          have fi := (hmine (by omega)).2 i hlt2
          have Hown := Lib.hid (And.intro hown hbr)
          have hl2 : (i : Int) < k := by omega
          by_cases hn : i < n
          · have cl := (h.keep hbr).cell i hn
            have hb := h.bd i hn
            have hje := hje hn
            have cj := hints.cell j hjk
            have fj := (hmine (by omega)).2 j hjk
            have hjk2 : (j : Int) < k := by omega
            have kw1 : IntKind.i64.wrap ((k : Int) - i) = (k : Int) - i := IntWalk.i64_in _ (by omega)
            have kw2 : IntKind.i64.wrap (nth l i) = nth l i := IntWalk.i64_in _ (by omega)
            have kr : (nth l i).tmod ((k : Int) - i) = nth l i % ((k : Int) - i) := IntWalk.rem_in _ _ (by omega)
            have hk0 : ((k : Int) - i) ≠ 0 := by omega
            have hk0' : (((k : Int) - i) == 0) = false := by simp; omega
            obtain ⟨r, hr⟩ : ∃ r, nth l i % ((k : Int) - i) = r := ⟨_, rfl⟩
            rw [hr] at kr hje
            have kw3 : IntKind.i64.wrap r = r := IntWalk.i64_in _ (by omega)
            have kw4 : IntKind.i64.wrap ((i : Int) + r) = j := by rw [hje]; exact IntWalk.i64_in _ (by omega)
            have Hje := Lib.hid hje
            by_cases hij : j = i
            · subst hij
              obtain ⟨V, hV, oV, bV⟩ := Hkey.out j hjk
              have HV := Lib.hid hV
              have HoV := Lib.hid (And.intro oV bV)
              have k3 := World.cell?_setCell_same wr _ (.int .i64 (nth Q j)) ci
              have hP : Hid (PermN k ((Q.set j (nth Q j)).set j (nth Q j))) := (swap_perm Q (by rw [HQl.out]; exact hjk) (by rw [HQl.out]; exact hjk)).trans hQ.out
              clear hV oV bV hints hmine key Hkey hje hr
              go_wp2_with fail
              go_region
              go_wp2_with fail
              go_roundw
              case rel => exact ⟨j + 1, _, by omega, by go_num, hP.out, by rw [← HV.out]; exact own_keep HoV.out.1 (Below.refl _ _).drew, by rw [← HV.out]; exact Below.next HoV.out.2 (Below.refl _ _).drew⟩
              case measure => simp [intOf] <;> omega
            · obtain ⟨V, hV, oV, bV⟩ := Hkey.out j hjk
              have HV := Lib.hid hV
              have HoV := Lib.hid (And.intro oV bV)
              have k3 : (wr.setCell ⟨ablk a1, aoff a1 + i, none⟩ (.int .i64 (nth Q j))).cell? ⟨ablk a1, aoff a1 + j, none⟩ = some (.int .i64 (nth Q j)) := by
                rw [World.cell?_setCell_other _ _ _ _ (by simp <;> omega)]; exact cj
              have hP : Hid (PermN k ((Q.set i (nth Q j)).set j (nth Q i))) := (swap_perm Q (by rw [HQl.out]; exact hlt2) (by rw [HQl.out]; exact hjk)).trans hQ.out
              clear hV oV bV hints hmine key Hkey hje hr
              go_wp2_with fail
              go_region
              go_wp2_with fail
              go_roundw
              case rel => exact ⟨i + 1, _, by omega, by go_num, hP.out, by rw [← HV.out]; exact own_keep HoV.out.1 (Below.refl _ _).drew, by rw [← HV.out]; exact Below.next HoV.out.2 (Below.refl _ _).drew⟩
              case measure => simp [intOf] <;> omega
          · obtain ⟨V, hV, oV, bV⟩ := Hkey.out i hlt2
            have HV := Lib.hid hV
            have HoV := Lib.hid (And.intro oV bV)
            have k3 := World.cell?_setCell_same wr _ (.int .i64 (nth Q i)) ci
            have hP : Hid (PermN k ((Q.set i (nth Q i)).set i (nth Q i))) := (swap_perm Q (by rw [HQl.out]; exact hlt2) (by rw [HQl.out]; exact hlt2)).trans hQ.out
            clear hV oV bV hints hmine key Hkey hje
            go_wp2_with fail
            go_region
            go_wp2_with fail
            go_roundw
            case rel => exact ⟨i + 1, _, by omega, by go_num, hP.out, by rw [← HV.out]; exact own_keep HoV.out.1 (Below.refl _ _).drew, by rw [← HV.out]; exact Below.next HoV.out.2 (Below.refl _ _).drew⟩
            case measure => simp [intOf] <;> omega
        · obtain rfl : i = k := by omega
          have hF := Lib.hid (And.intro hown hbr)
          clear hown hbr
          go_wp2_with fail
          go_ret
          exact ⟨hF.out.2, a1, c1, Q, rfl, (Ints.own hF.out.1).1, hQ.out⟩
end

/- The walk of codewrightref25.Exchange. -/
section
open Go.RowKit

/-- 'append(out, xs...)' in a region, where a guard asks for it -/
theorem step_appAllG {P : Program} {w : World} {ops : Array Oper} {o : Oper} {ac : Act} {K : Act → World → Prop} {Q : Exit → Act → World → Prop} {E : Prop}
    (hw : Region.wanted o (yielded ops ac.tmps) = true) (s x : Operand) (t e : TypeId) (hop : o.op = .call { callee := .builtin .append, args := #[s, x], argTypes := #[t, t] }) (z : Value) (bytes : Nat)
    (h1 : P.underlying t = some (.slice e)) (h2 : (P.info? e).map (fun i => (i.zero, i.size, i.bytes)) = some (some z, 1, bytes)) (hz : z.cells = #[z])
    (B : Nat) (a : Option Addr) (n c : Nat) (xs : List Value) (hs : ac.eval s = .slice a n c) (hown : w.ownsRow B e 1 (.slice a n c) n xs)
    (ao : Option Addr) (m cc : Nat) (news : List Value) (hx : ac.eval x = .slice ao m cc) (hp : Pl ao m) (hl : news.length = m) (hc : ∀ j, j < m → w.cell? ⟨ablk ao, aoff ao + j, none⟩ = news[j]?) (h1c : ∀ u ∈ news, u.oneCell' = true)
    (b2 : (n + m) * bytes ≤ 140737488355328) (b3 : n + m ≤ maxLen) (hB : B ≤ w.heap.size)
    (hK : ∀ a' c' w', w'.ownsRow B e 1 (.slice a' (n + m) c') (n + m) (xs ++ news) → w.grownBy w' (Value.slice a n c).ownBlock → (∀ b, b < w.heap.size → Apt a b → Apt a' b) → K (ac.put o.dst (.slice a' (n + m) c')) w') :
    if Region.wanted o (yielded ops ac.tmps) = true then Oper.wp P o ac w K Q else E := by
  rw [if_pos hw]
  obtain ⟨a', c', w', hr, h3, h4, h5⟩ := run_appAll (P := P) t o.type e z bytes h1 h2 hz B a n c xs hown ao m cc news hp hl hc h1c b2 b3 hB
  unfold Oper.wp execOp
  simp only [hop, resolve, invoke, builtin, Sem.run_bind, Sem.run_pure, Result.andThen_ok, List.map_toArray, List.map_cons, List.map_nil, hs, hx, hr]
  exact hK a' c' w' h3 h4 h5

theorem rk2E_z {P M : Int} {mod : List Int} {N : Int} {L : List (List Int)} {A B : List Int} (h : rk2E P M mod N L A B = 0) : ∃ m : Nat, N = m ∧ m ≤ 64 ∧ codeE P M mod m L = 0 ∧ okSet m A = true ∧ okSet m B = true := by
  unfold rk2E at h
  by_cases h1 : codeE P M mod N L = 0
  · rw [if_pos h1] at h
    obtain ⟨m, rfl, hm1, hm64, _, _⟩ := codeE_rws h1
    refine ⟨m, rfl, hm64, h1, ?_⟩
    by_cases h2 : okSet m A = true ∧ okSet m B = true
    · exact h2
    · have hse : setsE m [A, B] = if okSet m A = true ∧ okSet m B = true then 0 else 6 := by simp [setsE]
      rw [hse, if_neg h2] at h
      omega
  · rw [if_neg h1] at h; exact absurd h h1
def flt (i : Int) (A : List Int) (k : Nat) : List Int := (A.take k).filter fun x => decide (x ≠ i)
theorem flt_succ (i : Int) {A : List Int} {k : Nat} (h : k < A.length) : flt i A (k + 1) = if nth A k = i then flt i A k else flt i A k ++ [nth A k] := by
  unfold flt
  rw [List.take_succ_eq_append_getElem h, List.filter_append, nth_getElem h]
  by_cases e : A[k] = i
  · simp [e]
  · simp [e]
theorem flt_len (i : Int) (A : List Int) (k : Nat) : (flt i A k).length ≤ k := Nat.le_trans (List.length_filter_le _ _) (by rw [List.length_take]; omega)

set_option maxRecDepth 100000 in
set_option maxHeartbeats 8000000 in
theorem rExchange25_any (P M : Int) (am : Option Addr) (mn cm : Nat) (mod : List Int) (N : Int) (a : Option Addr) (n c : Nat) (L : List (List Int)) (aa : Option Addr) (na ca : Nat) (A : List Int) (ab : Option Addr) (nb cb : Nat) (B : List Int) (i : Int) (w : World)
    (hmod : Ints w am mn mod) (hi : Mat w a n L) (hA : Ints w aa na A) (hB : Ints w ab nb B) :
    Calls Tryz.prog 34 #[.agg #[.int .i64 P, .int .i64 M, .slice am mn cm, .int .i64 N, .slice a n c], .slice aa na ca, .slice ab nb cb, .int .i64 i] w
      fun e w' => e = .returned (.tuple #[.int .i64 (exV P M mod N L A B i).1, .int .i64 (exV P M mod N L A B i).2]) ∧ Below w.heap.size w w' := by
  have Hal := Lib.hid hA.len
  have Hbl := Lib.hid hB.len
  have hpla := hA.pl
  have hplb := hB.pl
  have HSe : Hid (∀ V, Below w.heap.size w V → Calls Tryz.prog 75 #[.agg #[.int .i64 P, .int .i64 M, .slice am mn cm, .int .i64 N, .slice a n c], .slice (some ⟨V.heap.size, 0, none⟩) 2 2] (V.alloc (.cells #[.slice aa na ca, .slice ab nb cb] 22)) fun e w' => e = .returned (.int .i64 (rk2E P M mod N L A B)) ∧ Below V.heap.size V w') := fun V hV => by
    have hb := Below.next hV (below1 V (.cells #[.slice aa na ca, .slice ab nb cb] 22))
    have hMs : Mat (V.alloc (.cells #[.slice aa na ca, .slice ab nb cb] 22)) (some ⟨V.heap.size, 0, none⟩) 2 [A, B] := ⟨rfl, fun _ => rfl, by unfold maxLen; omega, fun k hk => by
      have h2 := cell_alloc_at V #[.slice aa na ca, .slice ab nb cb] 22 rfl k
      match k, hk with
      | 0, _ => exact ⟨aa, na, ca, h2, hA.keep hb⟩
      | 1, _ => exact ⟨ab, nb, cb, h2, hB.keep hb⟩⟩
    refine (rSets_any P M am mn cm mod N a n c L _ 2 2 [A, B] _ (hmod.keep hb) (hi.keep hb) hMs).mono ?_
    rintro e w' ⟨rfl, h1⟩
    exact ⟨by rw [setsC_two], Below.next (below1 _ _) h1⟩
  go_enter Tryz.func34, Tryz.ntmps34
  go_upto_region 1 with fail
  obtain ⟨W, hW⟩ : ∃ W : World, W = w.alloc (.cells #[.int .i64 P, .int .i64 M, .slice am mn cm, .int .i64 N, .slice a n c] 27) := ⟨_, rfl⟩
  rw [← hW]
  have hbW : Below w.heap.size w W := by rw [hW]; exact below1 _ _
  have x0 : Box W w.heap.size [.int .i64 P, .int .i64 M, .slice am mn cm, .int .i64 N, .slice a n c] := by rw [hW]; exact Box.new _ _ _ rfl
  have HS : Hid (∀ V, Below W.heap.size W V → V.cell? ⟨w.heap.size, 0, none⟩ = some (.int .i64 P) ∧ V.cell? ⟨w.heap.size, 1, none⟩ = some (.int .i64 M) ∧ V.cell? ⟨w.heap.size, 2, none⟩ = some (.slice am mn cm) ∧ V.cell? ⟨w.heap.size, 3, none⟩ = some (.int .i64 N) ∧ V.cell? ⟨w.heap.size, 4, none⟩ = some (.slice a n c)) := fun V hV => by
    have x1 := x0.keep hV
    exact ⟨x1.cell 0 rfl, x1.cell 1 rfl, x1.cell 2 rfl, x1.cell 3 rfl, x1.cell 4 rfl⟩
  have HbW := Lib.hid hbW
  clear hW x0 hbW
  obtain ⟨c0, c1, c2, c3, c4⟩ := HS.out W (Below.refl _ _)
  have Hse := Lib.hid (HSe.out W HbW.out)
  go_wp2_with fail
  refine Hse.out.mono ?_
  rintro e w1 ⟨rfl, hb1⟩
  have hbw1 := Below.next HbW.out hb1
  clear c0 c1 c2 c3 c4 Hse HSe
  by_cases hz : rk2E P M mod N L A B = 0
  rotate_left
  · have HV : Hid (exV P M mod N L A B i = (0, rk2E P M mod N L A B)) := by show _ = _; rw [exV, if_pos hz]
    have hz' : (rk2E P M mod N L A B != 0) = true := by simpa using hz
    clear hz
    generalize rk2E P M mod N L A B = er at *
    go_wp2_with fail
    go_ret2
    exact ⟨by rw [HV.out]; rfl, hbw1⟩
  obtain ⟨m, rfl, hm64, hE, hokA, hokB⟩ := rk2E_z hz
  obtain ⟨m', em, hm1, _, F, hR⟩ := codeE_fld hE
  obtain rfl : m = m' := by omega
  have hAi : InN m A := set_in hokA
  have hBi : InN m B := set_in hokB
  have hna : na ≤ 64 := by have := okSet_len hokA (by omega); rw [← Hal.out]; omega
  have hnb : nb ≤ 64 := by have := okSet_len hokB (by omega); rw [← Hbl.out]; omega
  obtain ⟨O, hO⟩ : ∃ O, (tblOf P M.toNat mod).ops = O := ⟨_, rfl⟩
  have HI : Hid (∀ V Q aq nq cq, Below w.heap.size w V → Ints V aq nq Q → InN m Q → nq ≤ 1000000 →
      Calls Tryz.prog 77 #[.agg #[.int .i64 P, .int .i64 M, .slice am mn cm, .int .i64 m, .slice a n c], .slice aq nq cq] V fun e w' => e = .returned (.bool (isB O L Q)) ∧ Below V.heap.size V w') := fun V Q aq nq cq hV hq hQ hnq => by
    have h := rInfo_any P M am mn cm mod m a n c L aq nq cq Q V (hmod.keep hV) (hi.keep hV) hq hE hQ hnq
    rw [hO] at h; exact h
  have HexV : Hid (exV P M mod m L A B i = if (isB O L A && isB O L B) = false then ((0, 9) : Int × Int) else if ¬ i ∈ A then (0, 11) else match B.find? (exP O L A (A.findIdx fun x => x == i)) with | some j => (j, 0) | none => (0, 11)) := by
    show _ = _
    rw [exV, hz, if_neg (by decide), hO]
    rfl
  have hfl : i ∈ A → ∃ t, (A.findIdx fun x => x == i) = t ∧ ∀ j, exP O L A t j = (decide (¬ j ∈ A) && isB O L (sortL (flt i A na ++ [j]))) := fun hi' => by
    obtain ⟨t, hix, htl, hti⟩ := ix_in hi'
    have htx : (A.findIdx fun x => x == i) = t := by rw [ixV, if_pos hi'] at hix; omega
    refine ⟨t, htx, fun j => ?_⟩
    rw [← hO, exP_filt F hR (okSet_nodup hokA) htl hti j, flt, List.take_of_length_le (by rw [Hal.out]; exact Nat.le_refl _)]
  have Hfl := Lib.hid hfl
  have HAi := Lib.hid hAi
  have HBi := Lib.hid hBi
  rw [hz]
  clear hfl hz hE hokA hokB hO F hR hAi hBi em hmod hi
  obtain ⟨c0, c1, c2, c3, c4⟩ := HS.out w1 hb1
  have HiA := Lib.hid (HI.out w1 A aa na ca hbw1 (hA.keep hbw1) HAi.out (by omega))
  go_wp2_with fail
  refine HiA.out.mono ?_
  rintro e w2 ⟨rfl, hb2⟩
  have hb12 := Below.next hb1 hb2
  have hbw2 := Below.next hbw1 hb2
  clear c0 c1 c2 c3 c4 HiA
  by_cases hiA : isB O L A = true
  rotate_left
  · have hiA' : isB O L A = false := by simpa using hiA
    have HV : Hid (exV P M mod m L A B i = (0, 9)) := by show _ = _; rw [HexV.out, hiA']; rfl
    rw [hiA']
    clear hiA hiA'
    go_wp2_with fail
    go_ret2
    exact ⟨by rw [HV.out]; rfl, hbw2⟩
  obtain ⟨c0, c1, c2, c3, c4⟩ := HS.out w2 hb12
  have HiB := Lib.hid (HI.out w2 B ab nb cb hbw2 (hB.keep hbw2) HBi.out (by omega))
  rw [hiA]
  go_wp2_with fail
  refine HiB.out.mono ?_
  rintro e w3 ⟨rfl, hb3⟩
  have hb13 := Below.next hb12 hb3
  have hbw3 := Below.next hbw2 hb3
  clear c0 c1 c2 c3 c4 HiB
  by_cases hiB : isB O L B = true
  rotate_left
  · have hiB' : isB O L B = false := by simpa using hiB
    have HV : Hid (exV P M mod m L A B i = (0, 9)) := by show _ = _; rw [HexV.out, hiA, hiB']; rfl
    rw [hiB']
    clear hiB hiB' hiA
    go_wp2_with fail
    go_ret2
    exact ⟨by rw [HV.out]; rfl, hbw3⟩
  have HexV2 : Hid (exV P M mod m L A B i = if ¬ i ∈ A then ((0, 11) : Int × Int) else match B.find? (exP O L A (A.findIdx fun x => x == i)) with | some j => (j, 0) | none => (0, 11)) := by
    show _ = _
    rw [HexV.out, hiA, hiB, if_neg (by decide)]
  rw [hiB]
  have Hin := Lib.hid (rIn25_any aa na ca A i w3 (hA.keep hbw3))
  clear hiA hiB HexV
  go_wp2_with fail
  refine Hin.out.mono ?_
  rintro e w4 ⟨rfl, rfl⟩
  by_cases hin : i ∈ A
  rotate_left
  · have HV : Hid (exV P M mod m L A B i = (0, 11)) := by show _ = _; rw [HexV2.out, if_pos hin]
    have hd : decide (i ∈ A) = false := by simpa using hin
    rw [hd]
    clear hin hd Hin
    go_wp2_with fail
    go_ret2
    exact ⟨by rw [HV.out]; rfl, hbw3⟩
  obtain ⟨t, htx, hex⟩ := Hfl.out hin
  have HexV3 : Hid (exV P M mod m L A B i = match B.find? (exP O L A t) with | some j => (j, 0) | none => (0, 11)) := by
    show _ = _
    rw [HexV2.out, if_neg (by simpa using hin), htx]
  have Hex := Lib.hid hex
  have hd : decide (i ∈ A) = true := by simpa using hin
  rw [hd]
  clear hin htx hex HexV2 Hfl hd Hin
  generalize w4 = U at *
  go_wp2_with fail
  go_loopw [11, 12] (fun rv iv wr => ∃ (k g : Nat) (a1 : Option Addr) (c1 : Nat), k ≤ na ∧ iv = .int .i64 k ∧ Hid ((flt i A k).length = g) ∧ rv = .slice a1 g c1 ∧ wr.ownsRow U.heap.size 3 1 (.slice a1 g c1) g ((flt i A k).map (Value.int .i64)) ∧ Below U.heap.size U wr) (fun _ iv _ => na - (intOf iv).toNat)
  case atStart => exact ⟨0, 0, none, 0, Nat.zero_le _, rfl, by show _ = _; simp [flt], rfl, by simpa [flt] using own_none, Below.refl _ _⟩
  case round =>
    obtain ⟨k, g, a1, c1, hk, rfl, Hg, rfl, hown, hbr⟩ := hrel
    have hgk : g ≤ 64 := by have h1 := flt_len i A k; rw [Hg.out] at h1; omega
    have hbwr := Below.next hbw3 hbr
    by_cases hlt : k < na
    · have ca' := (hA.keep hbwr).cell k hlt
      have hst := flt_succ i (show k < A.length by rw [Hal.out]; exact hlt)
      obtain ⟨z, hz⟩ : ∃ z, nth A k = z := ⟨_, rfl⟩
      rw [hz] at ca' hst
      clear hz
      by_cases he : z = i
      · have he' : (z != i) = false := by simpa using he
        have Hst : Hid (flt i A (k + 1) = flt i A k) := by show _ = _; rw [hst, if_pos he]
        clear he hst
        go_wp2_with fail
        go_roundw
        case rel => exact ⟨k + 1, g, a1, c1, by omega, by go_num, by show _ = _; rw [Hst.out]; exact Hg.out, rfl, by rw [Hst.out]; exact hown, hbr⟩
        case measure => simp [intOf] <;> omega
      · have he' : (z != i) = true := by simpa using he
        have Hst : Hid (flt i A (k + 1) = flt i A k ++ [z]) := by show _ = _; rw [hst, if_neg he]
        have hsz := hbr.size
        have hcn := cell_new wr (.int .i64 z) 3
        clear he hst
        go_wp2_with (at_builtin; refine wpList_push rfl _ _ 22 3 rfl (.int .i64 0) 8 Tryz.underlying22 infoInt rfl U.heap.size a1 g c1 _ rfl (hown.alloc _) ⟨wr.heap.size, 0, none⟩ 1 (.int .i64 z) rfl hcn rfl (by omega) (by unfold maxLen; omega) (by simp; omega) ?_; intro a5 c5 w5 hown5 hgr5 hap5)
        go_roundw
        case rel =>
          refine ⟨k + 1, g + 1, a5, c5, by omega, by go_num, by show _ = _; rw [Hst.out, List.length_append, Hg.out]; rfl, rfl, by rw [Hst.out]; simpa using hown5, Below.app (Below.allocN hbr _) (hown.alloc _) hgr5 (Nat.le_refl _) (Below.allocN hbr _).size⟩
        case measure => simp [intOf] <;> omega
    · obtain rfl : k = na := by omega
      generalize wr = X at *
      have hbWX := Below.next hb13 hbr
      have hR := (Ints.own hown).1
      have hplR := hR.pl
      obtain ⟨R, hRR⟩ : ∃ R, flt i A k = R := ⟨_, rfl⟩
      have HRin : Hid (InN m R) := inN_of fun x hx => by
        rw [← hRR] at hx
        exact inN_mem HAi.out (List.mem_of_mem_take (List.mem_filter.1 hx).1)
      rw [hRR] at Hg Hex hR
      have HR := Lib.hid hR
      have HbX := Lib.hid (And.intro hbwr hbWX)
      clear hown hRR hR hbr hbwr hbWX
      go_wp2_with fail
      go_loopw [13] (fun iv wr => ∃ j : Nat, j ≤ nb ∧ iv = .int .i64 j ∧ Hid (∀ q, q < j → exP O L A t (nth B q) = false) ∧ Below X.heap.size X wr) (fun iv _ => nb - (intOf iv).toNat)
      case atStart => exact ⟨0, Nat.zero_le _, rfl, fun q hq => by omega, Below.refl _ _⟩
      case round =>
        obtain ⟨j, hj, rfl, hno, hbr⟩ := hrel
        have hbwr := Below.next HbX.out.1 hbr
        have hbWr := Below.next HbX.out.2 hbr
        by_cases hlt : j < nb
        · have cz := (hB.keep hbwr).cell j hlt
          have hjB : j < B.length := by rw [Hbl.out]; exact hlt
          have hzm := HBi.out j hjB
          have hexz := Hex.out (nth B j)
          have Hno := Lib.hid (show exP O L A t (nth B j) = false → ∀ q, q < j + 1 → exP O L A t (nth B q) = false from fun h q hq => by
            by_cases e : q = j
            · subst e; exact h
            · exact hno.out q (by omega))
          have Hyes := Lib.hid (show exP O L A t (nth B j) = true → exV P M mod m L A B i = (nth B j, 0) from fun h => by
            rw [HexV3.out, find_at _ B j hjB hno.out h])
          obtain ⟨z, hz⟩ : ∃ z, nth B j = z := ⟨_, rfl⟩
          have Hz := Lib.hid hz
          rw [hz] at cz hzm hexz Hno Hyes
          have hin := rIn25_any aa k ca A z
          clear hz hno hjB
          by_cases hm : z ∈ A
          · have hmd : decide (z ∈ A) = true := by simpa using hm
            have Hn := Lib.hid (Hno.out (by rw [hexz]; simp [hm]))
            have HcA : Hid (∀ V, Below wr.heap.size wr V → Calls Tryz.prog 86 #[.slice aa k ca, .int .i64 z] V fun e w' => e = .returned (.bool true) ∧ w' = V) := fun V hV => by
              have h := hin V (hA.keep (Below.next hbwr hV))
              rw [hmd] at h; exact h
            clear hm hmd Hno Hyes hexz hin hzm
            go_wp2_with fail
            refine wp_region_held_drew (S := (fun V => V.cell? ⟨ablk ab, aoff ab + j, none⟩ = some (.int .i64 z) ∧ Below wr.heap.size wr V)) (by kernel_rfl) ?_ (fun hHeld => ?_)
            · exact ⟨by first | exact cz | (go_simp; done), (Below.refl _ _).drew⟩
            refine wpAnyH_take (i := 0) (v := ?_) (by simp only [List.getElem?_toArray, List.getElem?_cons_succ, List.getElem?_cons_zero]; rfl) (by kernel_rfl) (by kernel_rfl) (by kernel_rfl) (by exact fun _ _ _ h => h) (Or.inl ⟨by rfl, ?_⟩) (by assumption) ?_
            rotate_left
            · (intro w hSw; (try dsimp only at hSw); obtain ⟨hSa, hSb⟩ := hSw; go_simp; first | done | with_reducible rfl)
            try simp only [Act.put, List.setIfInBounds_toArray, List.set_cons_zero, List.set_cons_succ]
            refine wpAnyH_take (i := 1) (v := ?_) (by simp only [List.getElem?_toArray, List.getElem?_cons_succ, List.getElem?_cons_zero]; rfl) (by kernel_rfl) (by kernel_rfl) (by kernel_rfl) (by exact fun _ _ _ h => h) (Or.inl ⟨by rfl, ?_⟩) (by assumption) ?_
            rotate_left
            · (intro w hSw; (try dsimp only at hSw); obtain ⟨hSa, hSb⟩ := hSw; go_simp; first | done | with_reducible rfl)
            try simp only [Act.put, List.setIfInBounds_toArray, List.set_cons_zero, List.set_cons_succ]
            refine wpAnyH_take (i := 2) (v := ?_) (by simp only [List.getElem?_toArray, List.getElem?_cons_succ, List.getElem?_cons_zero]; rfl) (by kernel_rfl) (by kernel_rfl) (by kernel_rfl) (by exact fun _ _ _ h => h) (Or.inl ⟨by rfl, ?_⟩) (by assumption) ?_
            rotate_left
            · (intro w hSw; (try dsimp only at hSw); obtain ⟨hSa, hSb⟩ := hSw; go_simp; first | done | with_reducible rfl)
            try simp only [Act.put, List.setIfInBounds_toArray, List.set_cons_zero, List.set_cons_succ]
            refine wpAnyH_take (i := 3) (v := ?_) (by simp only [List.getElem?_toArray, List.getElem?_cons_succ, List.getElem?_cons_zero]; rfl) (by kernel_rfl) (by kernel_rfl) (by kernel_rfl) (by exact fun _ _ _ h => h) (Or.inl ⟨by rfl, ?_⟩) (by assumption) ?_
            rotate_left
            · (intro w hSw; (try dsimp only at hSw); obtain ⟨hSa, hSb⟩ := hSw; go_simp; first | done | with_reducible rfl)
            try simp only [Act.put, List.setIfInBounds_toArray, List.set_cons_zero, List.set_cons_succ]
            refine wpAnyH_take (i := 4) (v := ?_) (by simp only [List.getElem?_toArray, List.getElem?_cons_succ, List.getElem?_cons_zero]; rfl) (by kernel_rfl) (by kernel_rfl) (by kernel_rfl) (by exact fun _ _ _ h => h) (Or.inl ⟨by rfl, ?_⟩) (by assumption) ?_
            rotate_left
            · (intro w hSw; (try dsimp only at hSw); obtain ⟨hSa, hSb⟩ := hSw; go_simp; first | done | with_reducible rfl)
            try simp only [Act.put, List.setIfInBounds_toArray, List.set_cons_zero, List.set_cons_succ]
            refine wpAnyH_ready (rs := [5]) (by kernel_rfl) (by simp) ?_
            refine AllReadyH.cons rfl (fun K hK => ?_) AllReadyH.nil
            go_simp
            refine (HcA.out _ (Below.refl _ _).drew).mono ?_; rintro e w6 ⟨rfl, rfl⟩
            go_wp2_with fail
            refine hK.out _ _ ?_ (fun hHeld => ?_)
            · exact hHeld
            clear hK K
            try simp only [Act.put, List.setIfInBounds_toArray, List.set_cons_zero, List.set_cons_succ]
            refine wpAnyH_take (i := 6) (v := ?_) (by simp only [List.getElem?_toArray, List.getElem?_cons_succ, List.getElem?_cons_zero]; rfl) (by kernel_rfl) (by kernel_rfl) (by kernel_rfl) (by exact fun _ _ _ h => h) (Or.inl ⟨by rfl, ?_⟩) (by assumption) ?_
            rotate_left
            · (intro w hSw; (try dsimp only at hSw); obtain ⟨hSa, hSb⟩ := hSw; go_simp; first | done | with_reducible rfl)
            try simp only [Act.put, List.setIfInBounds_toArray, List.set_cons_zero, List.set_cons_succ]
            refine wpAnyH_take (i := 7) (v := ?_) (by simp only [List.getElem?_toArray, List.getElem?_cons_succ, List.getElem?_cons_zero]; rfl) (by kernel_rfl) (by kernel_rfl) (by kernel_rfl) (by exact fun _ _ _ h => h) (Or.inl ⟨by rfl, ?_⟩) (by assumption) ?_
            rotate_left
            · (intro w hSw; (try dsimp only at hSw); obtain ⟨hSa, hSb⟩ := hSw; go_simp; first | done | with_reducible rfl)
            try simp only [Act.put, List.setIfInBounds_toArray, List.set_cons_zero, List.set_cons_succ]
            refine wpAnyH_take (i := 8) (v := undef) (by simp only [List.getElem?_toArray, List.getElem?_cons_succ, List.getElem?_cons_zero]; rfl) (by kernel_rfl) (by kernel_rfl) (by kernel_rfl) (by exact fun _ _ _ h => h) (Or.inr ⟨by rfl, rfl⟩) (by assumption) ?_
            try simp only [Act.put, List.setIfInBounds_toArray, List.set_cons_zero, List.set_cons_succ]
            refine wpAnyH_take (i := 9) (v := undef) (by simp only [List.getElem?_toArray, List.getElem?_cons_succ, List.getElem?_cons_zero]; rfl) (by kernel_rfl) (by kernel_rfl) (by kernel_rfl) (by exact fun _ _ _ h => h) (Or.inr ⟨by rfl, rfl⟩) (by assumption) ?_
            try simp only [Act.put, List.setIfInBounds_toArray, List.set_cons_zero, List.set_cons_succ]
            refine wpAnyH_take (i := 10) (v := undef) (by simp only [List.getElem?_toArray, List.getElem?_cons_succ, List.getElem?_cons_zero]; rfl) (by kernel_rfl) (by kernel_rfl) (by kernel_rfl) (by exact fun _ _ _ h => h) (Or.inr ⟨by rfl, rfl⟩) (by assumption) ?_
            try simp only [Act.put, List.setIfInBounds_toArray, List.set_cons_zero, List.set_cons_succ]
            refine wpAnyH_take (i := 11) (v := undef) (by simp only [List.getElem?_toArray, List.getElem?_cons_succ, List.getElem?_cons_zero]; rfl) (by kernel_rfl) (by kernel_rfl) (by kernel_rfl) (by exact fun _ _ _ h => h) (Or.inr ⟨by rfl, rfl⟩) (by assumption) ?_
            try simp only [Act.put, List.setIfInBounds_toArray, List.set_cons_zero, List.set_cons_succ]
            refine wpAnyH_take (i := 12) (v := undef) (by simp only [List.getElem?_toArray, List.getElem?_cons_succ, List.getElem?_cons_zero]; rfl) (by kernel_rfl) (by kernel_rfl) (by kernel_rfl) (by exact fun _ _ _ h => h) (Or.inr ⟨by rfl, rfl⟩) (by assumption) ?_
            try simp only [Act.put, List.setIfInBounds_toArray, List.set_cons_zero, List.set_cons_succ]
            refine wpAnyH_take (i := 13) (v := undef) (by simp only [List.getElem?_toArray, List.getElem?_cons_succ, List.getElem?_cons_zero]; rfl) (by kernel_rfl) (by kernel_rfl) (by kernel_rfl) (by exact fun _ _ _ h => h) (Or.inr ⟨by rfl, rfl⟩) (by assumption) ?_
            try simp only [Act.put, List.setIfInBounds_toArray, List.set_cons_zero, List.set_cons_succ]
            refine wpAnyH_take (i := 14) (v := undef) (by simp only [List.getElem?_toArray, List.getElem?_cons_succ, List.getElem?_cons_zero]; rfl) (by kernel_rfl) (by kernel_rfl) (by kernel_rfl) (by exact fun _ _ _ h => h) (Or.inr ⟨by rfl, rfl⟩) (by assumption) ?_
            try simp only [Act.put, List.setIfInBounds_toArray, List.set_cons_zero, List.set_cons_succ]
            refine wpAnyH_take (i := 15) (v := undef) (by simp only [List.getElem?_toArray, List.getElem?_cons_succ, List.getElem?_cons_zero]; rfl) (by kernel_rfl) (by kernel_rfl) (by kernel_rfl) (by exact fun _ _ _ h => h) (Or.inr ⟨by rfl, rfl⟩) (by assumption) ?_
            try simp only [Act.put, List.setIfInBounds_toArray, List.set_cons_zero, List.set_cons_succ]
            refine wpAnyH_take (i := 16) (v := undef) (by simp only [List.getElem?_toArray, List.getElem?_cons_succ, List.getElem?_cons_zero]; rfl) (by kernel_rfl) (by kernel_rfl) (by kernel_rfl) (by exact fun _ _ _ h => h) (Or.inr ⟨by rfl, rfl⟩) (by assumption) ?_
            try simp only [Act.put, List.setIfInBounds_toArray, List.set_cons_zero, List.set_cons_succ]
            refine wpAnyH_take (i := 17) (v := undef) (by simp only [List.getElem?_toArray, List.getElem?_cons_succ, List.getElem?_cons_zero]; rfl) (by kernel_rfl) (by kernel_rfl) (by kernel_rfl) (by exact fun _ _ _ h => h) (Or.inr ⟨by rfl, rfl⟩) (by assumption) ?_
            try simp only [Act.put, List.setIfInBounds_toArray, List.set_cons_zero, List.set_cons_succ]
            refine wpAnyH_take (i := 18) (v := undef) (by simp only [List.getElem?_toArray, List.getElem?_cons_succ, List.getElem?_cons_zero]; rfl) (by kernel_rfl) (by kernel_rfl) (by kernel_rfl) (by exact fun _ _ _ h => h) (Or.inr ⟨by rfl, rfl⟩) (by assumption) ?_
            try simp only [Act.put, List.setIfInBounds_toArray, List.set_cons_zero, List.set_cons_succ]
            refine wpAnyH_take (i := 19) (v := undef) (by simp only [List.getElem?_toArray, List.getElem?_cons_succ, List.getElem?_cons_zero]; rfl) (by kernel_rfl) (by kernel_rfl) (by kernel_rfl) (by exact fun _ _ _ h => h) (Or.inr ⟨by rfl, rfl⟩) (by assumption) ?_
            try simp only [Act.put, List.setIfInBounds_toArray, List.set_cons_zero, List.set_cons_succ]
            refine wpAnyH_take (i := 20) (v := ?_) (by simp only [List.getElem?_toArray, List.getElem?_cons_succ, List.getElem?_cons_zero]; rfl) (by kernel_rfl) (by kernel_rfl) (by kernel_rfl) (by exact fun _ _ _ h => h) (Or.inl ⟨by rfl, ?_⟩) (by assumption) ?_
            rotate_left
            · (intro w hSw; (try dsimp only at hSw); obtain ⟨hSa, hSb⟩ := hSw; go_simp; first | done | with_reducible rfl)
            try simp only [Act.put, List.setIfInBounds_toArray, List.set_cons_zero, List.set_cons_succ]
            refine wpAnyH_done (by kernel_rfl) ?_ _
            go_wp2_with fail
            go_roundw
            case rel => exact ⟨j + 1, by omega, by go_num, Hn.out, Below.next hbr (Drawn.below ⟨_, rfl⟩)⟩
            case measure => simp [intOf] <;> omega
          · have hmd : decide (z ∈ A) = false := by simpa using hm
            have HcA : Hid (∀ V, Below wr.heap.size wr V → Calls Tryz.prog 86 #[.slice aa k ca, .int .i64 z] V fun e w' => e = .returned (.bool false) ∧ w' = V) := fun V hV => by
              have h := hin V (hA.keep (Below.next hbwr hV))
              rw [hmd] at h; exact h
            have hexz2 : exP O L A t z = isB O L (sortL (R ++ [z])) := by rw [hexz, show decide (¬ z ∈ A) = true by simpa using hm, Bool.true_and]
            have hgl : (R ++ [z]).length = g + 1 := by rw [List.length_append, Hg.out]; rfl
            have hinz : InN m (sortL (R ++ [z])) := inN_of fun x hx => by
              rcases List.mem_append.1 ((sortL_perm _).mem_iff.1 hx) with h | h
              · exact inN_mem HRin.out h
              · rw [List.mem_singleton.1 h]; exact hzm
            obtain ⟨y, hy⟩ : ∃ y, isB O L (sortL (R ++ [z])) = y := ⟨_, rfl⟩
            rw [hy] at hexz2
            have HSo : Hid (∀ V a5 c5, Below wr.heap.size wr V → V.ownsRow wr.heap.size 3 1 (.slice a5 (g + 1) c5) (g + 1) (R.map (Value.int .i64) ++ [.int .i64 z]) →
                Calls Tryz.prog 38 #[.slice a5 (g + 1) c5] V fun e w' => ∃ a7 c7, e = .returned (.slice a7 (g + 1) c7) ∧ Ints w' a7 (g + 1) (sortL (R ++ [z])) ∧ Below V.heap.size V w') := fun V a5 c5 hV ho => by
              refine (sorted25_any a5 (g + 1) c5 (R ++ [z]) V (Ints.own (l := R ++ [z]) (by simpa using ho)).1 (by omega)).mono ?_
              rintro e w' ⟨a7, c7, rfl, ho7, hb7⟩
              exact ⟨a7, c7, rfl, (Ints.own ho7).1, hb7⟩
            have HIz : Hid (∀ V a7 c7, Below wr.heap.size wr V → Ints V a7 (g + 1) (sortL (R ++ [z])) → ∀ V2, Below V.heap.size V V2 → Calls Tryz.prog 77 #[.agg #[.int .i64 P, .int .i64 M, .slice am mn cm, .int .i64 m, .slice a n c], .slice a7 (g + 1) c7] V2 fun e w' => e = .returned (.bool y) ∧ Below V2.heap.size V2 w') := fun V a7 c7 hV hI V2 hV2 => by
              have h := HI.out V2 (sortL (R ++ [z])) a7 (g + 1) c7 (Below.next hbwr (Below.next hV hV2)) (hI.keep hV2) hinz (by omega)
              rw [hy] at h; exact h
            have HS2 : Hid (∀ V, Below wr.heap.size wr V → V.cell? ⟨w.heap.size, 0, none⟩ = some (.int .i64 P) ∧ V.cell? ⟨w.heap.size, 1, none⟩ = some (.int .i64 M) ∧ V.cell? ⟨w.heap.size, 2, none⟩ = some (.slice am mn cm) ∧ V.cell? ⟨w.heap.size, 3, none⟩ = some (.int .i64 m) ∧ V.cell? ⟨w.heap.size, 4, none⟩ = some (.slice a n c) ∧
                V.cell? ⟨ablk ab, aoff ab + j, none⟩ = some (.int .i64 z) ∧ Ints V a1 g R ∧ Below wr.heap.size wr V) := fun V hV => by
              obtain ⟨d0, d1, d2, d3, d4⟩ := HS.out V (Below.next hbWr hV)
              refine ⟨d0, d1, d2, d3, d4, ?_, HR.out.keep (Below.next hbr hV), hV⟩
              have h := (hB.keep (Below.next hbwr hV)).cell j hlt
              rwa [Hz.out] at h
            have Hexz := Lib.hid hexz2
            have hGl := Hg.out
            have Hbr := Lib.hid (And.intro hbr hbwr)
            clear hm hmd hin hexz hexz2 hgl hinz hy cz hbr hbwr hbWr hzm
            go_wp2_with fail
            go_cut [81] (fun v wx => v = .bool y ∧ Below wr.heap.size wr wx)
            case first =>
              have hO := own_emp wr 3
              have hO2 : ((wr.alloc (.cells #[.int .i64 z] 3)).alloc (.cells #[] 3)).ownsRow wr.heap.size 3 1 (.slice (some ⟨wr.heap.size + 1, 0, none⟩) 0 0) 0 [] := by
                have h := own_mono (own_emp (wr.alloc (.cells #[.int .i64 z] 3)) 3) (B' := wr.heap.size) (by simp)
                rwa [World.size_alloc] at h
              go_region_held3 (fun V => V.cell? ⟨w.heap.size, 0, none⟩ = some (.int .i64 P) ∧ V.cell? ⟨w.heap.size, 1, none⟩ = some (.int .i64 M) ∧ V.cell? ⟨w.heap.size, 2, none⟩ = some (.slice am mn cm) ∧ V.cell? ⟨w.heap.size, 3, none⟩ = some (.int .i64 m) ∧ V.cell? ⟨w.heap.size, 4, none⟩ = some (.slice a n c) ∧
                V.cell? ⟨ablk ab, aoff ab + j, none⟩ = some (.int .i64 z) ∧ Ints V a1 g R ∧ Below wr.heap.size wr V)
                ((refine HS2.out _ ?_; first | exact (Below.refl _ _).drew | exact hb8 | exact hb7 | exact hb5 | exact hb4 | exact Below.allocN hb4 _ | assumption | (go_split_ands; assumption) | exact ((Below.refl _ _).alloc (Nat.le_refl _) _).drew | (go_split_ands; exact Below.allocN (by assumption) _)))
                (first
                  | (go_at_call 86; ((with_reducible refine (HcA.out _ (by go_split_ands; assumption)).mono ?_); rintro e w6 ⟨rfl, rfl⟩))
                  | (obtain ⟨_, _, _, _, _, _, hI9, hB9⟩ := (by assumption : _ ∧ _ ∧ _ ∧ _ ∧ _ ∧ _ ∧ Ints _ a1 g R ∧ Below wr.heap.size wr _); refine step_appAllG (by rfl) (.tmp 70) (.tmp 71) 22 3 (by rfl) (.int .i64 0) 8 Tryz.underlying22 infoInt (by rfl) wr.heap.size _ 0 0 [] (by rfl) (by first | exact hO | exact hO.alloc _ | exact hO2) a1 g c1 (R.map (Value.int .i64)) (by rfl) hplR (by simp [hGl]) (Ints.news hI9) (ints_oneCell _ _) (by omega) (by unfold maxLen; omega) (Below.size hB9) ?_; intro a4 c4 w4 hown4 hgr4 hap4; have hb4 : Below wr.heap.size wr w4 := Below.app (B := wr.heap.size) (e := 3) (xs := []) hB9 (by first | exact hO | exact hO.alloc _ | exact hO2) hgr4 (Nat.le_refl _) (Below.size hB9); rw [Nat.zero_add] at hown4 ⊢; rw [List.nil_append] at hown4; (first | (have hc4 := cell_grownApt (ad := ⟨wr.heap.size + 1, 0, none⟩) (v := .int .i64 z) hgr4 (cell_new' _ _ _ (by simp)) (.inr (by simp))) | (have hc4 := cell_grownApt (ad := ⟨wr.heap.size, 0, none⟩) (v := .int .i64 z) hgr4 (cell_box (cell_new' _ _ _ rfl) _) (.inr (by simp))) | skip))
                  | (refine step_appAllG (by rfl) (.tmp 72) (.tmp 77) 22 3 (by rfl) (.int .i64 0) 8 Tryz.underlying22 infoInt (by rfl) wr.heap.size a4 g c4 (R.map (Value.int .i64)) (by rfl) (by first | exact hown4 | exact hown4.alloc _) _ 1 1 [.int .i64 z] (by rfl) (fun _ => rfl) rfl (by intro j hj; obtain rfl : j = 0 := (by omega); first | exact cell_new' _ _ _ rfl | exact hc4) (by intro y hy; simp at hy; subst hy; rfl) (by omega) (by unfold maxLen; omega) (by first | exact hb4.size | exact (Below.allocN hb4 _).size) ?_; intro a5 c5 w5 hown5 hgr5 hap5; have hb5 : Below wr.heap.size wr w5 := (by first | exact Below.app (Below.allocN hb4 _) (hown4.alloc _) hgr5 (Nat.le_refl _) (Below.allocN hb4 _).size | exact Below.app hb4 hown4 hgr5 (Nat.le_refl _) hb4.size))
                  | (go_at_call 38; ((with_reducible refine (HSo.out _ a5 c5 hb5 hown5).mono ?_); rintro e w7 ⟨a7, c7, rfl, hI7, hb7'⟩; have hb7 : Below wr.heap.size wr w7 := Below.next hb5 hb7'; have Hr2 := Lib.hid (HIz.out w7 a7 c7 hb7 hI7); clear hI7))
                  | (go_at_call 77; ((with_reducible refine (Hr2.out _ (by first | exact Below.refl _ _ | assumption)).mono ?_); rintro e w8 ⟨rfl, hb8'⟩; have hb8 : Below wr.heap.size wr w8 := Below.next hb7 hb8')))
              all_goals (go_wp2_with fail; go_meet; exact ⟨rfl, hb8⟩)
            obtain ⟨rfl, hb9⟩ := hcut
            generalize wc = V at *
            cases y
            · have Hn := Lib.hid (Hno.out Hexz.out)
              clear Hno Hyes
              go_wp2_with fail
              go_roundw
              case rel => exact ⟨j + 1, by omega, by go_num, Hn.out, Below.next Hbr.out.1 hb9⟩
              case measure => simp [intOf] <;> omega
            · have HV := Lib.hid (Hyes.out Hexz.out)
              have cz := (HS2.out V hb9).2.2.2.2.2.1
              have hF := Below.next Hbr.out.2 hb9
              clear Hno Hyes
              go_wp2_with fail
              go_ret2
              exact ⟨by rw [HV.out]; rfl, hF⟩
        · obtain rfl : j = nb := by omega
          have HV : Hid (exV P M mod m L A B i = (0, 11)) := by
            show _ = _
            rw [HexV3.out, find_no _ B (by rw [Hbl.out]; exact hno.out)]
          clear hno
          go_wp2_with fail
          go_ret2
          exact ⟨by rw [HV.out]; rfl, hbwr⟩
end

/- The walk of InfosetMatroid. -/
section
open Go.RowKit

set_option maxRecDepth 100000 in
set_option maxHeartbeats 16000000 in
theorem infMatroid_any (P M : Int) (am : Option Addr) (mn cm : Nat) (mod : List Int) (N : Int) (a : Option Addr) (n c : Nat) (L : List (List Int)) (ax : Option Addr) (ns cs : Nat) (Us : List Int) (ay : Option Addr) (nt ct : Nat) (Ut : List Int) (w : World)
    (hmod : Ints w am mn mod) (hi : Mat w a n L) (hs : U8s w ax ns Us) (ht : U8s w ay nt Ut) :
    Calls Tryz.prog 7 #[.agg #[.int .i64 P, .int .i64 M, .slice am mn cm, .int .i64 N, .slice a n c], .slice ax ns cs, .slice ay nt ct] w fun e w' => e = .returned (.bool true) ∧ Below w.heap.size w w' := by
  have HF : Hid (∀ V, Below w.heap.size w V → Calls Tryz.prog 25 #[.agg #[.int .i64 P, .int .i64 M, .slice am mn cm, .int .i64 N, .slice a n c]] V (SomeBool V)) :=
    fun V hV => few25_any P M am mn cm N a n c L V (hi.keep hV)
  have HCk := Lib.hid (fun V (hV : Below w.heap.size w V) => rCheck_any P M am mn cm mod N a n c L V (hmod.keep hV) (hi.keep hV))
  have Hil := Lib.hid hi.len
  go_enter Tryz.func7, Tryz.ntmps7
  go_wp2_with fail
  obtain ⟨W, hW⟩ : ∃ W : World, W = w.alloc (.cells #[.int .i64 P, .int .i64 M, .slice am mn cm, .int .i64 N, .slice a n c] 27) := ⟨_, rfl⟩
  rw [← hW]
  have hbW : Below w.heap.size w W := by rw [hW]; exact below1 _ _
  have x0 : Box W w.heap.size [.int .i64 P, .int .i64 M, .slice am mn cm, .int .i64 N, .slice a n c] := by rw [hW]; exact Box.new _ _ _ rfl
  have HS : Hid (∀ V, Below W.heap.size W V → V.cell? ⟨w.heap.size, 0, none⟩ = some (.int .i64 P) ∧ V.cell? ⟨w.heap.size, 1, none⟩ = some (.int .i64 M) ∧ V.cell? ⟨w.heap.size, 2, none⟩ = some (.slice am mn cm) ∧ V.cell? ⟨w.heap.size, 3, none⟩ = some (.int .i64 N) ∧ V.cell? ⟨w.heap.size, 4, none⟩ = some (.slice a n c) ∧ Below W.heap.size W V) := fun V hV => by
    have x1 := x0.keep hV
    exact ⟨x1.cell 0 rfl, x1.cell 1 rfl, x1.cell 2 rfl, x1.cell 3 rfl, x1.cell 4 rfl, hV⟩
  have HbW := Lib.hid hbW
  clear hW x0 hbW
  refine (awake_any W).mono ?_
  rintro e w1 ⟨rfl, hb1⟩
  obtain ⟨c0, c1, c2, c3, c4, _⟩ := HS.out w1 hb1
  go_wp2_with fail
  refine (HF.out w1 (Below.next HbW.out hb1)).mono ?_
  rintro e w2 ⟨z, rfl, hb2⟩
  have hB2 := Below.next hb1 hb2
  clear c0 c1 c2 c3 c4 HF
  cases z
  · go_wp2_with fail
    refine (awake_any w2).mono ?_
    rintro e w3 ⟨rfl, hb3⟩
    have hF := Below.next HbW.out (Below.next hB2 hb3)
    go_wp2_with fail
    go_ret
    exact ⟨rfl, hF⟩
  obtain ⟨c0, c1, c2, c3, c4, _⟩ := HS.out w2 hB2
  have Hck := Lib.hid (HCk.out w2 (Below.next HbW.out hB2))
  go_wp2_with fail
  refine Hck.out.mono ?_
  rintro e w3 ⟨rfl, hb3⟩
  have hB3 := Below.next hB2 hb3
  clear c0 c1 c2 c3 c4 Hck HCk hb1 hb2
  by_cases hE : codeE P M mod N L = 0
  rotate_left
  · have hE2 : (codeE P M mod N L != 0) = true := by simpa using hE
    clear hE
    generalize codeE P M mod N L = er at *
    go_wp2_with fail
    refine (awake_any w3).mono ?_
    rintro e w4 ⟨rfl, hb4⟩
    have hF := Below.next HbW.out (Below.next hB3 hb4)
    go_wp2_with fail
    go_ret
    exact ⟨rfl, hF⟩
  obtain ⟨m, rfl, hm1, hm64, F, hR⟩ := codeE_fld hE
  have hn256 : n ≤ 256 := by rw [← Hil.out]; exact (codeE_rws hE).choose_spec.2.2.2.1
  rw [hE]
  have HPs : Hid (∀ V, Below w.heap.size w V → Calls Tryz.prog 36 #[.slice ax ns cs, .int .i64 m] V fun e w' => Below V.heap.size V w' ∧ ∃ a1 c1 Q, e = .returned (.slice a1 m c1) ∧ Ints w' a1 m Q ∧ PermN m Q) := fun V hV => perm25_any ax ns cs Us m V (hs.keep hV) (by omega)
  have HPt : Hid (∀ V, Below w.heap.size w V → Calls Tryz.prog 36 #[.slice ay nt ct, .int .i64 m] V fun e w' => Below V.heap.size V w' ∧ ∃ a1 c1 Q, e = .returned (.slice a1 m c1) ∧ Ints w' a1 m Q ∧ PermN m Q) := fun V hV => perm25_any ay nt ct Ut m V (ht.keep hV) (by omega)
  have HGr : Hid (∀ V aq cq Q, Below w.heap.size w V → Ints V aq m Q → PermN m Q → ∀ V2, Below V.heap.size V V2 → Calls Tryz.prog 30 #[.agg #[.int .i64 P, .int .i64 M, .slice am mn cm, .int .i64 m, .slice a n c], .slice aq m cq] V2 fun e w' =>
      Below V2.heap.size V2 w' ∧ ∃ a1 c1 S, e = .returned (.tuple #[.slice a1 n c1, .int .i64 0]) ∧ Ints w' a1 n S ∧ Hid (okSet m S = true ∧ isB (tblOf P M.toNat mod).ops L S = true)) := fun V aq cq Q hV hq hQ V2 hV2 => by
    have hb := Below.next hV hV2
    refine (infGreedy_any P M am mn cm mod m a n c L aq m cq Q V2 (hmod.keep hb) (hi.keep hb) (hq.keep hV2) (by omega)).mono ?_
    rintro e w' ⟨hbb, ⟨h0, _⟩ | ⟨_, a1, c1, rfl, ho⟩⟩
    · exact absurd (perm_greE hE hQ) h0
    · obtain ⟨p1, p2⟩ := perm_set hE hQ
      have hl : (grS (tblOf P M.toNat mod).ops L Q).length = n := by
        have h := (isB_iff.1 p2).1
        rw [sortL_len] at h
        rw [h]; exact Hil.out
      rw [hl] at ho ⊢
      exact ⟨hbb, a1, c1, _, rfl, (Ints.own ho).1, p1, p2⟩
  have HIs : Hid (∀ V aq nq cq Q, Below w.heap.size w V → Ints V aq nq Q → okSet m Q = true → isB (tblOf P M.toNat mod).ops L Q = true → ∀ V2, Below V.heap.size V V2 → Calls Tryz.prog 28 #[.agg #[.int .i64 P, .int .i64 M, .slice am mn cm, .int .i64 m, .slice a n c], .slice aq nq cq] V2 fun e w' =>
      e = .returned (.tuple #[.bool true, .int .i64 0]) ∧ Below V2.heap.size V2 w') := fun V aq nq cq Q hV hq hQ hB V2 hV2 => by
    have hb := Below.next hV hV2
    refine (infIs_any P M am mn cm mod m a n c L aq nq cq Q V2 (hmod.keep hb) (hi.keep hb) (hq.keep hV2)).mono ?_
    rintro e w' ⟨rfl, hbb⟩
    exact ⟨by rw [set_isV hE hQ, set_rankE hE hQ, hB], hbb⟩
  have HEx : Hid (∀ V aa ca A ab cb B i, Below w.heap.size w V → Ints V aa n A → Ints V ab n B → Calls Tryz.prog 33 #[.agg #[.int .i64 P, .int .i64 M, .slice am mn cm, .int .i64 m, .slice a n c], .slice aa n ca, .slice ab n cb, .int .i64 i] V fun e w' =>
      e = .returned (.tuple #[.int .i64 (exV P M mod m L A B i).1, .int .i64 (exV P M mod m L A B i).2]) ∧ Below V.heap.size V w') := fun V aa ca A ab cb B i hV hA hB =>
    exchange_any P M am mn cm mod m a n c L aa n ca A ab n cb B i V (hmod.keep hV) (hi.keep hV) hA hB
  have HexV : Hid (∀ A B i, okSet m A = true ∧ isB (tblOf P M.toNat mod).ops L A = true → okSet m B = true ∧ isB (tblOf P M.toNat mod).ops L B = true → i ∈ A → ¬ i ∈ B → ∃ j, exV P M mod m L A B i = (j, 0) ∧ ¬ j ∈ A ∧ j ∈ B ∧ okSet m (sortL (A.filter (fun x => decide (x ≠ i)) ++ [j])) = true ∧ isB (tblOf P M.toNat mod).ops L (sortL (A.filter (fun x => decide (x ≠ i)) ++ [j])) = true) :=
    fun A B i hA hB hi' hiB => exV_ok hE hA.1 hB.1 hA.2 hB.2 hi' hiB
  obtain ⟨O, hO⟩ : ∃ O, (tblOf P M.toNat mod).ops = O := ⟨_, rfl⟩
  rw [hO] at HGr HIs HexV
  have hOb := hB3
  clear hE hR F hO hmod hi hs ht Hil hb3 hB2
  go_wp2_with fail
  -- the first greedy set
  go_cut [7, 8] (fun v u wx => ∃ a1 c1 S, v = .slice a1 n c1 ∧ u = .int .i64 0 ∧ Ints wx a1 n S ∧ Hid (okSet m S = true ∧ isB O L S = true) ∧ Below W.heap.size W wx)
  case first =>
    have hS0 := hOb
    go_region_held3 (fun V => V.cell? ⟨w.heap.size, 0, none⟩ = some (.int .i64 P) ∧ V.cell? ⟨w.heap.size, 1, none⟩ = some (.int .i64 M) ∧ V.cell? ⟨w.heap.size, 2, none⟩ = some (.slice am mn cm) ∧ V.cell? ⟨w.heap.size, 3, none⟩ = some (.int .i64 m) ∧ V.cell? ⟨w.heap.size, 4, none⟩ = some (.slice a n c) ∧ Below W.heap.size W V)
      ((refine HS.out _ ?_; first | exact hb8 | exact hb7 | exact Below.next hS0 (Below.refl _ _).drew | exact hS0 | assumption | (go_split_ands; assumption)))
      (first
        | (go_at_call 36; ((with_reducible refine (HPs.out _ (by go_split_ands; exact Below.next HbW.out (by assumption))).mono ?_); rintro e w7 ⟨hb7', a7, k7, Q7, rfl, hI7, hQ7⟩; have hb7 : Below W.heap.size W w7 := (by go_split_ands; exact Below.next (by assumption) hb7'); have Hr2 := Lib.hid (HGr.out w7 a7 k7 Q7 (Below.next HbW.out hb7) hI7 hQ7); clear hI7 hQ7))
        | (go_at_call 30; ((with_reducible refine (Hr2.out _ (by first | exact Below.refl _ _ | assumption)).mono ?_); rintro e w8 ⟨hb8', a8, k8, S8, rfl, hI8, hS8⟩; have hb8 : Below W.heap.size W w8 := Below.next hb7 hb8')))
    all_goals (go_wp2_with fail; go_meet; exact ⟨a8, k8, S8, rfl, rfl, hI8, hS8, hb8⟩)
  obtain ⟨aA, cA, A, rfl, rfl, hA, hAs, hb4⟩ := hcut
  generalize wc = X1 at *
  clear hOb hB3
  go_wp2_with fail
  go_cut [9, 10] (fun v u wx => ∃ a1 c1 S, v = .slice a1 n c1 ∧ u = .int .i64 0 ∧ Ints wx a1 n S ∧ Hid (okSet m S = true ∧ isB O L S = true) ∧ Below X1.heap.size X1 wx)
  case first =>
    have HS1 : Hid (∀ V, Below X1.heap.size X1 V → V.cell? ⟨w.heap.size, 0, none⟩ = some (.int .i64 P) ∧ V.cell? ⟨w.heap.size, 1, none⟩ = some (.int .i64 M) ∧ V.cell? ⟨w.heap.size, 2, none⟩ = some (.slice am mn cm) ∧ V.cell? ⟨w.heap.size, 3, none⟩ = some (.int .i64 m) ∧ V.cell? ⟨w.heap.size, 4, none⟩ = some (.slice a n c) ∧ Below X1.heap.size X1 V) := fun V hV => by
      obtain ⟨q0, q1, q2, q3, q4, _⟩ := HS.out V (Below.next hb4 hV)
      exact ⟨q0, q1, q2, q3, q4, hV⟩
    have HbX1 := Lib.hid (Below.next HbW.out hb4)
    clear hA hb4
    go_region_held3 (fun V => V.cell? ⟨w.heap.size, 0, none⟩ = some (.int .i64 P) ∧ V.cell? ⟨w.heap.size, 1, none⟩ = some (.int .i64 M) ∧ V.cell? ⟨w.heap.size, 2, none⟩ = some (.slice am mn cm) ∧ V.cell? ⟨w.heap.size, 3, none⟩ = some (.int .i64 m) ∧ V.cell? ⟨w.heap.size, 4, none⟩ = some (.slice a n c) ∧ Below X1.heap.size X1 V)
      ((refine HS1.out _ ?_; first | exact hb8 | exact hb7 | exact (Below.refl _ _).drew | exact Below.refl _ _ | assumption | (go_split_ands; assumption)))
      (first
        | (go_at_call 36; ((with_reducible refine (HPt.out _ (by go_split_ands; exact Below.next HbX1.out (by assumption))).mono ?_); rintro e w7 ⟨hb7', a7, k7, Q7, rfl, hI7, hQ7⟩; have hb7 : Below X1.heap.size X1 w7 := (by go_split_ands; exact Below.next (by assumption) hb7'); have Hr2 := Lib.hid (HGr.out w7 a7 k7 Q7 (Below.next HbX1.out hb7) hI7 hQ7); clear hI7 hQ7))
        | (go_at_call 30; ((with_reducible refine (Hr2.out _ (by first | exact Below.refl _ _ | assumption)).mono ?_); rintro e w8 ⟨hb8', a8, k8, S8, rfl, hI8, hS8⟩; have hb8 : Below X1.heap.size X1 w8 := Below.next hb7 hb8')))
    all_goals (go_wp2_with fail; go_meet; exact ⟨a8, k8, S8, rfl, rfl, hI8, hS8, hb8⟩)
  obtain ⟨aB, cB, B, rfl, rfl, hB, hBs, hb5⟩ := hcut
  generalize wc = X2 at *
  have hA2 := hA.keep hb5
  have hbX2 := Below.next hb4 hb5
  have hplA := hA.pl
  clear hA HGr HPs HPt hb4 hb5
  obtain ⟨c0, c1, c2, c3, c4, _⟩ := HS.out X2 hbX2
  have Hi1 := Lib.hid (HIs.out X2 aA n cA A (Below.next HbW.out hbX2) hA2 hAs.out.1 hAs.out.2 X2 (Below.refl _ _))
  go_wp2_with fail
  refine Hi1.out.mono ?_
  rintro e X3 ⟨rfl, hb6⟩
  have hbX3 := Below.next hbX2 hb6
  have hA3 := hA2.keep hb6
  have hB3 := hB.keep hb6
  clear c0 c1 c2 c3 c4 Hi1 hA2 hB hb6
  obtain ⟨c0, c1, c2, c3, c4, _⟩ := HS.out X3 hbX3
  have Hi1 := Lib.hid (HIs.out X3 aB n cB B (Below.next HbW.out hbX3) hB3 hBs.out.1 hBs.out.2 X3 (Below.refl _ _))
  go_wp2_with fail
  refine Hi1.out.mono ?_
  rintro e X4 ⟨rfl, hb7⟩
  have hbX4 := Below.next hbX3 hb7
  have hA4 := hA3.keep hb7
  have hB4 := hB3.keep hb7
  have HAl := Lib.hid hA4.len
  clear c0 c1 c2 c3 c4 Hi1 hA3 hB3 hb7 hbX2 hbX3
  go_wp2_with fail
  go_loopw [90] (fun iv wr => ∃ k : Nat, k ≤ n ∧ iv = .int .i64 k ∧ Below X4.heap.size X4 wr) (fun iv _ => n - (intOf iv).toNat)
  case atStart => exact ⟨0, Nat.zero_le _, rfl, Below.refl _ _⟩
  case round =>
    obtain ⟨k, hk, rfl, hbr⟩ := hrel
    have hbWr := Below.next hbX4 hbr
    by_cases hlt : k < n
    · have hAr := hA4.keep hbr
      have hBr := hB4.keep hbr
      have ck := hAr.cell k hlt
      have hzA : nth A k ∈ A := nth_mem (by rw [HAl.out]; exact hlt)
      obtain ⟨z, hz⟩ : ∃ z, nth A k = z := ⟨_, rfl⟩
      rw [hz] at ck hzA
      have hme := member25_any aB n cB B z wr hBr
      clear hz
      by_cases hzB : z ∈ B
      · rw [show decide (z ∈ B) = true by simpa using hzB] at hme
        have Hme := Lib.hid hme
        clear hzB hzA hme
        go_wp2_with fail
        refine Hme.out.mono ?_
        rintro e w5 ⟨rfl, rfl⟩
        go_wp2_with fail
        go_roundw
        case rel => exact ⟨k + 1, by omega, by go_num, hbr⟩
        case measure => simp [intOf] <;> omega
      · rw [show decide (z ∈ B) = false by simpa using hzB] at hme
        obtain ⟨j, hex, hjA, hjB, hok, hbs⟩ := HexV.out A B z hAs.out hBs.out hzA hzB
        have Hme := Lib.hid hme
        have hx := HEx.out wr aA cA A aB cB B z (Below.next HbW.out hbWr) hAr hBr
        rw [hex] at hx
        have Hx := Lib.hid hx
        have Hj := Lib.hid (And.intro hjA (And.intro hjB (And.intro hok hbs)))
        obtain ⟨c0, c1, c2, c3, c4, _⟩ := HS.out wr hbWr
        clear hzB hzA hme hex hx hjA hjB hok hbs
        go_wp2_with fail
        refine Hme.out.mono ?_
        rintro e w5 ⟨rfl, rfl⟩
        go_wp2_with fail
        refine Hx.out.mono ?_
        rintro e w6 ⟨rfl, hb6⟩
        have hbr6 := Below.next hbr hb6
        have hbW6 := Below.next hbWr hb6
        have hA6 := hA4.keep hbr6
        have hB6 := hB4.keep hbr6
        have hm1' := member25_any aA n cA A j w6 hA6
        rw [show decide (j ∈ A) = false by simpa using Hj.out.1] at hm1'
        have hm2' := member25_any aB n cB B j w6 hB6
        rw [show decide (j ∈ B) = true by simpa using Hj.out.2.1] at hm2'
        have Hm1 := Lib.hid hm1'
        have Hm2 := Lib.hid hm2'
        clear c0 c1 c2 c3 c4 hm1' hm2' Hx Hme hAr hBr ck
        go_wp2_with fail
        refine Hm1.out.mono ?_
        rintro e w7 ⟨rfl, rfl⟩
        go_wp2_with fail
        refine Hm2.out.mono ?_
        rintro e w8 ⟨rfl, rfl⟩
        clear Hm1 Hm2
        generalize w8 = Y at *
        go_wp2_with fail
        go_loopw [19, 120] (fun rv iv wr => ∃ (q g : Nat) (a1 : Option Addr) (c1 : Nat), q ≤ n ∧ iv = .int .i64 q ∧ Hid ((flt z A q).length = g) ∧ rv = .slice a1 g c1 ∧ wr.ownsRow Y.heap.size 3 1 (.slice a1 g c1) g ((flt z A q).map (Value.int .i64)) ∧ Below Y.heap.size Y wr) (fun _ iv _ => n - (intOf iv).toNat)
        case atStart => exact ⟨0, 0, none, 0, Nat.zero_le _, rfl, by show _ = _; simp [flt], rfl, by simpa [flt] using own_none, Below.refl _ _⟩
        case round =>
          obtain ⟨q, g, a1, c1, hq, rfl, Hg, rfl, hown, hbs⟩ := hrel
          have hgq : g ≤ 256 := by have h1 := flt_len z A q; rw [Hg.out] at h1; omega
          by_cases hltq : q < n
          · have cq := (hA6.keep hbs).cell q hltq
            have hst := flt_succ z (show q < A.length by rw [HAl.out]; exact hltq)
            obtain ⟨y, hy⟩ : ∃ y, nth A q = y := ⟨_, rfl⟩
            rw [hy] at cq hst
            clear hy
            by_cases he : y = z
            · have he' : (y != z) = false := by simpa using he
              have Hst : Hid (flt z A (q + 1) = flt z A q) := by show _ = _; rw [hst, if_pos he]
              clear he hst
              go_wp2_with fail
              go_roundw
              case rel => exact ⟨q + 1, g, a1, c1, by omega, by go_num, by show _ = _; rw [Hst.out]; exact Hg.out, rfl, by rw [Hst.out]; exact hown, hbs⟩
              case measure => simp [intOf] <;> omega
            · have he' : (y != z) = true := by simpa using he
              have Hst : Hid (flt z A (q + 1) = flt z A q ++ [y]) := by show _ = _; rw [hst, if_neg he]
              have hsz := hbs.size
              have hcn := cell_new wr (.int .i64 y) 3
              clear he hst
              go_wp2_with (at_builtin; refine wpList_push rfl _ _ 22 3 rfl (.int .i64 0) 8 Tryz.underlying22 infoInt rfl Y.heap.size a1 g c1 _ rfl (hown.alloc _) ⟨wr.heap.size, 0, none⟩ 1 (.int .i64 y) rfl hcn rfl (by omega) (by unfold maxLen; omega) (by simp; omega) ?_; intro a5 c5 w5 hown5 hgr5 hap5)
              go_roundw
              case rel =>
                refine ⟨q + 1, g + 1, a5, c5, by omega, by go_num, by show _ = _; rw [Hst.out, List.length_append, Hg.out]; rfl, rfl, by rw [Hst.out]; simpa using hown5, Below.app (Below.allocN hbs _) (hown.alloc _) hgr5 (Nat.le_refl _) (Below.allocN hbs _).size⟩
              case measure => simp [intOf] <;> omega
          · have hqn : q = n := by omega
            have hfl : flt z A q = A.filter (fun x => decide (x ≠ z)) := by rw [hqn, flt, List.take_of_length_le (by rw [HAl.out]; exact Nat.le_refl _)]
            rw [hfl] at hown Hg
            obtain ⟨R, hRR⟩ : ∃ R, A.filter (fun x => decide (x ≠ z)) = R := ⟨_, rfl⟩
            rw [hRR] at hown Hg
            have hj2 := Hj.out
            rw [hRR] at hj2
            have Hj2 := Lib.hid hj2
            have hbWs := Below.next hbW6 hbs
            have hb4s := Below.next hbr6 hbs
            have Hown := Lib.hid (And.intro hown hbs)
            have Hqn := Lib.hid hqn
            have HX : Hid (Below W.heap.size W Y ∧ Below X4.heap.size X4 Y) := ⟨hbW6, hbr6⟩
            have HS2 : Hid (∀ V, Below Y.heap.size Y V → V.cell? ⟨w.heap.size, 0, none⟩ = some (.int .i64 P) ∧ V.cell? ⟨w.heap.size, 1, none⟩ = some (.int .i64 M) ∧ V.cell? ⟨w.heap.size, 2, none⟩ = some (.slice am mn cm) ∧ V.cell? ⟨w.heap.size, 3, none⟩ = some (.int .i64 m) ∧ V.cell? ⟨w.heap.size, 4, none⟩ = some (.slice a n c) ∧ Below Y.heap.size Y V) := fun V hV => by
              obtain ⟨q0, q1, q2, q3, q4, _⟩ := HS.out V (Below.next HX.out.1 hV)
              exact ⟨q0, q1, q2, q3, q4, hV⟩
            have HSo : Hid (∀ V a5 c5, Below Y.heap.size Y V → V.ownsRow Y.heap.size 3 1 (.slice a5 (g + 1) c5) (g + 1) (R.map (Value.int .i64) ++ [.int .i64 j]) →
                Calls Tryz.prog 38 #[.slice a5 (g + 1) c5] V fun e w' => ∃ a7 c7, e = .returned (.slice a7 (g + 1) c7) ∧ Ints w' a7 (g + 1) (sortL (R ++ [j])) ∧ Below V.heap.size V w') := fun V a5 c5 hV ho => by
              refine (sorted25_any a5 (g + 1) c5 (R ++ [j]) V (Ints.own (l := R ++ [j]) (by simpa using ho)).1 (by omega)).mono ?_
              rintro e w' ⟨a7, c7, rfl, ho7, hb7⟩
              exact ⟨a7, c7, rfl, (Ints.own ho7).1, hb7⟩
            have HIz : Hid (∀ V a7 c7, Below Y.heap.size Y V → Ints V a7 (g + 1) (sortL (R ++ [j])) → ∀ V2, Below V.heap.size V V2 → Calls Tryz.prog 28 #[.agg #[.int .i64 P, .int .i64 M, .slice am mn cm, .int .i64 m, .slice a n c], .slice a7 (g + 1) c7] V2 fun e w' => e = .returned (.tuple #[.bool true, .int .i64 0]) ∧ Below V2.heap.size V2 w') := fun V a7 c7 hV hI V2 hV2 =>
              HIs.out V a7 (g + 1) c7 _ (Below.next HbW.out (Below.next HX.out.1 hV)) hI Hj2.out.2.2.1 Hj2.out.2.2.2 V2 hV2
            have hsY := hbs.size
            clear hfl hRR hj2 hqn hbWs hb4s hown hbs
            go_wp2_with fail
            go_cut [18, 22] (fun u v wx => u = .int .i64 0 ∧ v = .bool true ∧ Below Y.heap.size Y wx)
            case first =>
              have hOw := Hown.out.1
              have hYa := Lib.hid (Below.allocN Hown.out.2 (.cells #[.int .i64 j] 3))
              have hOa := Lib.hid (hOw.alloc (.cells #[.int .i64 j] 3))
              go_region_held3 (fun V => V.cell? ⟨w.heap.size, 0, none⟩ = some (.int .i64 P) ∧ V.cell? ⟨w.heap.size, 1, none⟩ = some (.int .i64 M) ∧ V.cell? ⟨w.heap.size, 2, none⟩ = some (.slice am mn cm) ∧ V.cell? ⟨w.heap.size, 3, none⟩ = some (.int .i64 m) ∧ V.cell? ⟨w.heap.size, 4, none⟩ = some (.slice a n c) ∧ Below Y.heap.size Y V)
                ((refine HS2.out _ ?_; first | exact hb8 | exact hb7 | exact hb5 | exact Hown.out.2.drew | exact hYa.out.drew | exact hYa.out | assumption | (go_split_ands; assumption)))
                (first
                  | (obtain ⟨_, _, _, _, _, hB9⟩ := (by assumption : _ ∧ _ ∧ _ ∧ _ ∧ _ ∧ Below Y.heap.size Y _); refine step_appAll (by rfl) (.tmp 134) (.tmp 136) 22 3 (by rfl) (.int .i64 0) 8 Tryz.underlying22 infoInt (by rfl) Y.heap.size a1 g c1 (R.map (Value.int .i64)) (by rfl) (by exact hOa.out) _ 1 1 [.int .i64 j] (by rfl) (fun _ => rfl) rfl (by intro j' hj'; obtain rfl : j' = 0 := (by omega); exact cell_new' _ _ _ rfl) (by intro y hy; simp at hy; subst hy; rfl) (by omega) (by unfold maxLen; omega) (by exact hYa.out.size) ?_; intro a5 c5 w5 hown5 hgr5 hap5; have hb5 : Below Y.heap.size Y w5 := (by first | exact Below.app hYa.out hOa.out hgr5 (Nat.le_refl _) hYa.out.size | exact Below.app hYa.out.drew (by exact hOa.out) hgr5 (Nat.le_refl _) hYa.out.drew.size | exact Below.app hB9 (by exact hOa.out) hgr5 (Nat.le_refl _) hB9.size))
                  | (go_at_call 38; ((with_reducible refine (HSo.out _ a5 c5 hb5 hown5).mono ?_); rintro e w7 ⟨a7, c7, rfl, hI7, hb7'⟩; have hb7 : Below Y.heap.size Y w7 := Below.next hb5 hb7'; have Hr2 := Lib.hid (HIz.out w7 a7 c7 hb7 hI7); clear hI7))
                  | (go_at_call 28; ((with_reducible refine (Hr2.out _ (by first | exact Below.refl _ _ | assumption)).mono ?_); rintro e w8 ⟨rfl, hb8'⟩; have hb8 : Below Y.heap.size Y w8 := Below.next hb7 hb8')))
              all_goals (go_wp2_with fail; go_meet; exact ⟨rfl, rfl, hb8⟩)
            obtain ⟨rfl, rfl, hb9⟩ := hcut
            generalize wc = V at *
            have hF := Below.next HX.out.2 hb9
            go_wp2_with fail
            go_roundw
            case rel => exact ⟨k + 1, by omega, by go_num, hF⟩
            case measure => simp [intOf] <;> omega
    · obtain rfl : k = n := by omega
      have hF := Below.next HbW.out hbWr
      go_wp2_with fail
      go_ret
      exact ⟨rfl, hF⟩
end

/- The arguments, opened: lists of bytes. -/
section
open Go.ChangeShapes Go.WideShapes Go.ChangeAt Go.RowKit

section
variable {H : Type} {enc : TypeId × Value → H} {W : World} {held : Bool} {b0 : Nat} {v : Value} {d : DataW H} {p : List MemPlace}
set_option maxRecDepth 100000 in
theorem arg_bytes (hv : Value.okWide Tryz.prog W .any b0 48 v) (h : DataW.Trod enc Tryz.prog W 0 (fun _ => true) held 48 v d p) : ∃ a n c l, v = .slice a n c ∧ U8s W a n l := by
  obtain ⟨a, n, c, rfl⟩ := okWide_slice Tryz.underlying48 hv
  obtain ⟨fuel, hf⟩ := h
  rcases open_ints Tryz.underlying48 Tryz.underlying5 (by kernel_rfl) hf with ⟨hcs, _⟩ | ⟨a', len, cap, zs, hcs, _, hl, hm, hz, _, hcell, hwf⟩
  · simp [Value.cells] at hcs
    obtain ⟨rfl, rfl, rfl⟩ := hcs
    exact ⟨none, 0, 0, [], rfl, rfl, fun h0 => by omega, by unfold maxLen; omega, fun i hi => by omega, fun i hi => by omega⟩
  · simp [Value.cells] at hcs
    obtain ⟨rfl, rfl, rfl⟩ := hcs
    simp only [if_true] at hz
    refine ⟨some a', n, c, zs.take n, rfl, by simp; omega, fun h0 => ?_, by omega, fun i hi => ?_, fun i hi => ?_⟩
    · exact congrArg some (plain_of (hcell 0 (by omega)))
    · rw [nth_take_getD _ _ _ hi]
      exact add_cell (hcell i (by omega))
    · have h2 := hwf (nth (zs.take n) i) (by
        have : nth (zs.take n) i ∈ zs.take n := nth_mem (by simp; omega)
        exact List.mem_of_mem_take this)
      simp [Lit.wf, IntKind.min, IntKind.max, IntKind.signed, IntKind.bits] at h2
      omega
end
end

/- InfosetMatroid: the statement. -/
section
open Go.ChangeShapes Go.WideShapes Go.ChangeAt Go.RowKit

set_option maxRecDepth 100000 in
theorem infMatroid_lifted (os : Os) (started : os.Started) (H : Type) (enc : TypeId × Value → H) :
    ReturnsInHanded {} Tryz.checked os 7 .any (Rows.infosetMatroidSpec.pre6 enc Tryz.prog Tryz.f7 Rows.infosetMatroidRow.domain false) (Rows.infosetMatroidSpec.post enc Tryz.prog Tryz.f7 false true false false) := by
  refine returnsInHanded_of_change (C := Tryz.checked) Tryz.own started (by kernel_rfl) Tryz.func7
    (ChangeSpec.witness6 (enc := enc) (C := Tryz.checked) false ⟨#[], #[.agg #[.int .i64 0, .int .i64 0, .slice none 0 0, .int .i64 0, .slice none 0 0], .slice none 0 0, .slice none 0 0], []⟩ 8 (by kernel_rfl) (by kernel_rfl) (by kernel_rfl) (by kernel_rfl)) ?_
  intro W base args ds gs before hval0 hW hcnd _
  have hval : ∀ (j : Nat) t v, Tryz.f7.params[j]? = some t → args[j]? = some v → Value.okWide Tryz.prog W .any base t v := hval0
  have hW' := hW
  obtain ⟨p, q, hA0, hV, rfl, hfz, hnd⟩ := hW
  have hA : DataW.TrodAll enc Tryz.prog W 0 (fun _ => true) true Tryz.f7.params.toList args.toList ds p := hA0
  rw [Tryz.params7] at hA hval
  obtain ⟨v0, vs0, d0, ds0, p0, q0, hargs, rfl, rfl, h0, r0⟩ := trodAll_cons hA
  obtain ⟨v1, vs1, d1, ds1, p1, q1, rfl, rfl, rfl, h1, r1⟩ := trodAll_cons r0
  obtain ⟨v2, vs2, d2, ds2, p2, q2, rfl, rfl, rfl, h2, r2⟩ := trodAll_cons r1
  obtain ⟨rfl, rfl, rfl⟩ := trodAll_nil r2
  obtain rfl : args = #[v0, v1, v2] := by cases args; simp_all
  obtain ⟨rfl, rfl⟩ := trodVars_none hV
  have k0 := h0
  have k1 := h1
  have k2 := h2
  have lt0 : ∀ x ∈ p0, x.block < W.heap.size := by obtain ⟨m, hm⟩ := k0; exact DataW.trod_lt m _ _ _ hm
  have lt1 : ∀ x ∈ p1, x.block < W.heap.size := by obtain ⟨m, hm⟩ := k1; exact DataW.trod_lt m _ _ _ hm
  have lt2 : ∀ x ∈ p2, x.block < W.heap.size := by obtain ⟨m, hm⟩ := k2; exact DataW.trod_lt m _ _ _ hm
  obtain ⟨P, M, am, mn, cm, mod, N, a, n, c, L, rfl, hI0, hM0⟩ := arg_code (hval 0 _ v0 rfl rfl) h0
  obtain ⟨a1x, n1x, c1x, Q1, rfl, hQ1⟩ := arg_bytes (hval 1 _ v1 rfl rfl) h1
  obtain ⟨a2x, n2x, c2x, Q2, rfl, hQ2⟩ := arg_bytes (hval 2 _ v2 rfl rfl) h2
  clear hA0 hval0
  refine (infMatroid_any P M am mn cm mod N a n c L a1x n1x c1x Q1 a2x n2x c2x Q2 W hI0 hM0 hQ1 hQ2).mono fun e W' ⟨he, bel⟩ => ?_
  subst he
  exact ⟨_, rfl, _, _, _, [], _, [], hW', trodAll_mk1 (shut_bool Tryz.underlying4 _), (trodAll_cons_mk (Below.trod Tryz.laid (by kernel_rfl) (of_decide_eq_true (by kernel_rfl)) k0 bel lt0) (trodAll_cons_mk (Below.trod Tryz.laid (by kernel_rfl) (of_decide_eq_true (by kernel_rfl)) k1 bel lt1) (trodAll_cons_mk (Below.trod Tryz.laid (by kernel_rfl) (of_decide_eq_true (by kernel_rfl)) k2 bel lt2) trodAll_mk0))), rfl, bel.frame _, fun h => by cases h⟩

theorem infMatroid_over : Rows.infosetMatroidRow.holds Tryz.pinned (OpenSpec.ofChange Rows.infosetMatroidSpec) :=
  OpenClaim.holds_of_wide 7 Tryz.f7 rfl rfl rfl rfl rfl rfl rfl ⟨rfl, rfl, rfl, rfl, rfl⟩ rfl rfl rfl rfl rfl (by kernel_rfl) Tryz.func7 (by kernel_rfl)
    (of_decide_eq_true (by kernel_rfl)) (by unfold Func.isWrapper; first | (rw [if_pos (by decide +kernel)]; kernel_rfl) | (rw [if_neg (by decide +kernel)]; exact ⟨rfl, rfl⟩))
    (fun os started H enc _ => infMatroid_lifted os started H enc)

theorem infMatroid_holds : Rows.InfosetMatroidSaid := infMatroid_over
#print axioms infMatroid_holds
end

end Go.Proofs.YtakmnncmeefceaaGreat
