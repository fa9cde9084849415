/- InfosetDual: the statement. -/
import Derived.Test.YtakmnncmeefceaaGreatH4
import Derived.Test.YtakmnncmeefceaaGreatG11
import Derived.Test.YtakmnncmeefceaaGreatG20
import Derived.Test.YtakmnncmeefceaaGreatG27
import Derived.Test.YtakmnncmeefceaaGreatG25
import Derived.Test.YtakmnncmeefceaaGreatG24
import Derived.Test.YtakmnncmeefceaaGreatG30
import Derived.Test.YtakmnncmeefceaaGreatG29
import Derived.Test.YtakmnncmeefceaaGreatRows
namespace Go.Proofs.YtakmnncmeefceaaGreat
set_option linter.unusedVariables false
set_option linter.unusedSimpArgs false
set_option linter.unusedSectionVars false

/- Information sets are bases (plain laws): greedy sets are information sets, and exchanges exist. -/
section
section
variable {O : FOps} {El : Int → Prop} {m : Nat} {L : List (List Int)}
theorem rkQ_out (F : Fld O El) (hL : Rws El m L) {Q : List Int} {x : Int} (h : ¬ clV O El L.length (colS L) (gA Q) x.toNat) : rkQ O L (Q ++ [x]) = rkQ O L Q + 1 := by
  have h1 := rkQ_rk F hL (Q ++ [x])
  rw [gA_snoc] at h1
  exact h1.uniq (Rk.ind _ h (rkQ_rk F hL Q))
theorem rkQ_step (F : Fld O El) (hL : Rws El m L) (Q : List Int) (x : Int) : rkQ O L (Q ++ [x]) ≤ rkQ O L Q + 1 := by
  have h1 := rkQ_rk F hL (Q ++ [x])
  rw [gA_snoc] at h1
  exact (rk_step (rkQ_rk F hL Q) h1).1
theorem isB_iff {Q : List Int} : isB O L Q = true ↔ Q.length = L.length ∧ rkQ O L Q = Q.length := by
  unfold isB rkQ
  simp
theorem exch_ex (F : Fld O El) (hL : Rws El m L) {A B : List Int} {t : Nat} {i : Int} (hA : isB O L A = true) (hB : isB O L B = true) (hnA : A.Nodup) (ht : t < A.length) (hi : nth A t = i) (hiB : ¬ i ∈ B) : ∃ j ∈ B, exP O L A t j = true := by
  refine Classical.byContradiction fun hno => ?_
  have hno' : ∀ j ∈ B, exP O L A t j = false := fun j hj => by
    by_cases h : exP O L A t j = true
    · exact absurd ⟨j, hj, h⟩ hno
    · simpa using h
  obtain ⟨A', hA'⟩ : ∃ A', A.filter (fun x => decide (x ≠ i)) = A' := ⟨_, rfl⟩
  have hp : ∀ j, (A' ++ [j]).Perm (A.set t j) := fun j => by rw [← hA']; exact filt_perm hnA ht hi j
  have hset : A.set t i = A := by rw [← hi, nth_getElem ht]; exact List.set_getElem_self ht
  have hpA := hp i
  rw [hset] at hpA
  obtain ⟨ha1, ha2⟩ := isB_iff.1 hA
  obtain ⟨hb1, hb2⟩ := isB_iff.1 hB
  have hl : A'.length + 1 = L.length := by
    have := hpA.length_eq
    rw [List.length_append] at this
    simp at this; omega
  have hr1 := rkQ_step F hL A' i
  rw [rkQ_perm F hL hpA] at hr1
  have hr2 : rkQ O L A' ≤ A'.length := grS_len _ _ _
  have hcl : ∀ j ∈ B, clV O El L.length (colS L) (gA A') j.toNat := fun j hj => by
    by_cases hjA : j ∈ A
    · refine (col_clo F hL).mem _ _ (mem_gA.2 ⟨j, ?_, rfl⟩)
      rw [← hA', List.mem_filter]
      exact ⟨hjA, by simpa using fun e : j = i => hiB (e ▸ hj)⟩
    · refine Classical.byContradiction fun hc => ?_
      have h1 := hno' j hj
      unfold exP at h1
      simp only [hjA, not_false_eq_true, decide_true, Bool.true_and] at h1
      rw [← isB_perm F hL (hp j)] at h1
      have h2 := rkQ_out F hL hc
      have h3 : isB O L (A' ++ [j]) = true := isB_iff.2 ⟨by rw [List.length_append]; simp; omega, by rw [h2, List.length_append]; simp; omega⟩
      rw [h1] at h3; exact absurd h3 (by decide)
  have h4 := rkQ_span F hL (Q := B) (Q' := A') fun x hx => by
    obtain ⟨y, hy, rfl⟩ := mem_gA.1 hx
    exact hcl y hy
  omega
/-- the greedy choice over all positions -/
theorem gr_basis (F : Fld O El) (hL : Rws El m L) (hfull : Rk (clV O El L.length (colS L)) (List.range m) L.length) {Q : List Int} (hQ : InN m Q) (hall : ∀ x, x < m → (x : Int) ∈ Q) : isB O L (grS O L Q) = true := by
  have h1 : (grS O L Q).length = L.length := by
    refine (rkQ_rk F hL Q).same (col_clo F hL) hfull fun x => ?_
    rw [mem_gA, List.mem_range]
    constructor
    · rintro ⟨y, hy, rfl⟩
      obtain ⟨j, hj, rfl⟩ := List.mem_iff_getElem.1 hy
      have := hQ j hj
      rw [nth_getElem hj] at this
      omega
    · intro hx
      exact ⟨x, hall x hx, by simp⟩
  have h2 := (gr_out F hL Q Q.length).1
  exact isB_iff.2 ⟨h1, (rkQ_rk F hL (grS O L Q)).uniq h2⟩
end
/-- a code's rows are independent -/
theorem code_full {P M : Int} {mod : List Int} {m : Nat} {L : List (List Int)} (hE : codeE P M mod m L = 0) : Rk (clV (tblOf P M.toNat mod).ops (tblOf P M.toNat mod).El L.length (colS L)) (List.range m) L.length := by
  obtain ⟨N', e, hm1, hm64, F, hR⟩ := codeE_fld hE
  obtain rfl : m = N' := by omega
  have h6 := (spaceE_zero (codeE_zero hE).2.2.2).2
  rw [Int.toNat_natCast] at h6
  have hcan : canO (tblOf P M.toNat mod).ops m L = L := h6
  have h := canO_rk F hR
  rwa [hcan] at h
theorem grS_nodup {O : FOps} {L : List (List Int)} {Q : List Int} (h : Q.Nodup) : (grS O L Q).Nodup := by
  have key : ∀ k, k ≤ Q.length → (grTo O L Q k).2.Nodup ∧ ∀ x ∈ (grTo O L Q k).2, x ∈ Q.take k := fun k => by
    induction k with
    | zero => intro _; exact ⟨by simp [grTo], fun x hx => by simp [grTo] at hx⟩
    | succ k ih =>
      intro hk
      obtain ⟨h1, h2⟩ := ih (by omega)
      have e : Q.take (k + 1) = Q.take k ++ [nth Q k] := by rw [List.take_succ_eq_append_getElem (by omega), nth_getElem (by omega)]
      rw [grTo]
      split
      · have hn : ¬ nth Q k ∈ Q.take k := by
          have h3 : (Q.take (k + 1)).Nodup := (List.take_sublist _ _).nodup h
          rw [e, List.nodup_append] at h3
          intro hm
          exact h3.2.2 _ hm _ (by simp) rfl
        refine ⟨?_, fun x hx => ?_⟩
        · rw [List.nodup_append]
          exact ⟨h1, by simp, fun x hx y hy => by rw [List.mem_singleton] at hy; subst hy; exact fun e => hn (e ▸ h2 _ hx)⟩
        · rw [e, List.mem_append]
          rcases List.mem_append.1 hx with hx | hx
          · exact .inl (h2 x hx)
          · exact .inr hx
      · exact ⟨h1, fun x hx => by rw [e, List.mem_append]; exact .inl (h2 x hx)⟩
  exact (key _ (Nat.le_refl _)).1
/-- all positions, in some order -/
def PermN (m : Nat) (Q : List Int) : Prop := Q.Perm ((List.range m).map Int.ofNat)
theorem PermN.mem {m : Nat} {Q : List Int} (h : PermN m Q) {x : Int} : x ∈ Q ↔ ∃ j : Nat, j < m ∧ x = j := by
  rw [h.mem_iff, List.mem_map]
  constructor
  · rintro ⟨j, hj, rfl⟩; exact ⟨j, List.mem_range.1 hj, rfl⟩
  · rintro ⟨j, hj, rfl⟩; exact ⟨j, List.mem_range.2 hj, rfl⟩
theorem PermN.len {m : Nat} {Q : List Int} (h : PermN m Q) : Q.length = m := by rw [h.length_eq]; simp
theorem PermN.nodup {m : Nat} {Q : List Int} (h : PermN m Q) : Q.Nodup := by
  refine h.nodup_iff.2 ?_
  rw [List.nodup_iff_pairwise_ne, List.pairwise_map]
  exact List.nodup_range.imp fun h e => h (Int.ofNat.inj e)
theorem PermN.inN {m : Nat} {Q : List Int} (h : PermN m Q) : InN m Q := fun j hj => by
  obtain ⟨i, hi, e⟩ := h.mem.1 (nth_mem hj)
  omega
section
variable {P M : Int} {mod : List Int} {m : Nat} {L : List (List Int)}
theorem perm_greE (hE : codeE P M mod m L = 0) {Q : List Int} (hQ : PermN m Q) : greE P M mod m L Q = 0 := by
  have h : okSet m (sortL Q) = true := okSet_sort hQ.nodup fun x hx => by
    obtain ⟨j, hj, rfl⟩ := hQ.mem.1 hx
    omega
  rw [greE, rankE, if_pos hE, setsE_one, if_pos h]
/-- what the greedy choice over all positions is -/
theorem perm_set (hE : codeE P M mod m L = 0) {Q : List Int} (hQ : PermN m Q) :
    okSet m (sortL (grS (tblOf P M.toNat mod).ops L Q)) = true ∧ isB (tblOf P M.toNat mod).ops L (sortL (grS (tblOf P M.toNat mod).ops L Q)) = true := by
  obtain ⟨N', e, hm1, hm64, F, hR⟩ := codeE_fld hE
  obtain rfl : m = N' := by omega
  refine ⟨okSet_sort (grS_nodup hQ.nodup) fun x hx => ?_, ?_⟩
  · obtain ⟨j, hj, rfl⟩ := hQ.mem.1 (grTo_sub _ L Q _ (Nat.le_refl _) x hx)
    omega
  · rw [isB_perm F hR (sortL_perm _)]
    exact gr_basis F hR (code_full hE) hQ.inN fun x hx => hQ.mem.2 ⟨x, hx, rfl⟩
theorem set_rankE (hE : codeE P M mod m L = 0) {Q : List Int} (hQ : okSet m Q = true) : rankE P M mod m L Q = 0 := by rw [rankE, if_pos hE, setsE_one, if_pos hQ]
theorem set_isV (hE : codeE P M mod m L = 0) {Q : List Int} (hQ : okSet m Q = true) : isV P M mod m L Q = isB (tblOf P M.toNat mod).ops L Q := by
  unfold isV isB
  rw [set_rankE hE hQ]
  by_cases h1 : (grS (tblOf P M.toNat mod).ops L Q).length = Q.length
  · rw [h1]; simp
  · simp [h1]
/-- the exchange -/
theorem exV_ok (hE : codeE P M mod m L = 0) {A B : List Int} (hA : okSet m A = true) (hB : okSet m B = true) (bA : isB (tblOf P M.toNat mod).ops L A = true) (bB : isB (tblOf P M.toNat mod).ops L B = true) {i : Int} (hi : i ∈ A) (hiB : ¬ i ∈ B) :
    ∃ j, exV P M mod m L A B i = (j, 0) ∧ ¬ j ∈ A ∧ j ∈ B ∧ okSet m (sortL (A.filter (fun x => decide (x ≠ i)) ++ [j])) = true ∧ isB (tblOf P M.toNat mod).ops L (sortL (A.filter (fun x => decide (x ≠ i)) ++ [j])) = true := by
  obtain ⟨N', e, hm1, hm64, F, hR⟩ := codeE_fld hE
  obtain rfl : m = N' := by omega
  obtain ⟨t, hix, htl, hti⟩ := ix_in hi
  have htx : (A.findIdx fun x => x == i) = t := by rw [ixV, if_pos hi] at hix; omega
  have hn := okSet_nodup hA
  obtain ⟨j0, hj0, he0⟩ := exch_ex F hR bA bB hn htl hti hiB
  obtain ⟨j, hj⟩ : ∃ j, B.find? (exP (tblOf P M.toNat mod).ops L A t) = some j := by
    cases h : B.find? (exP (tblOf P M.toNat mod).ops L A t) with
    | some j => exact ⟨j, rfl⟩
    | none =>
      rw [List.find?_eq_none] at h
      exact absurd he0 (h j0 hj0)
  have hjp := List.find?_some hj
  have hjB := List.mem_of_find?_eq_some hj
  rw [exP_filt F hR hn htl hti] at hjp
  simp only [Bool.and_eq_true, decide_eq_true_eq] at hjp
  have hs : setsE (m : Int) [A, B] = 0 := by simp [setsE, hA, hB]
  have hk : rk2E P M mod m L A B = 0 := by rw [rk2E, if_pos hE, hs]
  refine ⟨j, ?_, hjp.1, hjB, okSet_sort ?_ fun x hx => ?_, hjp.2⟩
  · rw [exV, hk, bA, bB, htx, hj, if_neg (by decide), if_neg (by decide), if_neg (by simpa using hi)]
  · rw [List.nodup_append]
    refine ⟨(List.filter_sublist).nodup hn, by simp, fun x hx y hy => ?_⟩
    rw [List.mem_singleton] at hy; subst hy
    intro e; subst e
    exact hjp.1 ((List.mem_filter.1 hx).1)
  · rcases List.mem_append.1 hx with hx | hx
    · have hx := (List.mem_filter.1 hx).1
      obtain ⟨k, hk, rfl⟩ := List.mem_iff_getElem.1 hx
      have := okSet_at hA hk
      rw [nth_getElem hk] at this
      exact ⟨this.1, this.2.1⟩
    · rw [List.mem_singleton] at hx; subst hx
      obtain ⟨k, hk, e⟩ := List.mem_iff_getElem.1 hjB
      have := okSet_at hB hk
      rw [nth_getElem hk, e] at this
      exact ⟨this.1, this.2.1⟩
end
end

/- Lists of bytes; the walks of codewrightlaw25: member, perm. -/
section
open Go.RowKit

/-- a slice of bytes -/
structure U8s (w : World) (a : Option Addr) (n : Nat) (l : List Int) : Prop where
  len : l.length = n
  pl : Pl a n
  max : n ≤ maxLen
  cell : ∀ i, i < n → w.cell? ⟨ablk a, aoff a + i, none⟩ = some (.int .u8 (nth l i))
  bd : ∀ i, i < n → 0 ≤ nth l i ∧ nth l i ≤ 255
theorem U8s.keep {w w' : World} {a : Option Addr} {n : Nat} {l : List Int} (h : U8s w a n l) (hb : Below w.heap.size w w') : U8s w' a n l :=
  ⟨h.len, h.pl, h.max, fun i hi => (hb.cell (World.block_lt_of_cell? w _ (h.cell i hi))).trans (h.cell i hi), h.bd⟩

set_option maxRecDepth 100000 in
set_option maxHeartbeats 1600000 in
theorem member25_any (a : Option Addr) (n c : Nat) (l : List Int) (v : Int) (w : World) (h : Ints w a n l) :
    Calls Tryz.prog 37 #[.slice a n c, .int .i64 v] w fun e w' => e = .returned (.bool (decide (v ∈ l))) ∧ w' = w := by
  have Hl := Lib.hid h.len
  have hpl := h.pl
  have hmax := h.max
  unfold maxLen at hmax
  go_enter Tryz.func37, Tryz.ntmps37
  go_wp2_with fail
  go_loopw [9] (fun iv wr => ∃ k : Nat, k ≤ n ∧ iv = .int .i64 k ∧ Hid (inTo l v k = false) ∧ wr = w) (fun i _ => n - (intOf i).toNat)
  case atStart => exact ⟨0, Nat.zero_le _, rfl, by show _ = _; simp [inTo], rfl⟩
  case round =>
    obtain ⟨k, hk, rfl, hno, rfl⟩ := hrel
    by_cases hlt : k < n
    · have c1 := h.cell k hlt
      have Hs := Lib.hid (inTo_succ (l := l) v (show k < l.length by rw [Hl.out]; exact hlt))
      by_cases he : nth l k = v
      · have he' : (nth l k == v) = true := by rw [he]; simp
        have Hm : Hid (decide (v ∈ l) = true) := by show _ = _; rw [← he]; simpa using nth_mem (show k < l.length by rw [Hl.out]; exact hlt)
        clear he
        go_wp2_with fail
        go_ret
        exact ⟨ret_bool Hm.out.symm, rfl⟩
      · have he' : (nth l k == v) = false := by simpa using he
        have Hn2 : Hid (inTo l v (k + 1) = false) := by show _ = _; rw [Hs.out, hno.out, decide_eq_false he]; rfl
        clear he
        go_wp2_with fail
        go_roundw
        case rel => exact ⟨k + 1, by omega, by go_num, Hn2.out, by simp⟩
        case measure => simp [intOf] <;> omega
    · obtain rfl : k = n := by omega
      have Hm : Hid (decide (v ∈ l) = false) := by show _ = _; rw [← inTo_all v Hl.out]; exact hno.out
      go_wp2_with fail
      go_ret
      exact ⟨ret_bool Hm.out.symm, rfl⟩

theorem swap_perm (Q : List Int) {i j : Nat} (hi : i < Q.length) (hj : j < Q.length) : ((Q.set i (nth Q j)).set j (nth Q i)).Perm Q := by
  rw [List.perm_iff_count]
  intro x
  rw [List.count_set (by simpa using hj), List.count_set hi, List.getElem_set, nth_getElem hi, nth_getElem hj]
  have h1 : Q[i] = x → 0 < Q.count x := fun e => List.count_pos_iff.2 (e ▸ List.getElem_mem hi)
  by_cases e : i = j
  · subst e
    by_cases a : Q[i] = x
    · have := h1 a; simp [a]; omega
    · simp [a]
  · by_cases a : Q[i] = x
    · have := h1 a
      by_cases b : Q[j] = x <;> simp [a, b, e] <;> omega
    · by_cases b : Q[j] = x <;> simp [a, b, e]
def idsTo (m : Nat) : List Int := (List.range m).map Int.ofNat
theorem idsTo_succ (m : Nat) : idsTo (m + 1) = idsTo m ++ [(m : Int)] := by unfold idsTo; rw [List.range_succ, List.map_append]; rfl
theorem idsTo_len (m : Nat) : (idsTo m).length = m := by simp [idsTo]

set_option maxRecDepth 100000 in
set_option maxHeartbeats 3200000 in
theorem perm25_any (a : Option Addr) (n c : Nat) (l : List Int) (m : Nat) (w : World) (h : U8s w a n l) (hm : m ≤ 1000) :
    Calls Tryz.prog 36 #[.slice a n c, .int .i64 m] w fun e w' => Below w.heap.size w w' ∧ ∃ a1 c1 Q, e = .returned (.slice a1 m c1) ∧ Ints w' a1 m Q ∧ PermN m Q := by
  have hpl := h.pl
  have hmax := h.max
  unfold maxLen at hmax
  go_enter Tryz.func36, Tryz.ntmps36
  go_wp2_with fail
  go_loopw [5, 10] (fun ov iv wr => ∃ (k : Nat) (a1 : Option Addr) (c1 : Nat), k ≤ m ∧ iv = .int .i64 k ∧ ov = .slice a1 k c1 ∧ wr.ownsRow w.heap.size 3 1 (.slice a1 k c1) k ((idsTo k).map (Value.int .i64)) ∧ Below w.heap.size w wr) (fun _ iv _ => m - (intOf iv).toNat)
  case atStart => exact ⟨0, none, 0, Nat.zero_le _, rfl, rfl, own_none, Below.refl _ _⟩
  case round =>
    obtain ⟨k, a1, c1, hk, rfl, rfl, hown, hbr⟩ := hrel
    by_cases hlt : k < m
    · have Hs := Lib.hid (idsTo_succ k)
      have hsz := hbr.size
      have hcn := cell_new wr (.int .i64 k) 3
      go_wp2_with (at_builtin; refine wpList_push rfl _ _ 22 3 rfl (.int .i64 0) 8 Tryz.underlying22 infoInt rfl w.heap.size a1 k c1 _ rfl (hown.alloc _) ⟨wr.heap.size, 0, none⟩ 1 (.int .i64 k) rfl hcn rfl (by omega) (by unfold maxLen; omega) (by simp; omega) ?_; intro a5 c5 w5 hown5 hgr5 hap5)
      go_roundw
      case rel => exact ⟨k + 1, a5, c5, by omega, by go_num, rfl, by rw [Hs.out]; simpa using hown5, Below.app (Below.allocN hbr _) (hown.alloc _) hgr5 (Nat.le_refl _) (Below.allocN hbr _).size⟩
      case measure => simp [intOf] <;> omega
    · obtain rfl : k = m := by omega
      generalize wr = X at *
      go_wp2_with fail
      go_loopw [20] (fun iv wr => ∃ (i : Nat) (Q : List Int), i ≤ k ∧ iv = .int .i64 i ∧ Hid (PermN k Q) ∧ wr.ownsRow w.heap.size 3 1 (.slice a1 k c1) k (Q.map (Value.int .i64)) ∧ Below w.heap.size w wr) (fun iv _ => k - (intOf iv).toNat)
      case atStart => exact ⟨0, idsTo k, Nat.zero_le _, rfl, List.Perm.refl _, hown, hbr⟩
      case round =>
        clear hown hbr
        obtain ⟨i, Q, hi, rfl, hQ, hown, hbr⟩ := hrel
        by_cases hlt2 : i < k
        · obtain ⟨hints, hmine⟩ := Ints.own hown
          have hpl1 := hints.pl
          have HQl := Lib.hid hints.len
          have hj : ∃ j : Nat, j < k ∧ ∀ (hn : i < n), (i : Int) + nth l i % ((k : Int) - i) = j := by
            by_cases hn : i < n
            · have hb := h.bd i hn
              have h1 := Int.emod_nonneg (nth l i) (show ((k : Int) - i) ≠ 0 by omega)
              have h2 := Int.emod_lt_of_pos (nth l i) (show 0 < ((k : Int) - i) by omega)
              exact ⟨((i : Int) + nth l i % ((k : Int) - i)).toNat, by omega, fun _ => by omega⟩
            · exact ⟨i, hlt2, fun hn' => absurd hn' hn⟩
          obtain ⟨j, hjk, hje⟩ := hj
          have key : ∀ j : Nat, j < k → ∃ V : World, V = (wr.setCell ⟨ablk a1, aoff a1 + i, none⟩ (.int .i64 (nth Q j))).setCell ⟨ablk a1, aoff a1 + j, none⟩ (.int .i64 (nth Q i)) ∧ V.ownsRow w.heap.size 3 1 (.slice a1 k c1) k (((Q.set i (nth Q j)).set j (nth Q i)).map (Value.int .i64)) ∧ Below w.heap.size w V := fun j hj => by
            have o1 := own_set (own_set hown i hlt2 (.int .i64 (nth Q j))) j hj (.int .i64 (nth Q i))
            rw [← List.map_set, ← List.map_set] at o1
            have hB := (hmine (by omega)).1
            exact ⟨_, rfl, o1, (hbr.setCell (p := ⟨ablk a1, aoff a1 + i, none⟩) hB (.int .i64 (nth Q j))).setCell (p := ⟨ablk a1, aoff a1 + j, none⟩) hB (.int .i64 (nth Q i))⟩
          have Hkey := Lib.hid key
          have ci := hints.cell i hlt2
          have fi := (hmine (by omega)).2 i hlt2
          have Hown := Lib.hid (And.intro hown hbr)
          have hl2 : (i : Int) < k := by omega
          by_cases hn : i < n
          · have cl := (h.keep hbr).cell i hn
            have hb := h.bd i hn
            have hje := hje hn
            have cj := hints.cell j hjk
            have fj := (hmine (by omega)).2 j hjk
            have hjk2 : (j : Int) < k := by omega
            have kw1 : IntKind.i64.wrap ((k : Int) - i) = (k : Int) - i := IntWalk.i64_in _ (by omega)
            have kw2 : IntKind.i64.wrap (nth l i) = nth l i := IntWalk.i64_in _ (by omega)
            have kr : (nth l i).tmod ((k : Int) - i) = nth l i % ((k : Int) - i) := IntWalk.rem_in _ _ (by omega)
            have hk0 : ((k : Int) - i) ≠ 0 := by omega
            have hk0' : (((k : Int) - i) == 0) = false := by simp; omega
            obtain ⟨r, hr⟩ : ∃ r, nth l i % ((k : Int) - i) = r := ⟨_, rfl⟩
            rw [hr] at kr hje
            have kw3 : IntKind.i64.wrap r = r := IntWalk.i64_in _ (by omega)
            have kw4 : IntKind.i64.wrap ((i : Int) + r) = j := by rw [hje]; exact IntWalk.i64_in _ (by omega)
            have Hje := Lib.hid hje
            by_cases hij : j = i
            · subst hij
              obtain ⟨V, hV, oV, bV⟩ := Hkey.out j hjk
              have HV := Lib.hid hV
              have HoV := Lib.hid (And.intro oV bV)
              have k3 := World.cell?_setCell_same wr _ (.int .i64 (nth Q j)) ci
              have hP : Hid (PermN k ((Q.set j (nth Q j)).set j (nth Q j))) := (swap_perm Q (by rw [HQl.out]; exact hjk) (by rw [HQl.out]; exact hjk)).trans hQ.out
              clear hV oV bV hints hmine key Hkey hje hr
              go_wp2_with fail
              go_region
              go_wp2_with fail
              go_roundw
              case rel => exact ⟨j + 1, _, by omega, by go_num, hP.out, by rw [← HV.out]; exact own_keep HoV.out.1 (Below.refl _ _).drew, by rw [← HV.out]; exact Below.next HoV.out.2 (Below.refl _ _).drew⟩
              case measure => simp [intOf] <;> omega
            · obtain ⟨V, hV, oV, bV⟩ := Hkey.out j hjk
              have HV := Lib.hid hV
              have HoV := Lib.hid (And.intro oV bV)
              have k3 : (wr.setCell ⟨ablk a1, aoff a1 + i, none⟩ (.int .i64 (nth Q j))).cell? ⟨ablk a1, aoff a1 + j, none⟩ = some (.int .i64 (nth Q j)) := by
                rw [World.cell?_setCell_other _ _ _ _ (by simp <;> omega)]; exact cj
              have hP : Hid (PermN k ((Q.set i (nth Q j)).set j (nth Q i))) := (swap_perm Q (by rw [HQl.out]; exact hlt2) (by rw [HQl.out]; exact hjk)).trans hQ.out
              clear hV oV bV hints hmine key Hkey hje hr
              go_wp2_with fail
              go_region
              go_wp2_with fail
              go_roundw
              case rel => exact ⟨i + 1, _, by omega, by go_num, hP.out, by rw [← HV.out]; exact own_keep HoV.out.1 (Below.refl _ _).drew, by rw [← HV.out]; exact Below.next HoV.out.2 (Below.refl _ _).drew⟩
              case measure => simp [intOf] <;> omega
          · obtain ⟨V, hV, oV, bV⟩ := Hkey.out i hlt2
            have HV := Lib.hid hV
            have HoV := Lib.hid (And.intro oV bV)
            have k3 := World.cell?_setCell_same wr _ (.int .i64 (nth Q i)) ci
            have hP : Hid (PermN k ((Q.set i (nth Q i)).set i (nth Q i))) := (swap_perm Q (by rw [HQl.out]; exact hlt2) (by rw [HQl.out]; exact hlt2)).trans hQ.out
            clear hV oV bV hints hmine key Hkey hje
            go_wp2_with fail
            go_region
            go_wp2_with fail
            go_roundw
            case rel => exact ⟨i + 1, _, by omega, by go_num, hP.out, by rw [← HV.out]; exact own_keep HoV.out.1 (Below.refl _ _).drew, by rw [← HV.out]; exact Below.next HoV.out.2 (Below.refl _ _).drew⟩
            case measure => simp [intOf] <;> omega
        · obtain rfl : i = k := by omega
          have hF := Lib.hid (And.intro hown hbr)
          clear hown hbr
          go_wp2_with fail
          go_ret
          exact ⟨hF.out.2, a1, c1, Q, rfl, (Ints.own hF.out.1).1, hQ.out⟩
end

/- The walk of code.Dual. -/
section
open Go.RowKit

def DualPost (P M : Int) (mod : List Int) (m : Nat) (L : List (List Int)) (w : World) (e : Ending) (w' : World) : Prop :=
  ∃ a1 c1 a2 c2, e = .returned (.tuple #[.agg #[.int .i64 P, .int .i64 M, .slice a1 mod.length c1, .int .i64 m, .slice a2 (dualL (tblOf P M.toNat mod) L m).length c2], .int .i64 0]) ∧ IntsN w.heap.size w' a1 mod.length mod ∧
    MatN w.heap.size w' a2 (dualL (tblOf P M.toNat mod) L m).length (dualL (tblOf P M.toNat mod) L m) ∧ Below w.heap.size w w'

theorem set_two {w : World} {g : Nat} {x y u v : Value} (h0 : w.cell? ⟨g, 0, none⟩ = some x) (h1 : w.cell? ⟨g, 1, none⟩ = some y) :
    ((w.setCell ⟨g, 0, none⟩ u).setCell ⟨g, 1, none⟩ v).cell? ⟨g, 0, none⟩ = some u ∧ ((w.setCell ⟨g, 0, none⟩ u).setCell ⟨g, 1, none⟩ v).cell? ⟨g, 1, none⟩ = some v := by
  have e1 : (w.setCell ⟨g, 0, none⟩ u).cell? ⟨g, 0, none⟩ = some u := World.cell?_setCell_same w _ _ h0
  have e2 : (w.setCell ⟨g, 0, none⟩ u).cell? ⟨g, 1, none⟩ = some y := by rw [World.cell?_setCell_other _ _ _ _ (by simp)]; exact h1
  exact ⟨by rw [World.cell?_setCell_other _ _ _ _ (by simp)]; exact e1, World.cell?_setCell_same _ _ _ e2⟩

set_option maxRecDepth 100000 in
set_option maxHeartbeats 4000000 in
theorem dual_any (P M : Int) (am : Option Addr) (mn cm : Nat) (mod : List Int) (m : Nat) (a : Option Addr) (n c : Nat) (L : List (List Int)) (w : World) (hmod : Ints w am mn mod) (hi : Mat w a n L) (hE : codeE P M mod m L = 0) (hmn : mn ≤ 1000000) :
    Calls Tryz.prog 49 #[.agg #[.int .i64 P, .int .i64 M, .slice am mn cm, .int .i64 m, .slice a n c]] w (DualPost P M mod m L w) := by
  go_enter Tryz.func49, Tryz.ntmps49
  go_wp2_with fail
  obtain ⟨W, hW⟩ : ∃ W : World, W = (w.alloc (.cells #[.int .i64 P, .int .i64 M, .slice am mn cm, .int .i64 m, .slice a n c] 27)).alloc (.cells #[.int .i64 0, .int .i64 0, .slice none 0 0, .int .i64 0, .slice none 0 0] 27) := ⟨_, rfl⟩
  rw [← hW]
  have hbW : Below w.heap.size w W := by rw [hW]; exact below2 _ _ _
  have hsW : W.heap.size = w.heap.size + 2 := by rw [hW]; simp
  have x0 : Box W w.heap.size [.int .i64 P, .int .i64 M, .slice am mn cm, .int .i64 m, .slice a n c] := by rw [hW]; exact (Box.new _ _ _ rfl).alloc _
  have z0 : Box W (w.heap.size + 1) [.int .i64 0, .int .i64 0, .slice none 0 0, .int .i64 0, .slice none 0 0] := by rw [hW]; exact Box.new _ _ _ (by simp)
  clear hW
  refine (codeCheck_any P M am mn cm mod m a n c L W (hmod.keep hbW) (hi.keep hbW)).mono ?_
  rintro e w1 ⟨rfl, hb1⟩
  have hbw1 := Below.next hbW hb1
  have HK : Hid (∀ V, Below w1.heap.size w1 V → Calls Tryz.prog 97 #[.agg #[.int .i64 P, .int .i64 M, .slice am mn cm], .agg #[.int .i64 m, .slice a n c]] V (KerPost (tblOf P M.toNat mod) L m V)) := fun V hV =>
    kernel_any P M am mn cm mod m a n c L V (hmod.keep (Below.next hbw1 hV)) (hi.keep (Below.next hbw1 hV)) hE
  have HO : Hid (∀ V a5 k5 c5, Below w1.heap.size w1 V → Calls Tryz.prog 96 #[.agg #[.int .i64 P, .int .i64 M, .slice am mn cm], .agg #[.int .i64 m, .slice a5 k5 c5], .int .i64 0] V (OfPost P M mod m a5 k5 c5 V)) := fun V a5 k5 c5 hV =>
    of_any P M am mn cm mod m a5 k5 c5 V (hmod.keep (Below.next hbw1 hV)) hmn
  have HPost : Hid (∀ a1 c1 a2 c2 w', IntsN w.heap.size w' a1 mod.length mod → MatN w.heap.size w' a2 (dualL (tblOf P M.toNat mod) L m).length (dualL (tblOf P M.toNat mod) L m) → Below w.heap.size w w' →
      DualPost P M mod m L w (.returned (.tuple #[.agg #[.int .i64 P, .int .i64 M, .slice a1 mod.length c1, .int .i64 m, .slice a2 (dualL (tblOf P M.toNat mod) L m).length c2], .int .i64 0])) w') := fun a1 c1 a2 c2 w' h1 h2 h3 => ⟨a1, c1, a2, c2, rfl, h1, h2, h3⟩
  rw [hE]
  unfold KerPost at HK
  obtain ⟨KM, hKM⟩ : ∃ KM, dualL (tblOf P M.toNat mod) L m = KM := ⟨_, rfl⟩
  rw [hKM] at HK HPost
  have hS : ∀ V, Below w1.heap.size w1 V → V.cell? ⟨w.heap.size, 0, none⟩ = some (.int .i64 P) ∧ V.cell? ⟨w.heap.size, 1, none⟩ = some (.int .i64 M) ∧ V.cell? ⟨w.heap.size, 2, none⟩ = some (.slice am mn cm) ∧ V.cell? ⟨w.heap.size, 3, none⟩ = some (.int .i64 m) ∧ V.cell? ⟨w.heap.size, 4, none⟩ = some (.slice a n c) ∧
      Box V (w.heap.size + 1) [.int .i64 0, .int .i64 0, .slice none 0 0, .int .i64 0, .slice none 0 0] := fun V hV => by
    have x1 := (x0.keep hb1).keep hV
    exact ⟨x1.cell 0 rfl, x1.cell 1 rfl, x1.cell 2 rfl, x1.cell 3 rfl, x1.cell 4 rfl, (z0.keep hb1).keep hV⟩
  have HS := Lib.hid hS
  have Hbw1 := Lib.hid hbw1
  have HsW : Hid (w.heap.size + 2 ≤ w1.heap.size) := by show _ ≤ _; rw [← hsW]; exact hb1.size
  obtain ⟨c0, c1, c2, c3, c4, _⟩ := HS.out w1 (Below.refl _ _)
  obtain ⟨q, hq⟩ : ∃ q, KM.length = q := ⟨_, rfl⟩
  rw [hq] at HK HPost
  clear hE hKM hS x0 z0 hbW hsW hmod hi hb1 hbw1 hq
  go_wp2_with fail
  go_cut [5, 6] (fun v5 v6 wx => ∃ g a5 c5, v5 = .pointer (some ⟨g, 0, none⟩) ∧ v6 = .int .i64 0 ∧ wx.cell? ⟨g, 0, none⟩ = some (.int .i64 m) ∧ wx.cell? ⟨g, 1, none⟩ = some (.slice a5 q c5) ∧ MatN w1.heap.size wx a5 q KM ∧ Below w1.heap.size w1 wx)
  case first =>
    obtain ⟨b0, b1, b2, b3, b4, _⟩ := HS.out (w1.alloc (.cells #[.int .i64 0, .slice none 0 0] 62)) (below1 _ _)
    go_region_law ((first
      | (go_simp; go_at_call 70; ((with_reducible refine (gen_any P M am mn cm m a n c _).mono ?_); rintro e w4 ⟨rfl, hb4⟩; have hb04 : Below w1.heap.size w1 w4 := (by first | exact Below.next (Below.refl _ _).drew hb4 | exact Below.next (below1 _ (.cells #[.int .i64 0, .slice none 0 0] 62)).drew hb4 | exact Below.next (Below.allocN (Below.refl _ _).drew _) hb4); obtain ⟨c0, c1, c2, c3, c4, _⟩ := HS.out w4 hb04; obtain ⟨d0, d1, d2, d3, d4, _⟩ := HS.out (w4.alloc (.cells #[.int .i64 0, .slice none 0 0] 62)) (Below.allocN hb04 _); (first | (have gz0 := cell_keep hb4 (cell_alloc_at (g := w1.heap.size) w1 #[.int .i64 0, .slice none 0 0] 62 rfl 0); have gz1 := cell_keep hb4 (cell_alloc_at (g := w1.heap.size) w1 #[.int .i64 0, .slice none 0 0] 62 rfl 1); have gf0 := frozen_keep hb4 (by simp) (frozen_at (g := w1.heap.size) w1 #[.int .i64 0, .slice none 0 0] 62 rfl 0); have gf1 := frozen_keep hb4 (by simp) (frozen_at (g := w1.heap.size) w1 #[.int .i64 0, .slice none 0 0] 62 rfl 1)) | skip)))
      | (go_simp; go_at_call 97; ((with_reducible refine (HK.out _ (by first | exact hb04 | exact Below.allocN hb04 _)).mono ?_); rintro e w5 ⟨a5, c5, rfl, hN5, hb5⟩; have hb05 : Below w1.heap.size w1 w5 := (by first | exact Below.next hb04 hb5 | exact Below.next (Below.allocN hb04 _) hb5); (first | (have gy0 := cell_keep hb5 gz0; have gy1 := cell_keep hb5 gz1; have gh0 := frozen_keep hb5 (World.block_lt_of_cell? _ _ gz0) gf0; have gh1 := frozen_keep hb5 (World.block_lt_of_cell? _ _ gz1) gf1) | (have gy0 := cell_keep hb5 (cell_alloc_at w4 #[.int .i64 0, .slice none 0 0] 62 rfl 0); have gy1 := cell_keep hb5 (cell_alloc_at w4 #[.int .i64 0, .slice none 0 0] 62 rfl 1); have gh0 := frozen_keep hb5 (by simp) (frozen_at w4 #[.int .i64 0, .slice none 0 0] 62 rfl 0); have gh1 := frozen_keep hb5 (by simp) (frozen_at w4 #[.int .i64 0, .slice none 0 0] 62 rfl 1)) | skip)))))
    all_goals (go_wp2_with fail; go_meet)
    all_goals (first
      | exact ⟨w5.heap.size, a5, c5, rfl, rfl, cell_alloc_at _ _ _ rfl 0, cell_alloc_at _ _ _ rfl 1, (hN5.keep (below1 _ _)).mono (by first | exact hb04.size | exact (Below.allocN hb04 _).size), Below.allocN hb05 _⟩
      | exact ⟨w1.heap.size, a5, c5, rfl, rfl, (set_two gy0 gy1).1, (set_two gy0 gy1).2, ((hN5.setCell (p := ⟨w1.heap.size, 0, none⟩) (World.block_lt_of_cell? _ _ gz0) _).setCell (p := ⟨w1.heap.size, 1, none⟩) (World.block_lt_of_cell? _ _ gz1) _).mono hb04.size, (hb05.setCell (p := ⟨w1.heap.size, 0, none⟩) (Nat.le_refl _) _).setCell (p := ⟨w1.heap.size, 1, none⟩) (Nat.le_refl _) _⟩
      | exact ⟨w4.heap.size, a5, c5, rfl, rfl, (set_two gy0 gy1).1, (set_two gy0 gy1).2, ((hN5.setCell (p := ⟨w4.heap.size, 0, none⟩) (by simp) _).setCell (p := ⟨w4.heap.size, 1, none⟩) (by simp) _).mono (Below.allocN hb04 _).size, (hb05.setCell (p := ⟨w4.heap.size, 0, none⟩) hb04.size _).setCell (p := ⟨w4.heap.size, 1, none⟩) hb04.size _⟩)
  obtain ⟨g, a5, c5, rfl, rfl, g0, g1, hN5, hb5⟩ := hcut
  generalize wc = V at *
  obtain ⟨c0, c1, c2, c3, c4, zz⟩ := HS.out V hb5
  have HOV := Lib.hid (HO.out V a5 q c5 hb5)
  clear HK HO
  go_wp2_with fail
  refine HOV.out.mono ?_
  rintro e w6 ⟨a6, c6, rfl, hN6, hb6⟩
  obtain ⟨_, _, _, _, _, zz6⟩ := HS.out w6 (Below.next hb5 hb6)
  have z0 := zz6.cell 0 rfl
  have z1 := zz6.cell 1 rfl
  have z2 := zz6.cell 2 rfl
  have z3 := zz6.cell 3 rfl
  have z4 := zz6.cell 4 rfl
  have f0 := zz6.frozen 0
  have f1 := zz6.frozen 1
  have f2 := zz6.frozen 2
  have f3 := zz6.frozen 3
  have f4 := zz6.frozen 4
  have hbF := Below.next Hbw1.out (Below.next hb5 hb6)
  have hs := HsW.out
  have hs2 := hb5.size
  have hM6 := hN5.keep hb6
  have hFin := HPost.out a6 c6 a5 c5 (((((w6.setCell ⟨w.heap.size + 1, 0, none⟩ (.int .i64 P)).setCell ⟨w.heap.size + 1, 1, none⟩ (.int .i64 M)).setCell ⟨w.heap.size + 1, 2, none⟩ (.slice a6 mod.length c6)).setCell ⟨w.heap.size + 1, 3, none⟩ (.int .i64 m)).setCell ⟨w.heap.size + 1, 4, none⟩ (.slice a5 q c5))
    ((((((hN6.setCell (p := ⟨w.heap.size + 1, 0, none⟩) (by simp; omega) _).setCell (p := ⟨w.heap.size + 1, 1, none⟩) (by simp; omega) _).setCell (p := ⟨w.heap.size + 1, 2, none⟩) (by simp; omega) _).setCell (p := ⟨w.heap.size + 1, 3, none⟩) (by simp; omega) _).setCell (p := ⟨w.heap.size + 1, 4, none⟩) (by simp; omega) _).mono (by omega))
    ((((((hM6.setCell (p := ⟨w.heap.size + 1, 0, none⟩) (by simp; omega) _).setCell (p := ⟨w.heap.size + 1, 1, none⟩) (by simp; omega) _).setCell (p := ⟨w.heap.size + 1, 2, none⟩) (by simp; omega) _).setCell (p := ⟨w.heap.size + 1, 3, none⟩) (by simp; omega) _).setCell (p := ⟨w.heap.size + 1, 4, none⟩) (by simp; omega) _).mono (by omega))
    (((((hbF.setCell (p := ⟨w.heap.size + 1, 0, none⟩) (by simp) _).setCell (p := ⟨w.heap.size + 1, 1, none⟩) (by simp) _).setCell (p := ⟨w.heap.size + 1, 2, none⟩) (by simp) _).setCell (p := ⟨w.heap.size + 1, 3, none⟩) (by simp) _).setCell (p := ⟨w.heap.size + 1, 4, none⟩) (by simp) _)
  have HFin := Lib.hid hFin
  clear hFin hM6 hN5 hN6 HOV zz zz6
  go_wp2_with fail
  exact bodyPost_ret (v := .tuple #[.agg #[.int .i64 P, .int .i64 M, .slice a6 mod.length c6, .int .i64 m, .slice a5 q c5], .int .i64 0]) (by simp [results, Tryz.results49, go_sem, z0, z1, z2, z3, z4]) rfl HFin.out
end

/- The positions outside an information set are an information set of the dual code (plain law). -/
section
theorem dual_parts {P M : Int} {mod : List Int} {m : Nat} {L : List (List Int)} (hE : codeE P M mod m L = 0) :
    Rws (tblOf P M.toNat mod).El m (dualL (tblOf P M.toNat mod) L m) ∧ Orth (tblOf P M.toNat mod).ops m L (dualL (tblOf P M.toNat mod) L m) ∧ L.length + (dualL (tblOf P M.toNat mod) L m).length = m ∧
    Rk (clV (tblOf P M.toNat mod).ops (tblOf P M.toNat mod).El (dualL (tblOf P M.toNat mod) L m).length (colS (dualL (tblOf P M.toNat mod) L m))) (List.range m) (dualL (tblOf P M.toNat mod) L m).length := by
  obtain ⟨N', e, hm1, hm64, F, hR⟩ := codeE_fld hE
  obtain rfl : m = N' := by omega
  have h6 := (spaceE_zero (codeE_zero hE).2.2.2).2
  rw [Int.toNat_natCast] at h6
  have hcan : canO (tblOf P M.toNat mod).ops m L = L := h6
  obtain ⟨hPv, hLd⟩ := canO_piv F hR
  have hcl := canO_len F hR
  rw [hcan] at hPv hLd hcl
  have hK := kerL_rws F hR hPv hcl
  have hdl : dualL (tblOf P M.toNat mod) L m = canO (tblOf P M.toNat mod).ops m (kerL (tblOf P M.toNat mod).ops m L (elimTo (tblOf P M.toNat mod).ops L m).2 m) := by
    unfold dualL pivS
    rw [h6]
    rfl
  obtain ⟨k1, k2⟩ := ker_canon F hR hPv hLd hcl
  have hKR := canO_rws F hK
  have hrk := canO_rk F hK
  rw [← hdl] at k1 k2 hKR hrk
  exact ⟨hKR, k2, k1, hrk⟩
theorem gA_len (Q : List Int) : (gA Q).length = Q.length := by
  have hgl : ∀ k, (grL Q k).length = k := fun k => by
    induction k with
    | zero => rfl
    | succ k ih => rw [grL, List.length_cons, ih]
  exact hgl _
/-- the positions outside an information set are an information set of the dual code -/
theorem dual_bas {P M : Int} {mod : List Int} {m : Nat} {L : List (List Int)} (hE : codeE P M mod m L = 0) {A : List Int} (hA : okSet m A = true) (bA : isB (tblOf P M.toNat mod).ops L A = true) :
    okSet m (frTo false A m) = true ∧ isB (tblOf P M.toNat mod).ops (dualL (tblOf P M.toNat mod) L m) (frTo false A m) = true := by
  obtain ⟨N', e, hm1, hm64, F, hR⟩ := codeE_fld hE
  obtain rfl : m = N' := by omega
  obtain ⟨hKR, hO, hlm, hrk⟩ := dual_parts hE
  obtain ⟨ha1, ha2⟩ := isB_iff.1 bA
  have hfull := code_full hE
  have hp := frTo_pair false A m
  have hnd : (frTo false A m).Nodup := hp.imp fun h => by omega
  have hin : ∀ x ∈ frTo false A m, 0 ≤ x ∧ x < (m : Int) := fun x hx => by
    obtain ⟨j, hj, rfl, _⟩ := (mem_frTo m).1 hx
    omega
  have hAin : ∀ x ∈ A, 0 ≤ x ∧ x < (m : Int) := fun x hx => by
    obtain ⟨k, hk, rfl⟩ := List.mem_iff_getElem.1 hx
    have := okSet_at hA hk
    rw [nth_getElem hk] at this
    exact ⟨this.1, this.2.1⟩
  have hs : sortL (frTo false A m) = frTo false A m := (sortL_unique (hp.imp fun h => by omega) (List.Perm.refl _)).symm
  have hok := okSet_sort hnd hin
  rw [hs] at hok
  refine ⟨hok, ?_⟩
  have hlen := frTo_two A m
  rw [← used_sort (okSet_nodup hA) hAin, sortL_len] at hlen
  have h1 := dual_rk F hR hKR hO hlm hfull hrk (S := gA (frTo false A m)) (C := gA A) (fun x hx => by
    obtain ⟨y, hy, rfl⟩ := mem_gA.1 hx
    have := hin y hy
    omega) (fun x hx => by
    obtain ⟨y, hy, rfl⟩ := mem_gA.1 hx
    have := hAin y hy
    omega) (fun p hpm => by
    by_cases hpA : (p : Int) ∈ A
    · exact .inr (mem_gA.2 ⟨_, hpA, by simp⟩)
    · exact .inl (mem_gA.2 ⟨(p : Int), (mem_frTo m).2 ⟨p, hpm, rfl, by simpa using hpA⟩, by simp⟩)) (by rw [gA_len, gA_len]; exact hlen) (rkQ_rk F hR A) (rkQ_rk F hKR (frTo false A m))
  rw [gA_len, ha2] at h1
  exact isB_iff.2 ⟨by omega, by omega⟩
end

/- The walk of InfosetDual. -/
section
open Go.RowKit

set_option maxRecDepth 100000 in
set_option maxHeartbeats 16000000 in
theorem infDual_any (P M : Int) (am : Option Addr) (mn cm : Nat) (mod : List Int) (N : Int) (a : Option Addr) (n c : Nat) (L : List (List Int)) (ax : Option Addr) (ns cs : Nat) (Us : List Int) (w : World)
    (hmod : Ints w am mn mod) (hi : Mat w a n L) (hs : U8s w ax ns Us) :
    Calls Tryz.prog 11 #[.agg #[.int .i64 P, .int .i64 M, .slice am mn cm, .int .i64 N, .slice a n c], .slice ax ns cs] w fun e w' => e = .returned (.bool true) ∧ Below w.heap.size w w' := by
  have HF : Hid (∀ V, Below w.heap.size w V → Calls Tryz.prog 25 #[.agg #[.int .i64 P, .int .i64 M, .slice am mn cm, .int .i64 N, .slice a n c]] V (SomeBool V)) :=
    fun V hV => few25_any P M am mn cm N a n c L V (hi.keep hV)
  have HCk := Lib.hid (fun V (hV : Below w.heap.size w V) => rCheck_any P M am mn cm mod N a n c L V (hmod.keep hV) (hi.keep hV))
  have Hil := Lib.hid hi.len
  go_enter Tryz.func11, Tryz.ntmps11
  go_wp2_with fail
  obtain ⟨W, hW⟩ : ∃ W : World, W = w.alloc (.cells #[.int .i64 P, .int .i64 M, .slice am mn cm, .int .i64 N, .slice a n c] 27) := ⟨_, rfl⟩
  rw [← hW]
  have hbW : Below w.heap.size w W := by rw [hW]; exact below1 _ _
  have x0 : Box W w.heap.size [.int .i64 P, .int .i64 M, .slice am mn cm, .int .i64 N, .slice a n c] := by rw [hW]; exact Box.new _ _ _ rfl
  have HS : Hid (∀ V, Below W.heap.size W V → V.cell? ⟨w.heap.size, 0, none⟩ = some (.int .i64 P) ∧ V.cell? ⟨w.heap.size, 1, none⟩ = some (.int .i64 M) ∧ V.cell? ⟨w.heap.size, 2, none⟩ = some (.slice am mn cm) ∧ V.cell? ⟨w.heap.size, 3, none⟩ = some (.int .i64 N) ∧ V.cell? ⟨w.heap.size, 4, none⟩ = some (.slice a n c) ∧ Below W.heap.size W V) := fun V hV => by
    have x1 := x0.keep hV
    exact ⟨x1.cell 0 rfl, x1.cell 1 rfl, x1.cell 2 rfl, x1.cell 3 rfl, x1.cell 4 rfl, hV⟩
  have HbW := Lib.hid hbW
  clear hW x0 hbW
  refine (awake_any W).mono ?_
  rintro e w1 ⟨rfl, hb1⟩
  obtain ⟨c0, c1, c2, c3, c4, _⟩ := HS.out w1 hb1
  go_wp2_with fail
  refine (HF.out w1 (Below.next HbW.out hb1)).mono ?_
  rintro e w2 ⟨z, rfl, hb2⟩
  have hB2 := Below.next hb1 hb2
  clear c0 c1 c2 c3 c4 HF
  cases z
  · go_wp2_with fail
    refine (awake_any w2).mono ?_
    rintro e w3 ⟨rfl, hb3⟩
    have hF := Below.next HbW.out (Below.next hB2 hb3)
    go_wp2_with fail
    go_ret
    exact ⟨rfl, hF⟩
  obtain ⟨c0, c1, c2, c3, c4, _⟩ := HS.out w2 hB2
  have Hck := Lib.hid (HCk.out w2 (Below.next HbW.out hB2))
  go_wp2_with fail
  refine Hck.out.mono ?_
  rintro e w3 ⟨rfl, hb3⟩
  have hB3 := Below.next hB2 hb3
  clear c0 c1 c2 c3 c4 Hck HCk hb1 hb2
  by_cases hE : codeE P M mod N L = 0
  rotate_left
  · have hE2 : (codeE P M mod N L != 0) = true := by simpa using hE
    clear hE
    generalize codeE P M mod N L = er at *
    go_wp2_with fail
    refine (awake_any w3).mono ?_
    rintro e w4 ⟨rfl, hb4⟩
    have hF := Below.next HbW.out (Below.next hB3 hb4)
    go_wp2_with fail
    go_ret
    exact ⟨rfl, hF⟩
  obtain ⟨m, rfl, hm1, hm64, F, hR⟩ := codeE_fld hE
  have hn256 : n ≤ 256 := by rw [← Hil.out]; exact (codeE_rws hE).choose_spec.2.2.2.1
  rw [hE]
  have HPs : Hid (∀ V, Below w.heap.size w V → Calls Tryz.prog 36 #[.slice ax ns cs, .int .i64 m] V fun e w' => Below V.heap.size V w' ∧ ∃ a1 c1 Q, e = .returned (.slice a1 m c1) ∧ Ints w' a1 m Q ∧ PermN m Q) := fun V hV => perm25_any ax ns cs Us m V (hs.keep hV) (by omega)
  have HGr : Hid (∀ V aq cq Q, Below w.heap.size w V → Ints V aq m Q → PermN m Q → ∀ V2, Below V.heap.size V V2 → Calls Tryz.prog 30 #[.agg #[.int .i64 P, .int .i64 M, .slice am mn cm, .int .i64 m, .slice a n c], .slice aq m cq] V2 fun e w' =>
      Below V2.heap.size V2 w' ∧ ∃ a1 c1 S, e = .returned (.tuple #[.slice a1 n c1, .int .i64 0]) ∧ Ints w' a1 n S ∧ Hid (okSet m S = true ∧ isB (tblOf P M.toNat mod).ops L S = true)) := fun V aq cq Q hV hq hQ V2 hV2 => by
    have hb := Below.next hV hV2
    refine (infGreedy_any P M am mn cm mod m a n c L aq m cq Q V2 (hmod.keep hb) (hi.keep hb) (hq.keep hV2) (by omega)).mono ?_
    rintro e w' ⟨hbb, ⟨h0, _⟩ | ⟨_, a1, c1, rfl, ho⟩⟩
    · exact absurd (perm_greE hE hQ) h0
    · obtain ⟨p1, p2⟩ := perm_set hE hQ
      have hl : (grS (tblOf P M.toNat mod).ops L Q).length = n := by
        have h := (isB_iff.1 p2).1
        rw [sortL_len] at h
        rw [h]; exact Hil.out
      rw [hl] at ho ⊢
      exact ⟨hbb, a1, c1, _, rfl, (Ints.own ho).1, p1, p2⟩
  have hmn : mn ≤ 1000000 := by have h := mod_len (codeE_zero hE).1; rw [hmod.len] at h; omega
  have HDu : Hid (∀ V, Below w.heap.size w V → Calls Tryz.prog 49 #[.agg #[.int .i64 P, .int .i64 M, .slice am mn cm, .int .i64 m, .slice a n c]] V fun e w' =>
      ∃ a1 c1 a2 c2, e = .returned (.tuple #[.agg #[.int .i64 P, .int .i64 M, .slice a1 mod.length c1, .int .i64 m, .slice a2 (dualL (tblOf P M.toNat mod) L m).length c2], .int .i64 0]) ∧ Ints w' a1 mod.length mod ∧ Mat w' a2 (dualL (tblOf P M.toNat mod) L m).length (dualL (tblOf P M.toNat mod) L m) ∧ Below V.heap.size V w') := fun V hV => by
    refine (dual_any P M am mn cm mod m a n c L V (hmod.keep hV) (hi.keep hV) hE hmn).mono ?_
    rintro e w' ⟨a1, c1, a2, c2, rfl, h1, h2, hb⟩
    exact ⟨a1, c1, a2, c2, rfl, h1.ints, h2.mat, hb⟩
  have hED := (dual_code hE).1
  have HDb : Hid (∀ A, okSet m A = true ∧ isB (tblOf P M.toNat mod).ops L A = true → okSet m (frTo false A m) = true ∧ isB (tblOf P M.toNat mod).ops (dualL (tblOf P M.toNat mod) L m) (frTo false A m) = true) := fun A h => dual_bas hE h.1 h.2
  have HIs : Hid (∀ V a1 c1 a2 c2 aq nq cq Q, Ints V a1 mod.length mod → Mat V a2 (dualL (tblOf P M.toNat mod) L m).length (dualL (tblOf P M.toNat mod) L m) → Ints V aq nq Q → okSet m Q = true ∧ isB (tblOf P M.toNat mod).ops (dualL (tblOf P M.toNat mod) L m) Q = true → Calls Tryz.prog 28 #[.agg #[.int .i64 P, .int .i64 M, .slice a1 mod.length c1, .int .i64 m, .slice a2 (dualL (tblOf P M.toNat mod) L m).length c2], .slice aq nq cq] V fun e w' =>
      e = .returned (.tuple #[.bool true, .int .i64 0]) ∧ Below V.heap.size V w') := fun V a1 c1 a2 c2 aq nq cq Q h1 h2 hq hQ => by
    refine (infIs_any P M a1 mod.length c1 mod m a2 _ c2 _ aq nq cq Q V h1 h2 hq).mono ?_
    rintro e w' ⟨rfl, hbb⟩
    exact ⟨by rw [set_isV hED hQ.1, set_rankE hED hQ.1, hQ.2], hbb⟩
  obtain ⟨D, hD⟩ : ∃ D, dualL (tblOf P M.toNat mod) L m = D := ⟨_, rfl⟩
  rw [hD] at HDu HDb HIs
  obtain ⟨Dn, hDn⟩ : ∃ Dn, D.length = Dn := ⟨_, rfl⟩
  rw [hDn] at HDu HIs
  obtain ⟨ml, hml⟩ : ∃ ml, mod.length = ml := ⟨_, rfl⟩
  rw [hml] at HDu HIs
  obtain ⟨O, hO⟩ : ∃ O, (tblOf P M.toNat mod).ops = O := ⟨_, rfl⟩
  rw [hO] at HGr HIs HDb
  have hOb := hB3
  clear hE hR F hO hmod hi hs Hil hb3 hB2 hED hD hDn hml hmn
  go_wp2_with fail
  -- the first greedy set
  go_cut [5, 6] (fun v u wx => ∃ a1 c1 S, v = .slice a1 n c1 ∧ u = .int .i64 0 ∧ Ints wx a1 n S ∧ Hid (okSet m S = true ∧ isB O L S = true) ∧ Below W.heap.size W wx)
  case first =>
    have hS0 := hOb
    go_region_held3 (fun V => V.cell? ⟨w.heap.size, 0, none⟩ = some (.int .i64 P) ∧ V.cell? ⟨w.heap.size, 1, none⟩ = some (.int .i64 M) ∧ V.cell? ⟨w.heap.size, 2, none⟩ = some (.slice am mn cm) ∧ V.cell? ⟨w.heap.size, 3, none⟩ = some (.int .i64 m) ∧ V.cell? ⟨w.heap.size, 4, none⟩ = some (.slice a n c) ∧ Below W.heap.size W V)
      ((refine HS.out _ ?_; first | exact hb8 | exact hb7 | exact Below.next hS0 (Below.refl _ _).drew | exact hS0 | assumption | (go_split_ands; assumption)))
      (first
        | (go_at_call 36; ((with_reducible refine (HPs.out _ (by go_split_ands; exact Below.next HbW.out (by assumption))).mono ?_); rintro e w7 ⟨hb7', a7, k7, Q7, rfl, hI7, hQ7⟩; have hb7 : Below W.heap.size W w7 := (by go_split_ands; exact Below.next (by assumption) hb7'); have Hr2 := Lib.hid (HGr.out w7 a7 k7 Q7 (Below.next HbW.out hb7) hI7 hQ7); clear hI7 hQ7))
        | (go_at_call 30; ((with_reducible refine (Hr2.out _ (by first | exact Below.refl _ _ | assumption)).mono ?_); rintro e w8 ⟨hb8', a8, k8, S8, rfl, hI8, hS8⟩; have hb8 : Below W.heap.size W w8 := Below.next hb7 hb8')))
    all_goals (go_wp2_with fail; go_meet; exact ⟨a8, k8, S8, rfl, rfl, hI8, hS8, hb8⟩)
  obtain ⟨aA, cA, A, rfl, rfl, hA, hAs, hb4⟩ := hcut
  generalize wc = X1 at *
  clear hOb hB3
  have hbwX1 := Below.next HbW.out hb4
  obtain ⟨c0, c1, c2, c3, c4, _⟩ := HS.out X1 hb4
  have Hdu := Lib.hid (HDu.out X1 hbwX1)
  clear HGr HPs HDu
  go_wp2_with fail
  refine Hdu.out.mono ?_
  rintro e X2 ⟨a1, k1, a2, k2, rfl, hI1, hM1, hb5⟩
  clear c0 c1 c2 c3 c4 Hdu
  obtain ⟨X3, hX3⟩ : ∃ X3 : World, X3 = X2.alloc (.cells #[.int .i64 P, .int .i64 M, .slice a1 ml k1, .int .i64 m, .slice a2 Dn k2] 27) := ⟨_, rfl⟩
  have hb6 : Below X2.heap.size X2 X3 := by rw [hX3]; exact below1 _ _
  have xd : Box X3 X2.heap.size [.int .i64 P, .int .i64 M, .slice a1 ml k1, .int .i64 m, .slice a2 Dn k2] := by rw [hX3]; exact Box.new _ _ _ rfl
  have hb13 := Below.next hb5 hb6
  have hbX3 := Below.next hb4 hb13
  have hA3 := hA.keep hb13
  have hI3 := hI1.keep hb6
  have hM3 := hM1.keep hb6
  obtain ⟨c0, c1, c2, c3, c4, _⟩ := HS.out X3 hbX3
  rw [hX3] at c0 c1 c2 c3 c4
  have hri := rising_any m aA n cA A X3 hA3
  rw [hAs.out.1, hX3] at hri
  have Hri := Lib.hid hri
  have HX3 := Lib.hid hX3
  have Hk := Lib.hid (And.intro hA3 (And.intro hI3 (And.intro hM3 (And.intro hbX3 xd))))
  clear hA3 hI3 hM3 hX3 hI1 hM1 hri hA xd hb13 hbX3 hb5
  go_wp2_with fail
  refine Hri.out.mono ?_
  rintro e X4 ⟨rfl, hd4⟩
  rw [← HX3.out] at hd4
  have hb34 : Below X3.heap.size X3 X4 := hd4.below
  clear c0 c1 c2 c3 c4 Hri
  obtain ⟨g, hg⟩ : ∃ g, X2.heap.size = g := ⟨_, rfl⟩
  have Hg := Lib.hid hg
  have HS4 : Hid (∀ V, Below X4.heap.size X4 V → V.cell? ⟨g, 0, none⟩ = some (.int .i64 P) ∧ V.cell? ⟨g, 1, none⟩ = some (.int .i64 M) ∧ V.cell? ⟨g, 2, none⟩ = some (.slice a1 ml k1) ∧ V.cell? ⟨g, 3, none⟩ = some (.int .i64 m) ∧ V.cell? ⟨g, 4, none⟩ = some (.slice a2 Dn k2) ∧ V.cell? ⟨w.heap.size, 3, none⟩ = some (.int .i64 m) ∧ Below X4.heap.size X4 V) := fun V hV => by
    have x1 := Hk.out.2.2.2.2.keep (Below.next hb34 hV)
    rw [Hg.out] at x1
    obtain ⟨_, _, _, q3, _, _⟩ := HS.out V (Below.next Hk.out.2.2.2.1 (Below.next hb34 hV))
    exact ⟨x1.cell 0 rfl, x1.cell 1 rfl, x1.cell 2 rfl, x1.cell 3 rfl, x1.cell 4 rfl, q3, hV⟩
  have HOt : Hid (∀ V, Below X4.heap.size X4 V → Calls Tryz.prog 51 #[.slice aA n cA, .int .i64 m] V fun e w' => ∃ a5 c5 Cn, e = .returned (.slice a5 Cn c5) ∧ Ints w' a5 Cn (frTo false A m) ∧ Below V.heap.size V w') := fun V hV => by
    refine (rOthers10_any aA n cA A m V (Hk.out.1.keep (Below.next hb34 hV)) (by omega)).mono ?_
    rintro e w' ⟨a5, c5, rfl, ho, hb⟩
    exact ⟨a5, c5, _, rfl, (Ints.own ho).1, hb⟩
  have HIz : Hid (∀ V a5 c5 Cn, Below X4.heap.size X4 V → Ints V a5 Cn (frTo false A m) → ∀ V2, Below V.heap.size V V2 → Calls Tryz.prog 28 #[.agg #[.int .i64 P, .int .i64 M, .slice a1 ml k1, .int .i64 m, .slice a2 Dn k2], .slice a5 Cn c5] V2 fun e w' => e = .returned (.tuple #[.bool true, .int .i64 0]) ∧ Below V2.heap.size V2 w') := fun V a5 c5 Cn hV hI V2 hV2 => by
    have hb := Below.next hb34 (Below.next hV hV2)
    exact HIs.out V2 a1 k1 a2 k2 a5 Cn c5 _ (Hk.out.2.1.keep hb) (Hk.out.2.2.1.keep hb) (hI.keep hV2) (HDb.out A hAs.out)
  have hFin := Below.next HbW.out (Below.next Hk.out.2.2.2.1 hb34)
  rw [hg]
  clear hg hd4 hb4 hbwX1 hb6
  go_wp2_with fail
  go_cut [6, 9] (fun u v wx => u = .int .i64 0 ∧ v = .bool true ∧ Below X4.heap.size X4 wx)
  case first =>
    go_region_held3 (fun V => V.cell? ⟨g, 0, none⟩ = some (.int .i64 P) ∧ V.cell? ⟨g, 1, none⟩ = some (.int .i64 M) ∧ V.cell? ⟨g, 2, none⟩ = some (.slice a1 ml k1) ∧ V.cell? ⟨g, 3, none⟩ = some (.int .i64 m) ∧ V.cell? ⟨g, 4, none⟩ = some (.slice a2 Dn k2) ∧ V.cell? ⟨w.heap.size, 3, none⟩ = some (.int .i64 m) ∧ Below X4.heap.size X4 V)
      ((refine HS4.out _ ?_; first | exact hb8 | exact hb7 | exact (Below.refl _ _).drew | assumption | (go_split_ands; assumption)))
      (first
        | (go_at_call 51; ((with_reducible refine (HOt.out _ (by go_split_ands; assumption)).mono ?_); rintro e w7 ⟨a7, k7, n7, rfl, hI7, hb7'⟩; have hb7 : Below X4.heap.size X4 w7 := (by go_split_ands; exact Below.next (by assumption) hb7'); have Hr2 := Lib.hid (HIz.out w7 a7 k7 n7 hb7 hI7); clear hI7))
        | (go_at_call 28; ((with_reducible refine (Hr2.out _ (by first | exact Below.refl _ _ | assumption)).mono ?_); rintro e w8 ⟨rfl, hb8'⟩; have hb8 : Below X4.heap.size X4 w8 := Below.next hb7 hb8')))
    all_goals (go_wp2_with fail; go_meet; exact ⟨rfl, rfl, hb8⟩)
  obtain ⟨rfl, rfl, hb9⟩ := hcut
  generalize wc = V at *
  have hF := Below.next hFin hb9
  go_wp2_with fail
  go_ret
  exact ⟨rfl, hF⟩
end

/- The arguments, opened: lists of bytes. -/
section
open Go.ChangeShapes Go.WideShapes Go.ChangeAt Go.RowKit

section
variable {H : Type} {enc : TypeId × Value → H} {W : World} {held : Bool} {b0 : Nat} {v : Value} {d : DataW H} {p : List MemPlace}
set_option maxRecDepth 100000 in
theorem arg_bytes (hv : Value.okWide Tryz.prog W .any b0 48 v) (h : DataW.Trod enc Tryz.prog W 0 (fun _ => true) held 48 v d p) : ∃ a n c l, v = .slice a n c ∧ U8s W a n l := by
  obtain ⟨a, n, c, rfl⟩ := okWide_slice Tryz.underlying48 hv
  obtain ⟨fuel, hf⟩ := h
  rcases open_ints Tryz.underlying48 Tryz.underlying5 (by kernel_rfl) hf with ⟨hcs, _⟩ | ⟨a', len, cap, zs, hcs, _, hl, hm, hz, _, hcell, hwf⟩
  · simp [Value.cells] at hcs
    obtain ⟨rfl, rfl, rfl⟩ := hcs
    exact ⟨none, 0, 0, [], rfl, rfl, fun h0 => by omega, by unfold maxLen; omega, fun i hi => by omega, fun i hi => by omega⟩
  · simp [Value.cells] at hcs
    obtain ⟨rfl, rfl, rfl⟩ := hcs
    simp only [if_true] at hz
    refine ⟨some a', n, c, zs.take n, rfl, by simp; omega, fun h0 => ?_, by omega, fun i hi => ?_, fun i hi => ?_⟩
    · exact congrArg some (plain_of (hcell 0 (by omega)))
    · rw [nth_take_getD _ _ _ hi]
      exact add_cell (hcell i (by omega))
    · have h2 := hwf (nth (zs.take n) i) (by
        have : nth (zs.take n) i ∈ zs.take n := nth_mem (by simp; omega)
        exact List.mem_of_mem_take this)
      simp [Lit.wf, IntKind.min, IntKind.max, IntKind.signed, IntKind.bits] at h2
      omega
end
end

/- InfosetDual: the statement. -/
section
open Go.ChangeShapes Go.WideShapes Go.ChangeAt Go.RowKit

set_option maxRecDepth 100000 in
theorem infDual_lifted (os : Os) (started : os.Started) (H : Type) (enc : TypeId × Value → H) :
    ReturnsInHanded {} Tryz.checked os 11 .any (Rows.infosetDualSpec.pre6 enc Tryz.prog Tryz.f11 Rows.infosetDualRow.domain false) (Rows.infosetDualSpec.post enc Tryz.prog Tryz.f11 false true false false) := by
  refine returnsInHanded_of_change (C := Tryz.checked) Tryz.own started (by kernel_rfl) Tryz.func11
    (ChangeSpec.witness6 (enc := enc) (C := Tryz.checked) false ⟨#[], #[.agg #[.int .i64 0, .int .i64 0, .slice none 0 0, .int .i64 0, .slice none 0 0], .slice none 0 0], []⟩ 8 (by kernel_rfl) (by kernel_rfl) (by kernel_rfl) (by kernel_rfl)) ?_
  intro W base args ds gs before hval0 hW hcnd _
  have hval : ∀ (j : Nat) t v, Tryz.f11.params[j]? = some t → args[j]? = some v → Value.okWide Tryz.prog W .any base t v := hval0
  have hW' := hW
  obtain ⟨p, q, hA0, hV, rfl, hfz, hnd⟩ := hW
  have hA : DataW.TrodAll enc Tryz.prog W 0 (fun _ => true) true Tryz.f11.params.toList args.toList ds p := hA0
  rw [Tryz.params11] at hA hval
  obtain ⟨v0, vs0, d0, ds0, p0, q0, hargs, rfl, rfl, h0, r0⟩ := trodAll_cons hA
  obtain ⟨v1, vs1, d1, ds1, p1, q1, rfl, rfl, rfl, h1, r1⟩ := trodAll_cons r0
  obtain ⟨rfl, rfl, rfl⟩ := trodAll_nil r1
  obtain rfl : args = #[v0, v1] := by cases args; simp_all
  obtain ⟨rfl, rfl⟩ := trodVars_none hV
  have k0 := h0
  have k1 := h1
  have lt0 : ∀ x ∈ p0, x.block < W.heap.size := by obtain ⟨m, hm⟩ := k0; exact DataW.trod_lt m _ _ _ hm
  have lt1 : ∀ x ∈ p1, x.block < W.heap.size := by obtain ⟨m, hm⟩ := k1; exact DataW.trod_lt m _ _ _ hm
  obtain ⟨P, M, am, mn, cm, mod, N, a, n, c, L, rfl, hI0, hM0⟩ := arg_code (hval 0 _ v0 rfl rfl) h0
  obtain ⟨a1x, n1x, c1x, Q1, rfl, hQ1⟩ := arg_bytes (hval 1 _ v1 rfl rfl) h1
  clear hA0 hval0
  refine (infDual_any P M am mn cm mod N a n c L a1x n1x c1x Q1 W hI0 hM0 hQ1).mono fun e W' ⟨he, bel⟩ => ?_
  subst he
  exact ⟨_, rfl, _, _, _, [], _, [], hW', trodAll_mk1 (shut_bool Tryz.underlying4 _), (trodAll_cons_mk (Below.trod Tryz.laid (by kernel_rfl) (of_decide_eq_true (by kernel_rfl)) k0 bel lt0) (trodAll_cons_mk (Below.trod Tryz.laid (by kernel_rfl) (of_decide_eq_true (by kernel_rfl)) k1 bel lt1) trodAll_mk0)), rfl, bel.frame _, fun h => by cases h⟩

theorem infDual_over : Rows.infosetDualRow.holds Tryz.pinned (OpenSpec.ofChange Rows.infosetDualSpec) :=
  OpenClaim.holds_of_wide 11 Tryz.f11 rfl rfl rfl rfl rfl rfl rfl ⟨rfl, rfl, rfl, rfl, rfl⟩ rfl rfl rfl rfl rfl (by kernel_rfl) Tryz.func11 (by kernel_rfl)
    (of_decide_eq_true (by kernel_rfl)) (by unfold Func.isWrapper; first | (rw [if_pos (by decide +kernel)]; kernel_rfl) | (rw [if_neg (by decide +kernel)]; exact ⟨rfl, rfl⟩))
    (fun os started H enc _ => infDual_lifted os started H enc)

theorem infDual_holds : Rows.InfosetDualSaid := infDual_over
#print axioms infDual_holds
end

end Go.Proofs.YtakmnncmeefceaaGreat
