/- InfosetWords: the statement. -/
import Derived.Test.YtakmnncmeefceaaGreatH4
import Derived.Test.YtakmnncmeefceaaGreatG11
import Derived.Test.YtakmnncmeefceaaGreatG20
import Derived.Test.YtakmnncmeefceaaGreatG27
import Derived.Test.YtakmnncmeefceaaGreatG24
import Derived.Test.YtakmnncmeefceaaGreatG8
import Derived.Test.YtakmnncmeefceaaGreatG30
import Derived.Test.YtakmnncmeefceaaGreatG29
import Derived.Test.YtakmnncmeefceaaGreatRows
namespace Go.Proofs.YtakmnncmeefceaaGreat
set_option linter.unusedVariables false
set_option linter.unusedSimpArgs false
set_option linter.unusedSectionVars false

/- Information sets are bases (plain laws): greedy sets are information sets, and exchanges exist. -/
section
section
variable {O : FOps} {El : Int → Prop} {m : Nat} {L : List (List Int)}
theorem rkQ_out (F : Fld O El) (hL : Rws El m L) {Q : List Int} {x : Int} (h : ¬ clV O El L.length (colS L) (gA Q) x.toNat) : rkQ O L (Q ++ [x]) = rkQ O L Q + 1 := by
  have h1 := rkQ_rk F hL (Q ++ [x])
  rw [gA_snoc] at h1
  exact h1.uniq (Rk.ind _ h (rkQ_rk F hL Q))
theorem rkQ_step (F : Fld O El) (hL : Rws El m L) (Q : List Int) (x : Int) : rkQ O L (Q ++ [x]) ≤ rkQ O L Q + 1 := by
  have h1 := rkQ_rk F hL (Q ++ [x])
  rw [gA_snoc] at h1
  exact (rk_step (rkQ_rk F hL Q) h1).1
theorem isB_iff {Q : List Int} : isB O L Q = true ↔ Q.length = L.length ∧ rkQ O L Q = Q.length := by
  unfold isB rkQ
  simp
theorem exch_ex (F : Fld O El) (hL : Rws El m L) {A B : List Int} {t : Nat} {i : Int} (hA : isB O L A = true) (hB : isB O L B = true) (hnA : A.Nodup) (ht : t < A.length) (hi : nth A t = i) (hiB : ¬ i ∈ B) : ∃ j ∈ B, exP O L A t j = true := by
  refine Classical.byContradiction fun hno => ?_
  have hno' : ∀ j ∈ B, exP O L A t j = false := fun j hj => by
    by_cases h : exP O L A t j = true
    · exact absurd ⟨j, hj, h⟩ hno
    · simpa using h
  obtain ⟨A', hA'⟩ : ∃ A', A.filter (fun x => decide (x ≠ i)) = A' := ⟨_, rfl⟩
  have hp : ∀ j, (A' ++ [j]).Perm (A.set t j) := fun j => by rw [← hA']; exact filt_perm hnA ht hi j
  have hset : A.set t i = A := by rw [← hi, nth_getElem ht]; exact List.set_getElem_self ht
  have hpA := hp i
  rw [hset] at hpA
  obtain ⟨ha1, ha2⟩ := isB_iff.1 hA
  obtain ⟨hb1, hb2⟩ := isB_iff.1 hB
  have hl : A'.length + 1 = L.length := by
    have := hpA.length_eq
    rw [List.length_append] at this
    simp at this; omega
  have hr1 := rkQ_step F hL A' i
  rw [rkQ_perm F hL hpA] at hr1
  have hr2 : rkQ O L A' ≤ A'.length := grS_len _ _ _
  have hcl : ∀ j ∈ B, clV O El L.length (colS L) (gA A') j.toNat := fun j hj => by
    by_cases hjA : j ∈ A
    · refine (col_clo F hL).mem _ _ (mem_gA.2 ⟨j, ?_, rfl⟩)
      rw [← hA', List.mem_filter]
      exact ⟨hjA, by simpa using fun e : j = i => hiB (e ▸ hj)⟩
    · refine Classical.byContradiction fun hc => ?_
      have h1 := hno' j hj
      unfold exP at h1
      simp only [hjA, not_false_eq_true, decide_true, Bool.true_and] at h1
      rw [← isB_perm F hL (hp j)] at h1
      have h2 := rkQ_out F hL hc
      have h3 : isB O L (A' ++ [j]) = true := isB_iff.2 ⟨by rw [List.length_append]; simp; omega, by rw [h2, List.length_append]; simp; omega⟩
      rw [h1] at h3; exact absurd h3 (by decide)
  have h4 := rkQ_span F hL (Q := B) (Q' := A') fun x hx => by
    obtain ⟨y, hy, rfl⟩ := mem_gA.1 hx
    exact hcl y hy
  omega
/-- the greedy choice over all positions -/
theorem gr_basis (F : Fld O El) (hL : Rws El m L) (hfull : Rk (clV O El L.length (colS L)) (List.range m) L.length) {Q : List Int} (hQ : InN m Q) (hall : ∀ x, x < m → (x : Int) ∈ Q) : isB O L (grS O L Q) = true := by
  have h1 : (grS O L Q).length = L.length := by
    refine (rkQ_rk F hL Q).same (col_clo F hL) hfull fun x => ?_
    rw [mem_gA, List.mem_range]
    constructor
    · rintro ⟨y, hy, rfl⟩
      obtain ⟨j, hj, rfl⟩ := List.mem_iff_getElem.1 hy
      have := hQ j hj
      rw [nth_getElem hj] at this
      omega
    · intro hx
      exact ⟨x, hall x hx, by simp⟩
  have h2 := (gr_out F hL Q Q.length).1
  exact isB_iff.2 ⟨h1, (rkQ_rk F hL (grS O L Q)).uniq h2⟩
end
/-- a code's rows are independent -/
theorem code_full {P M : Int} {mod : List Int} {m : Nat} {L : List (List Int)} (hE : codeE P M mod m L = 0) : Rk (clV (tblOf P M.toNat mod).ops (tblOf P M.toNat mod).El L.length (colS L)) (List.range m) L.length := by
  obtain ⟨N', e, hm1, hm64, F, hR⟩ := codeE_fld hE
  obtain rfl : m = N' := by omega
  have h6 := (spaceE_zero (codeE_zero hE).2.2.2).2
  rw [Int.toNat_natCast] at h6
  have hcan : canO (tblOf P M.toNat mod).ops m L = L := h6
  have h := canO_rk F hR
  rwa [hcan] at h
theorem grS_nodup {O : FOps} {L : List (List Int)} {Q : List Int} (h : Q.Nodup) : (grS O L Q).Nodup := by
  have key : ∀ k, k ≤ Q.length → (grTo O L Q k).2.Nodup ∧ ∀ x ∈ (grTo O L Q k).2, x ∈ Q.take k := fun k => by
    induction k with
    | zero => intro _; exact ⟨by simp [grTo], fun x hx => by simp [grTo] at hx⟩
    | succ k ih =>
      intro hk
      obtain ⟨h1, h2⟩ := ih (by omega)
      have e : Q.take (k + 1) = Q.take k ++ [nth Q k] := by rw [List.take_succ_eq_append_getElem (by omega), nth_getElem (by omega)]
      rw [grTo]
      split
      · have hn : ¬ nth Q k ∈ Q.take k := by
          have h3 : (Q.take (k + 1)).Nodup := (List.take_sublist _ _).nodup h
          rw [e, List.nodup_append] at h3
          intro hm
          exact h3.2.2 _ hm _ (by simp) rfl
        refine ⟨?_, fun x hx => ?_⟩
        · rw [List.nodup_append]
          exact ⟨h1, by simp, fun x hx y hy => by rw [List.mem_singleton] at hy; subst hy; exact fun e => hn (e ▸ h2 _ hx)⟩
        · rw [e, List.mem_append]
          rcases List.mem_append.1 hx with hx | hx
          · exact .inl (h2 x hx)
          · exact .inr hx
      · exact ⟨h1, fun x hx => by rw [e, List.mem_append]; exact .inl (h2 x hx)⟩
  exact (key _ (Nat.le_refl _)).1
/-- all positions, in some order -/
def PermN (m : Nat) (Q : List Int) : Prop := Q.Perm ((List.range m).map Int.ofNat)
theorem PermN.mem {m : Nat} {Q : List Int} (h : PermN m Q) {x : Int} : x ∈ Q ↔ ∃ j : Nat, j < m ∧ x = j := by
  rw [h.mem_iff, List.mem_map]
  constructor
  · rintro ⟨j, hj, rfl⟩; exact ⟨j, List.mem_range.1 hj, rfl⟩
  · rintro ⟨j, hj, rfl⟩; exact ⟨j, List.mem_range.2 hj, rfl⟩
theorem PermN.len {m : Nat} {Q : List Int} (h : PermN m Q) : Q.length = m := by rw [h.length_eq]; simp
theorem PermN.nodup {m : Nat} {Q : List Int} (h : PermN m Q) : Q.Nodup := by
  refine h.nodup_iff.2 ?_
  rw [List.nodup_iff_pairwise_ne, List.pairwise_map]
  exact List.nodup_range.imp fun h e => h (Int.ofNat.inj e)
theorem PermN.inN {m : Nat} {Q : List Int} (h : PermN m Q) : InN m Q := fun j hj => by
  obtain ⟨i, hi, e⟩ := h.mem.1 (nth_mem hj)
  omega
section
variable {P M : Int} {mod : List Int} {m : Nat} {L : List (List Int)}
theorem perm_greE (hE : codeE P M mod m L = 0) {Q : List Int} (hQ : PermN m Q) : greE P M mod m L Q = 0 := by
  have h : okSet m (sortL Q) = true := okSet_sort hQ.nodup fun x hx => by
    obtain ⟨j, hj, rfl⟩ := hQ.mem.1 hx
    omega
  rw [greE, rankE, if_pos hE, setsE_one, if_pos h]
/-- what the greedy choice over all positions is -/
theorem perm_set (hE : codeE P M mod m L = 0) {Q : List Int} (hQ : PermN m Q) :
    okSet m (sortL (grS (tblOf P M.toNat mod).ops L Q)) = true ∧ isB (tblOf P M.toNat mod).ops L (sortL (grS (tblOf P M.toNat mod).ops L Q)) = true := by
  obtain ⟨N', e, hm1, hm64, F, hR⟩ := codeE_fld hE
  obtain rfl : m = N' := by omega
  refine ⟨okSet_sort (grS_nodup hQ.nodup) fun x hx => ?_, ?_⟩
  · obtain ⟨j, hj, rfl⟩ := hQ.mem.1 (grTo_sub _ L Q _ (Nat.le_refl _) x hx)
    omega
  · rw [isB_perm F hR (sortL_perm _)]
    exact gr_basis F hR (code_full hE) hQ.inN fun x hx => hQ.mem.2 ⟨x, hx, rfl⟩
theorem set_rankE (hE : codeE P M mod m L = 0) {Q : List Int} (hQ : okSet m Q = true) : rankE P M mod m L Q = 0 := by rw [rankE, if_pos hE, setsE_one, if_pos hQ]
theorem set_isV (hE : codeE P M mod m L = 0) {Q : List Int} (hQ : okSet m Q = true) : isV P M mod m L Q = isB (tblOf P M.toNat mod).ops L Q := by
  unfold isV isB
  rw [set_rankE hE hQ]
  by_cases h1 : (grS (tblOf P M.toNat mod).ops L Q).length = Q.length
  · rw [h1]; simp
  · simp [h1]
/-- the exchange -/
theorem exV_ok (hE : codeE P M mod m L = 0) {A B : List Int} (hA : okSet m A = true) (hB : okSet m B = true) (bA : isB (tblOf P M.toNat mod).ops L A = true) (bB : isB (tblOf P M.toNat mod).ops L B = true) {i : Int} (hi : i ∈ A) (hiB : ¬ i ∈ B) :
    ∃ j, exV P M mod m L A B i = (j, 0) ∧ ¬ j ∈ A ∧ j ∈ B ∧ okSet m (sortL (A.filter (fun x => decide (x ≠ i)) ++ [j])) = true ∧ isB (tblOf P M.toNat mod).ops L (sortL (A.filter (fun x => decide (x ≠ i)) ++ [j])) = true := by
  obtain ⟨N', e, hm1, hm64, F, hR⟩ := codeE_fld hE
  obtain rfl : m = N' := by omega
  obtain ⟨t, hix, htl, hti⟩ := ix_in hi
  have htx : (A.findIdx fun x => x == i) = t := by rw [ixV, if_pos hi] at hix; omega
  have hn := okSet_nodup hA
  obtain ⟨j0, hj0, he0⟩ := exch_ex F hR bA bB hn htl hti hiB
  obtain ⟨j, hj⟩ : ∃ j, B.find? (exP (tblOf P M.toNat mod).ops L A t) = some j := by
    cases h : B.find? (exP (tblOf P M.toNat mod).ops L A t) with
    | some j => exact ⟨j, rfl⟩
    | none =>
      rw [List.find?_eq_none] at h
      exact absurd he0 (h j0 hj0)
  have hjp := List.find?_some hj
  have hjB := List.mem_of_find?_eq_some hj
  rw [exP_filt F hR hn htl hti] at hjp
  simp only [Bool.and_eq_true, decide_eq_true_eq] at hjp
  have hs : setsE (m : Int) [A, B] = 0 := by simp [setsE, hA, hB]
  have hk : rk2E P M mod m L A B = 0 := by rw [rk2E, if_pos hE, hs]
  refine ⟨j, ?_, hjp.1, hjB, okSet_sort ?_ fun x hx => ?_, hjp.2⟩
  · rw [exV, hk, bA, bB, htx, hj, if_neg (by decide), if_neg (by decide), if_neg (by simpa using hi)]
  · rw [List.nodup_append]
    refine ⟨(List.filter_sublist).nodup hn, by simp, fun x hx y hy => ?_⟩
    rw [List.mem_singleton] at hy; subst hy
    intro e; subst e
    exact hjp.1 ((List.mem_filter.1 hx).1)
  · rcases List.mem_append.1 hx with hx | hx
    · have hx := (List.mem_filter.1 hx).1
      obtain ⟨k, hk, rfl⟩ := List.mem_iff_getElem.1 hx
      have := okSet_at hA hk
      rw [nth_getElem hk] at this
      exact ⟨this.1, this.2.1⟩
    · rw [List.mem_singleton] at hx; subst hx
      obtain ⟨k, hk, e⟩ := List.mem_iff_getElem.1 hjB
      have := okSet_at hB hk
      rw [nth_getElem hk, e] at this
      exact ⟨this.1, this.2.1⟩
end
end

/- Lists of bytes; the walks of codewrightlaw25: member, perm. -/
section
open Go.RowKit

/-- a slice of bytes -/
structure U8s (w : World) (a : Option Addr) (n : Nat) (l : List Int) : Prop where
  len : l.length = n
  pl : Pl a n
  max : n ≤ maxLen
  cell : ∀ i, i < n → w.cell? ⟨ablk a, aoff a + i, none⟩ = some (.int .u8 (nth l i))
  bd : ∀ i, i < n → 0 ≤ nth l i ∧ nth l i ≤ 255
theorem U8s.keep {w w' : World} {a : Option Addr} {n : Nat} {l : List Int} (h : U8s w a n l) (hb : Below w.heap.size w w') : U8s w' a n l :=
  ⟨h.len, h.pl, h.max, fun i hi => (hb.cell (World.block_lt_of_cell? w _ (h.cell i hi))).trans (h.cell i hi), h.bd⟩

set_option maxRecDepth 100000 in
set_option maxHeartbeats 1600000 in
theorem member25_any (a : Option Addr) (n c : Nat) (l : List Int) (v : Int) (w : World) (h : Ints w a n l) :
    Calls Tryz.prog 37 #[.slice a n c, .int .i64 v] w fun e w' => e = .returned (.bool (decide (v ∈ l))) ∧ w' = w := by
  have Hl := Lib.hid h.len
  have hpl := h.pl
  have hmax := h.max
  unfold maxLen at hmax
  go_enter Tryz.func37, Tryz.ntmps37
  go_wp2_with fail
  go_loopw [9] (fun iv wr => ∃ k : Nat, k ≤ n ∧ iv = .int .i64 k ∧ Hid (inTo l v k = false) ∧ wr = w) (fun i _ => n - (intOf i).toNat)
  case atStart => exact ⟨0, Nat.zero_le _, rfl, by show _ = _; simp [inTo], rfl⟩
  case round =>
    obtain ⟨k, hk, rfl, hno, rfl⟩ := hrel
    by_cases hlt : k < n
    · have c1 := h.cell k hlt
      have Hs := Lib.hid (inTo_succ (l := l) v (show k < l.length by rw [Hl.out]; exact hlt))
      by_cases he : nth l k = v
      · have he' : (nth l k == v) = true := by rw [he]; simp
        have Hm : Hid (decide (v ∈ l) = true) := by show _ = _; rw [← he]; simpa using nth_mem (show k < l.length by rw [Hl.out]; exact hlt)
        clear he
        go_wp2_with fail
        go_ret
        exact ⟨ret_bool Hm.out.symm, rfl⟩
      · have he' : (nth l k == v) = false := by simpa using he
        have Hn2 : Hid (inTo l v (k + 1) = false) := by show _ = _; rw [Hs.out, hno.out, decide_eq_false he]; rfl
        clear he
        go_wp2_with fail
        go_roundw
        case rel => exact ⟨k + 1, by omega, by go_num, Hn2.out, by simp⟩
        case measure => simp [intOf] <;> omega
    · obtain rfl : k = n := by omega
      have Hm : Hid (decide (v ∈ l) = false) := by show _ = _; rw [← inTo_all v Hl.out]; exact hno.out
      go_wp2_with fail
      go_ret
      exact ⟨ret_bool Hm.out.symm, rfl⟩

theorem swap_perm (Q : List Int) {i j : Nat} (hi : i < Q.length) (hj : j < Q.length) : ((Q.set i (nth Q j)).set j (nth Q i)).Perm Q := by
  rw [List.perm_iff_count]
  intro x
  rw [List.count_set (by simpa using hj), List.count_set hi, List.getElem_set, nth_getElem hi, nth_getElem hj]
  have h1 : Q[i] = x → 0 < Q.count x := fun e => List.count_pos_iff.2 (e ▸ List.getElem_mem hi)
  by_cases e : i = j
  · subst e
    by_cases a : Q[i] = x
    · have := h1 a; simp [a]; omega
    · simp [a]
  · by_cases a : Q[i] = x
    · have := h1 a
      by_cases b : Q[j] = x <;> simp [a, b, e] <;> omega
    · by_cases b : Q[j] = x <;> simp [a, b, e]
def idsTo (m : Nat) : List Int := (List.range m).map Int.ofNat
theorem idsTo_succ (m : Nat) : idsTo (m + 1) = idsTo m ++ [(m : Int)] := by unfold idsTo; rw [List.range_succ, List.map_append]; rfl
theorem idsTo_len (m : Nat) : (idsTo m).length = m := by simp [idsTo]

set_option maxRecDepth 100000 in
set_option maxHeartbeats 3200000 in
theorem perm25_any (a : Option Addr) (n c : Nat) (l : List Int) (m : Nat) (w : World) (h : U8s w a n l) (hm : m ≤ 1000) :
    Calls Tryz.prog 36 #[.slice a n c, .int .i64 m] w fun e w' => Below w.heap.size w w' ∧ ∃ a1 c1 Q, e = .returned (.slice a1 m c1) ∧ Ints w' a1 m Q ∧ PermN m Q := by
  have hpl := h.pl
  have hmax := h.max
  unfold maxLen at hmax
  go_enter Tryz.func36, Tryz.ntmps36
  go_wp2_with fail
  go_loopw [5, 10] (fun ov iv wr => ∃ (k : Nat) (a1 : Option Addr) (c1 : Nat), k ≤ m ∧ iv = .int .i64 k ∧ ov = .slice a1 k c1 ∧ wr.ownsRow w.heap.size 3 1 (.slice a1 k c1) k ((idsTo k).map (Value.int .i64)) ∧ Below w.heap.size w wr) (fun _ iv _ => m - (intOf iv).toNat)
  case atStart => exact ⟨0, none, 0, Nat.zero_le _, rfl, rfl, own_none, Below.refl _ _⟩
  case round =>
    obtain ⟨k, a1, c1, hk, rfl, rfl, hown, hbr⟩ := hrel
    by_cases hlt : k < m
    · have Hs := Lib.hid (idsTo_succ k)
      have hsz := hbr.size
      have hcn := cell_new wr (.int .i64 k) 3
      go_wp2_with (at_builtin; refine wpList_push rfl _ _ 22 3 rfl (.int .i64 0) 8 Tryz.underlying22 infoInt rfl w.heap.size a1 k c1 _ rfl (hown.alloc _) ⟨wr.heap.size, 0, none⟩ 1 (.int .i64 k) rfl hcn rfl (by omega) (by unfold maxLen; omega) (by simp; omega) ?_; intro a5 c5 w5 hown5 hgr5 hap5)
      go_roundw
      case rel => exact ⟨k + 1, a5, c5, by omega, by go_num, rfl, by rw [Hs.out]; simpa using hown5, Below.app (Below.allocN hbr _) (hown.alloc _) hgr5 (Nat.le_refl _) (Below.allocN hbr _).size⟩
      case measure => simp [intOf] <;> omega
    · obtain rfl : k = m := by omega
      generalize wr = X at *
      go_wp2_with fail
      go_loopw [20] (fun iv wr => ∃ (i : Nat) (Q : List Int), i ≤ k ∧ iv = .int .i64 i ∧ Hid (PermN k Q) ∧ wr.ownsRow w.heap.size 3 1 (.slice a1 k c1) k (Q.map (Value.int .i64)) ∧ Below w.heap.size w wr) (fun iv _ => k - (intOf iv).toNat)
      case atStart => exact ⟨0, idsTo k, Nat.zero_le _, rfl, List.Perm.refl _, hown, hbr⟩
      case round =>
        clear hown hbr
        obtain ⟨i, Q, hi, rfl, hQ, hown, hbr⟩ := hrel
        by_cases hlt2 : i < k
        · obtain ⟨hints, hmine⟩ := Ints.own hown
          have hpl1 := hints.pl
          have HQl := Lib.hid hints.len
          have hj : ∃ j : Nat, j < k ∧ ∀ (hn : i < n), (i : Int) + nth l i % ((k : Int) - i) = j := by
            by_cases hn : i < n
            · have hb := h.bd i hn
              have h1 := Int.emod_nonneg (nth l i) (show ((k : Int) - i) ≠ 0 by omega)
              have h2 := Int.emod_lt_of_pos (nth l i) (show 0 < ((k : Int) - i) by omega)
              exact ⟨((i : Int) + nth l i % ((k : Int) - i)).toNat, by omega, fun _ => by omega⟩
            · exact ⟨i, hlt2, fun hn' => absurd hn' hn⟩
          obtain ⟨j, hjk, hje⟩ := hj
          have key : ∀ j : Nat, j < k → ∃ V : World, V = (wr.setCell ⟨ablk a1, aoff a1 + i, none⟩ (.int .i64 (nth Q j))).setCell ⟨ablk a1, aoff a1 + j, none⟩ (.int .i64 (nth Q i)) ∧ V.ownsRow w.heap.size 3 1 (.slice a1 k c1) k (((Q.set i (nth Q j)).set j (nth Q i)).map (Value.int .i64)) ∧ Below w.heap.size w V := fun j hj => by
            have o1 := own_set (own_set hown i hlt2 (.int .i64 (nth Q j))) j hj (.int .i64 (nth Q i))
            rw [← List.map_set, ← List.map_set] at o1
            have hB := (hmine (by omega)).1
            exact ⟨_, rfl, o1, (hbr.setCell (p := ⟨ablk a1, aoff a1 + i, none⟩) hB (.int .i64 (nth Q j))).setCell (p := ⟨ablk a1, aoff a1 + j, none⟩) hB (.int .i64 (nth Q i))⟩
          have Hkey := Lib.hid key
          have ci := hints.cell i hlt2
          have fi := (hmine (by omega)).2 i hlt2
          have Hown := Lib.hid (And.intro hown hbr)
          have hl2 : (i : Int) < k := by omega
          by_cases hn : i < n
          · have cl := (h.keep hbr).cell i hn
            have hb := h.bd i hn
            have hje := hje hn
            have cj := hints.cell j hjk
            have fj := (hmine (by omega)).2 j hjk
            have hjk2 : (j : Int) < k := by omega
            have kw1 : IntKind.i64.wrap ((k : Int) - i) = (k : Int) - i := IntWalk.i64_in _ (by omega)
            have kw2 : IntKind.i64.wrap (nth l i) = nth l i := IntWalk.i64_in _ (by omega)
            have kr : (nth l i).tmod ((k : Int) - i) = nth l i % ((k : Int) - i) := IntWalk.rem_in _ _ (by omega)
            have hk0 : ((k : Int) - i) ≠ 0 := by omega
            have hk0' : (((k : Int) - i) == 0) = false := by simp; omega
            obtain ⟨r, hr⟩ : ∃ r, nth l i % ((k : Int) - i) = r := ⟨_, rfl⟩
            rw [hr] at kr hje
            have kw3 : IntKind.i64.wrap r = r := IntWalk.i64_in _ (by omega)
            have kw4 : IntKind.i64.wrap ((i : Int) + r) = j := by rw [hje]; exact IntWalk.i64_in _ (by omega)
            have Hje := Lib.hid hje
            by_cases hij : j = i
            · subst hij
              obtain ⟨V, hV, oV, bV⟩ := Hkey.out j hjk
              have HV := Lib.hid hV
              have HoV := Lib.hid (And.intro oV bV)
              have k3 := World.cell?_setCell_same wr _ (.int .i64 (nth Q j)) ci
              have hP : Hid (PermN k ((Q.set j (nth Q j)).set j (nth Q j))) := (swap_perm Q (by rw [HQl.out]; exact hjk) (by rw [HQl.out]; exact hjk)).trans hQ.out
              clear hV oV bV hints hmine key Hkey hje hr
              go_wp2_with fail
              go_region
              go_wp2_with fail
              go_roundw
              case rel => exact ⟨j + 1, _, by omega, by go_num, hP.out, by rw [← HV.out]; exact own_keep HoV.out.1 (Below.refl _ _).drew, by rw [← HV.out]; exact Below.next HoV.out.2 (Below.refl _ _).drew⟩
              case measure => simp [intOf] <;> omega
            · obtain ⟨V, hV, oV, bV⟩ := Hkey.out j hjk
              have HV := Lib.hid hV
              have HoV := Lib.hid (And.intro oV bV)
              have k3 : (wr.setCell ⟨ablk a1, aoff a1 + i, none⟩ (.int .i64 (nth Q j))).cell? ⟨ablk a1, aoff a1 + j, none⟩ = some (.int .i64 (nth Q j)) := by
                rw [World.cell?_setCell_other _ _ _ _ (by simp <;> omega)]; exact cj
              have hP : Hid (PermN k ((Q.set i (nth Q j)).set j (nth Q i))) := (swap_perm Q (by rw [HQl.out]; exact hlt2) (by rw [HQl.out]; exact hjk)).trans hQ.out
              clear hV oV bV hints hmine key Hkey hje hr
              go_wp2_with fail
              go_region
              go_wp2_with fail
              go_roundw
              case rel => exact ⟨i + 1, _, by omega, by go_num, hP.out, by rw [← HV.out]; exact own_keep HoV.out.1 (Below.refl _ _).drew, by rw [← HV.out]; exact Below.next HoV.out.2 (Below.refl _ _).drew⟩
              case measure => simp [intOf] <;> omega
          · obtain ⟨V, hV, oV, bV⟩ := Hkey.out i hlt2
            have HV := Lib.hid hV
            have HoV := Lib.hid (And.intro oV bV)
            have k3 := World.cell?_setCell_same wr _ (.int .i64 (nth Q i)) ci
            have hP : Hid (PermN k ((Q.set i (nth Q i)).set i (nth Q i))) := (swap_perm Q (by rw [HQl.out]; exact hlt2) (by rw [HQl.out]; exact hlt2)).trans hQ.out
            clear hV oV bV hints hmine key Hkey hje
            go_wp2_with fail
            go_region
            go_wp2_with fail
            go_roundw
            case rel => exact ⟨i + 1, _, by omega, by go_num, hP.out, by rw [← HV.out]; exact own_keep HoV.out.1 (Below.refl _ _).drew, by rw [← HV.out]; exact Below.next HoV.out.2 (Below.refl _ _).drew⟩
            case measure => simp [intOf] <;> omega
        · obtain rfl : i = k := by omega
          have hF := Lib.hid (And.intro hown hbr)
          clear hown hbr
          go_wp2_with fail
          go_ret
          exact ⟨hF.out.2, a1, c1, Q, rfl, (Ints.own hF.out.1).1, hQ.out⟩
end

/- Canonical rows are determined by their row space; the systematic matrix (plain laws). -/
section
section
variable {O : FOps} {El : Int → Prop} {m : Nat}
theorem Piv.lessT (F : Fld O El) {L : List (List Int)} {P : List Int} {c : Nat} (h : Piv L P c) (hL : Rws El m L) {v : List Int} (hv : Vc El L.length v) {φ : List Int → Int} (hφ : Lin O El L.length φ)
    {t : Nat} (ht : t ≤ P.length) (h0 : ∀ j, j < t → φ (colS L (nth P j).toNat) = 0) : ∀ k, k ≤ t → Vc El L.length (lessTo O L P v k) ∧ φ (lessTo O L P v k) = φ v ∧ ∀ i, i < L.length → nth (lessTo O L P v k) i = if i < k then 0 else nth v i
  | 0, _ => ⟨hv, rfl, fun i _ => by rw [if_neg (by omega)]; rfl⟩
  | k + 1, hk => by
    obtain ⟨h1, h2, h3⟩ := h.lessT F hL hv hφ ht h0 k (by omega)
    have hle := h.le
    have hcol := colS_vc hL F.zero (nth P k).toNat
    have hx := h1.at (i := k) (by omega)
    refine ⟨h1.sub F hcol hx, ?_, fun i hi => ?_⟩
    · rw [lessTo, hφ.sub _ _ _ h1 hcol hx, h0 k (by omega), F.mzero hx, F.nzero, F.add_zero _ (hφ.el _ h1), h2]
    · rw [lessTo, nth_subRow O _ _ _ i (by rw [hcol.1, h1.1]) (by rw [h1.1]; exact hi), nth_colS L _ i hi, h.one k i (by omega) hi]
      by_cases e : i = k
      · subst e
        rw [if_pos rfl, F.mone hx, F.add_neg _ hx, if_pos (by omega)]
      · rw [if_neg e, F.mzero hx, F.nzero, F.add_zero _ (h1.at hi), h3 i hi]
        by_cases e2 : i < k
        · rw [if_pos e2, if_pos (by omega)]
        · rw [if_neg e2, if_neg (by omega)]
theorem asc_cut {P : List Int} (ha : ∀ i j, i < j → j < P.length → nth P i < nth P j) {x : Int} (hx : ¬ x ∈ P) : ∀ k, k ≤ P.length → ∃ t, t ≤ k ∧ (∀ j, j < t → nth P j < x) ∧ ∀ j, t ≤ j → j < k → x < nth P j
  | 0, _ => ⟨0, Nat.le_refl _, fun j hj => by omega, fun j _ hj => by omega⟩
  | k + 1, hk => by
    obtain ⟨t, h1, h2, h3⟩ := asc_cut ha hx k (by omega)
    have hne : nth P k ≠ x := fun e => hx (e ▸ nth_mem (by omega))
    by_cases ht : t = k
    · subst ht
      by_cases hlt : nth P t < x
      · exact ⟨t + 1, by omega, fun j hj => by
          by_cases e : j = t
          · subst e; exact hlt
          · exact h2 j (by omega), fun j h4 h5 => by omega⟩
      · exact ⟨t, by omega, h2, fun j h4 h5 => by
          obtain rfl : j = t := by omega
          omega⟩
    · refine ⟨t, by omega, h2, fun j h4 h5 => ?_⟩
      by_cases e : j = k
      · subst e
        have := ha t j (by omega) (by omega)
        have := h3 t (Nat.le_refl _) (by omega)
        omega
      · exact h3 j h4 (by omega)
/-- a word of the row space begins at a pivot -/
theorem lead_in (F : Fld O El) {R : List (List Int)} {P : List Int} (hR : Rws El m R) (hP : Piv R P m) (hl : Lead R P) {f : Nat → Int} (hf : RS O El m R f) {x : Nat} (hx : x < m) (h0 : ∀ y, y < x → f y = 0) (hne : f x ≠ 0) : (x : Int) ∈ P := by
  refine Classical.byContradiction fun hn => hne ?_
  obtain ⟨t, h1, h2, h3⟩ := asc_cut hl.asc hn P.length (Nat.le_refl _)
  obtain ⟨e, he, h⟩ := hf
  have hlt := hP.lt
  obtain ⟨q1, q2, q3⟩ := hP.lessT F hR (colS_vc hR F.zero x) he h1 (fun j hj => by
    have := h2 j hj
    have := hlt j (by omega)
    rw [← h _ (by omega)]
    exact h0 _ (by omega)) t (Nat.le_refl _)
  rw [h x hx, ← q2]
  refine he.zero F q1 fun i hi => ?_
  rw [q3 i hi]
  split
  · rfl
  · rw [nth_colS R x i hi]
    by_cases hi2 : i < P.length
    · have := h3 i (by omega) hi2
      exact hl.lead i x hi2 (by omega)
    · exact hP.zero i x (by omega) hi hx
/-- a word of the row space that is 0 at the pivots is 0 -/
theorem piv_zero (F : Fld O El) {R : List (List Int)} {P : List Int} (hR : Rws El m R) (hP : Piv R P m) {f : Nat → Int} (hf : RS O El m R f) (h0 : ∀ j, j < P.length → f (nth P j).toNat = 0) : ∀ x, x < m → f x = 0 := fun x hx => by
  obtain ⟨e, he, h⟩ := hf
  rw [h x hx]
  refine hP.all F hR hx e he fun y hy => ?_
  obtain ⟨j, hj, rfl⟩ := (mem_grL P _ _).1 hy
  rw [← h _ (by have := hP.lt j hj; omega)]
  exact h0 j hj
theorem asc_pair {P : List Int} (ha : ∀ i j, i < j → j < P.length → nth P i < nth P j) : P.Pairwise fun x y => x < y := by
  rw [List.pairwise_iff_getElem]
  intro i j hi hj hij
  have := ha i j hij hj
  rwa [nth_getElem hi, nth_getElem hj] at this
theorem asc_same {P P' : List Int} (ha : ∀ i j, i < j → j < P.length → nth P i < nth P j) (ha' : ∀ i j, i < j → j < P'.length → nth P' i < nth P' j) (h : ∀ x, x ∈ P ↔ x ∈ P') : P = P' := by
  have h1 := asc_pair ha
  have h2 := asc_pair ha'
  exact pair_unique (h1.imp fun h => by omega) (h2.imp fun h => by omega) ((List.perm_ext_iff_of_nodup (h1.imp fun h => by omega) (h2.imp fun h => by omega)).2 h)
/-- canonical rows with one row space are equal -/
theorem can_uniq (F : Fld O El) {R R' : List (List Int)} {P P' : List Int} (hR : Rws El m R) (hR' : Rws El m R') (hP : Piv R P m) (hP' : Piv R' P' m) (hl : Lead R P) (hl' : Lead R' P') (hlen : R.length = P.length) (hlen' : R'.length = P'.length)
    (h1 : RSub O El m R R') (h2 : RSub O El m R' R) : R = R' := by
  have key : ∀ {R R' : List (List Int)} {P P' : List Int}, Rws El m R → Piv R P m → Lead R P → Piv R' P' m → Lead R' P' → R'.length = P'.length → RSub O El m R' R → ∀ x ∈ P', x ∈ P := fun {R R' P P'} hR hP hl hP' hl' hlen' h2 x hx => by
    obtain ⟨i, hi, rfl⟩ := List.mem_iff_getElem.1 hx
    have hb := hP'.lt i hi
    have h3 := lead_in F hR hP hl (h2 i (by omega)) (x := (nth P' i).toNat) (by omega) (fun y hy => hl'.lead i y hi hy) (by
      show nth (nthR R' i) (nth P' i).toNat ≠ 0
      rw [hP'.one i i hi (by omega), if_pos rfl]; decide)
    rw [show (((nth P' i).toNat : Nat) : Int) = nth P' i by omega, nth_getElem hi] at h3
    exact h3
  have hPP : P = P' := asc_same hl.asc hl'.asc fun x => ⟨key hR' hP' hl' hP hl hlen h1 x, key hR hP hl hP' hl' hlen' h2 x⟩
  subst hPP
  refine List.ext_getElem (by omega) fun i hi hi' => ?_
  have hr := hR _ (List.getElem_mem hi)
  have hr' := hR' _ (List.getElem_mem hi')
  refine nth_ext (by rw [hr.1, hr'.1]) fun x hx => ?_
  rw [hr.1] at hx
  have hz := piv_zero F hR hP ((h2 i hi').comb F (RS.row F (m := m) hi) F.one) (fun j hj => by
    show O.add (nth (nthR R' i) (nth P j).toNat) (O.neg (O.mul (nth (nthR R i) (nth P j).toNat) 1)) = 0
    rw [hP'.one j i hj hi', hP.one j i hj hi]
    split
    · rw [F.mone F.one, F.add_neg _ F.one]
    · rw [F.mone F.zero, F.add_neg _ F.zero]) x hx
  have hz' : O.add (nth (nthR R' i) x) (O.neg (O.mul (nth (nthR R i) x) 1)) = 0 := hz
  have e1 : El (nth R[i] x) := hr.2 _ (nth_mem (by rw [hr.1]; exact hx))
  have e2 : El (nth R'[i] x) := hr'.2 _ (nth_mem (by rw [hr'.1]; exact hx))
  rw [nthR_getElem hi, nthR_getElem hi', F.mone e1] at hz'
  have h4 := F.neg_of e2 (F.cl.neg _ e1) hz'
  have h5 := congrArg O.neg h4
  rwa [F.neg_neg e1, F.neg_neg e2] at h5
/-- a form is the combination of its values at the unit vectors -/
theorem unitR_vc (F : Fld O El) (n k : Nat) : Vc El n (unitR n k) := by
  refine ⟨unitR_len n k, fun x hx => ?_⟩
  unfold unitR at hx
  rcases List.mem_or_eq_of_mem_set hx with hx | rfl
  · rw [List.eq_of_mem_replicate hx]; exact F.zero
  · exact F.one
theorem nth_unitR {n k i : Nat} (hk : k < n) : nth (unitR n k) i = if i = k then 1 else 0 := by
  unfold unitR
  rw [nth_set _ _ _ _ (by simpa using hk)]
  split
  · rfl
  · unfold nth
    simp only [List.getD_eq_getElem?_getD, List.getElem?_replicate]
    split <;> rfl
def cutTo (O : FOps) (n : Nat) (v : List Int) : Nat → List Int
  | 0 => v
  | k + 1 => subRow O (cutTo O n v k) (nth v k) (unitR n k)
theorem cut_form (F : Fld O El) {n : Nat} {φ : List Int → Int} (hφ : Lin O El n φ) {v : List Int} (hv : Vc El n v) : ∀ k, k ≤ n → Vc El n (cutTo O n v k) ∧ (∀ i, i < n → nth (cutTo O n v k) i = if i < k then 0 else nth v i) ∧
    O.add (φ (cutTo O n v k)) (dotN O (fun t => φ (unitR n t)) (fun t => nth v t) k) = φ v
  | 0, _ => ⟨hv, fun i _ => by rw [if_neg (by omega)]; rfl, by rw [dotN]; exact F.add_zero _ (hφ.el _ hv)⟩
  | k + 1, hk => by
    obtain ⟨h1, h2, h3⟩ := cut_form F hφ hv k (by omega)
    have hu := unitR_vc F n k
    have hx := hv.at (i := k) (by omega)
    refine ⟨h1.sub F hu hx, fun i hi => ?_, ?_⟩
    · rw [cutTo, nth_subRow O _ _ _ i (by rw [hu.1, h1.1]) (by rw [h1.1]; exact hi), nth_unitR (by omega), h2 i hi]
      by_cases e : i = k
      · subst e
        rw [if_pos rfl, if_neg (by omega), F.mone hx, F.add_neg _ hx, if_pos (by omega)]
      · rw [if_neg e, F.mzero hx, F.nzero]
        by_cases e2 : i < k
        · rw [if_pos e2, if_pos (by omega), F.add_zero _ F.zero]
        · rw [if_neg e2, if_neg (by omega), F.add_zero _ (hv.at hi)]
    · have hm := F.cl.mul _ _ hx (hφ.el _ hu)
      have hd := dotN_el F (a := fun t => φ (unitR n t)) (b := fun t => nth v t) k (fun p _ => hφ.el _ (unitR_vc F n p)) (fun p hp => hv.at (by omega))
      rw [cutTo, hφ.sub _ _ _ h1 hu hx, dotN, F.mul_comm _ _ (hφ.el _ hu) hx, F.add4 (hφ.el _ h1) (F.cl.neg _ hm) hd hm, F.negadd hm, F.add_zero _ (F.cl.add _ _ (hφ.el _ h1) hd), h3]
theorem form_unit (F : Fld O El) {n : Nat} {φ : List Int → Int} (hφ : Lin O El n φ) {v : List Int} (hv : Vc El n v) : φ v = dotN O (fun t => φ (unitR n t)) (fun t => nth v t) n := by
  obtain ⟨h1, h2, h3⟩ := cut_form F hφ hv n (Nat.le_refl _)
  rw [← h3, hφ.zero F h1 fun i hi => by rw [h2 i hi, if_pos hi], F.zadd (dotN_el F n (fun p _ => hφ.el _ (unitR_vc F n p)) (fun p hp => hv.at hp))]
theorem cmb_dot (F : Fld O El) {L : List (List Int)} (hL : Rws El m L) {x : List Int} (hx : ∀ k, k < L.length → El (nth x k)) {y : Nat} (hy : y < m) : ∀ k, k ≤ L.length → nth (cmbTo O m x L k) y = dotN O (fun t => nth x t) (fun t => nth (nthR L t) y) k
  | 0, _ => by
    rw [cmbTo, dotN]
    unfold nth
    simp only [List.getD_eq_getElem?_getD, List.getElem?_replicate]
    split <;> rfl
  | k + 1, hk => by
    have ih := cmb_dot F hL hx hy k (by omega)
    obtain ⟨h1, _⟩ := cmb_rs F hL hx k (by omega)
    have hr := hL.row (i := k) (by omega)
    have hd := dotN_el F (a := fun t => nth x t) (b := fun t => nth (nthR L t) y) k (fun p hp => hx p (by omega)) (fun p hp => Vc.at (hL.row (i := p) (by omega)) hy)
    rw [cmbTo, dotN]
    split
    · rename_i e0
      rw [ih, e0, F.zmul (Vc.at hr hy), F.add_zero _ hd]
    · rw [nth_addRow O _ _ _ y (by rw [hr.1, h1.1]) (by rw [h1.1]; exact hy), ih]
      split
      · rename_i e1
        show _ = O.add _ (O.mul (nth x k) (nth (nthR L k) y))
        rw [e1, F.mzero (hx k (by omega)), F.add_zero _ hd]
      · rfl
theorem asc_id {P : List Int} {k : Nat} (hl : P.length = k) (hb : ∀ j, j < k → 0 ≤ nth P j ∧ nth P j < k) (ha : ∀ i j, i < j → j < P.length → nth P i < nth P j) : ∀ j, j < k → nth P j = j := by
  have h1 : ∀ j, j < k → (j : Int) ≤ nth P j := fun j => by
    induction j with
    | zero => intro h; exact (hb 0 h).1
    | succ j ih => intro h; have := ih (by omega); have := ha j (j + 1) (by omega) (by omega); omega
  have h2 : ∀ d j, j + d + 1 = k → nth P j ≤ j := fun d => by
    induction d with
    | zero => intro j h; have := hb j (by omega); omega
    | succ d ih => intro j h; have := ih (j + 1) (by omega); have := ha j (j + 1) (by omega) (by omega); omega
  intro j hj
  have := h1 j hj
  have := h2 (k - j - 1) j (by omega)
  omega
/-- the systematic rows by forms: at the set they are the unit vectors -/
theorem sys_form (F : Fld O El) {L : List (List Int)} (hL : Rws El m L) {Q : List Int} (hQ : InN m Q) (hl : Q.length = L.length) (hg : (grS O L Q).length = Q.length) (i : Nat) (hi : i < L.length) :
    ∃ e, Lin O El L.length e ∧ (∀ y, y < m → nth (nthR (sysL O m L Q) i) y = e (colS L y)) ∧ ∀ j, j < Q.length → e (colS L (nth Q j).toNat) = if i = j then 1 else 0 := by
  have hD := pick_rws hL hQ
  have hpv := sys_pv F hL hQ hl hg
  have hJr := joinL_rws hD (unit_rws F.zero F.one Q.length)
  have hDl : (L.map (pickL Q)).length = Q.length := by rw [List.length_map, hl]
  have hJl : (joinL (L.map (pickL Q)) (unitL Q.length)).length = Q.length := by simp [joinL, unitL_len, hl]
  have hJt := joinL_take (D := L.map (pickL Q)) (U := unitL Q.length) (k := Q.length) (by rw [unitL_len, hDl]) (fun r hr => (hD r hr).1)
  have hJd := joinL_drop (D := L.map (pickL Q)) (U := unitL Q.length) (k := Q.length) (by rw [unitL_len, hDl]) (fun r hr => (hD r hr).1)
  obtain ⟨J, hJ⟩ : ∃ J, joinL (L.map (pickL Q)) (unitL Q.length) = J := ⟨_, rfl⟩
  have hsys : sysL O m L Q = mtL O m ((elimTo O J Q.length).1.map (List.drop Q.length)) L := by rw [sysL, invL, hJ]
  rw [hJ] at hpv hJr hJl hJt hJd
  obtain ⟨h1, h2, _⟩ := elim_inv F hJr Q.length (by omega)
  have h3 := elim_lead F hJr Q.length (by omega)
  have hel : (elimTo O J Q.length).1.length = Q.length := by rw [elimTo_length, hJl]
  have hEr := elim_rws F hJr Q.length (by omega)
  have hid := asc_id hpv (fun j hj => h1.lt j (by omega)) h3.asc
  obtain ⟨e, he, hx⟩ := h2 i (by omega)
  rw [hJl, hl] at he
  have hcolD : ∀ x, x < Q.length → colS J x = colS L (nth Q x).toNat := fun x hx => by
    have e1 : colS J x = colS (J.map (List.take Q.length)) x := by
      unfold colS
      rw [List.map_map]
      exact List.map_congr_left fun r _ => (nth_take hx).symm
    rw [e1, hJt]
    unfold colS
    rw [List.map_map]
    exact List.map_congr_left fun r _ => nth_pickL Q r hx
  have hcolU : ∀ x, x < Q.length → colS J (Q.length + x) = unitR L.length x := fun x hx => by
    have e1 : colS J (Q.length + x) = colS (J.map (List.drop Q.length)) x := by
      unfold colS
      rw [List.map_map]
      refine List.map_congr_left fun r _ => ?_
      unfold nth
      simp only [List.getD_eq_getElem?_getD, Function.comp, List.getElem?_drop]
    rw [e1, hJd]
    refine nth_ext (by rw [colS_length, unitL_len, unitR_len, hl]) fun t ht => ?_
    rw [colS_length, unitL_len] at ht
    rw [nth_colS _ _ _ (by rw [unitL_len]; exact ht), nthR_unit ht, nth_unitR ht, ← hl, nth_unitR hx]
    by_cases e : x = t
    · subst e; simp
    · rw [if_neg e, if_neg fun e2 => e e2.symm]
  have hT : ∀ t, t < Q.length → nth (nthR ((elimTo O J Q.length).1.map (List.drop Q.length)) i) t = e (unitR L.length t) := fun t ht => by
    rw [nthR_map0 _ List.drop_nil, ← hcolU t ht, ← hx _ (by omega)]
    unfold nth
    simp only [List.getD_eq_getElem?_getD, List.getElem?_drop]
  have hTl : ((elimTo O J Q.length).1.map (List.drop Q.length)).length = L.length := by rw [List.length_map, hel, hl]
  refine ⟨e, he, fun y hy => ?_, fun j hj => ?_⟩
  · rw [hsys, mtL, nthR_mapf _ _ (by rw [hTl]; exact hi)]
    rw [cmb_dot F hL (fun t ht => by rw [hT t (by omega)]; exact he.el _ (unitR_vc F _ t)) hy _ (Nat.le_refl _), form_unit F he (colS_vc hL F.zero y)]
    exact dotN_congr _ fun t ht => ⟨hT t (by omega), (nth_colS L y t ht).symm⟩
  · rw [← hcolD j hj, ← hx _ (by omega)]
    have := h1.one j i (by omega) (by omega)
    rw [hid j hj, Int.toNat_natCast] at this
    exact this
end
section
variable {P M : Int} {mod : List Int} {m : Nat} {L : List (List Int)}
/-- the systematic matrix generates the code, and is the identity at the set -/
theorem sys_law (hE : codeE P M mod m L = 0) {Q : List Int} (hQ : InN m Q) (hl : Q.length = L.length) (hg : (grS (tblOf P M.toNat mod).ops L Q).length = Q.length) :
    Rws (tblOf P M.toNat mod).El m (sysL (tblOf P M.toNat mod).ops m L Q) ∧ (sysL (tblOf P M.toNat mod).ops m L Q).length = L.length ∧ (sysL (tblOf P M.toNat mod).ops m L Q).map (pickL Q) = unitL Q.length ∧
    canS (tblOf P M.toNat mod) (sysL (tblOf P M.toNat mod).ops m L Q) m = L := by
  obtain ⟨N', e, hm1, hm64, F, hR⟩ := codeE_fld hE
  obtain rfl : m = N' := by omega
  have hfull := code_full hE
  have h6 := (spaceE_zero (codeE_zero hE).2.2.2).2
  rw [Int.toNat_natCast] at h6
  have hcan : canO (tblOf P M.toNat mod).ops m L = L := h6
  obtain ⟨hPv, hLd⟩ := canO_piv F hR
  have hcl := canO_len F hR
  rw [hcan] at hPv hLd hcl
  have hform := fun i hi => sys_form F hR hQ hl hg i hi
  have hD := pick_rws hR hQ
  have hIr := invL_rws F hD
  have hIl : (invL (tblOf P M.toNat mod).ops (L.map (pickL Q)) Q.length).length = L.length := by rw [invL_len _ (by rw [List.length_map, hl]), hl]
  have hSl : (sysL (tblOf P M.toNat mod).ops m L Q).length = L.length := by unfold sysL mtL; rw [List.length_map, hIl]
  have hSr : Rws (tblOf P M.toNat mod).El m (sysL (tblOf P M.toNat mod).ops m L Q) := fun r hr => by
    unfold sysL mtL at hr
    obtain ⟨s, hs, rfl⟩ := List.mem_map.1 hr
    have hs2 := hIr s hs
    exact (cmb_rs F hR (fun k hk => hs2.2 _ (nth_mem (by rw [hs2.1]; omega))) _ (Nat.le_refl _)).1
  show _ ∧ _ ∧ _ ∧ canO (tblOf P M.toNat mod).ops m (sysL (tblOf P M.toNat mod).ops m L Q) = L
  generalize sysL (tblOf P M.toNat mod).ops m L Q = S at *
  generalize (tblOf P M.toNat mod).ops = O at *
  generalize (tblOf P M.toNat mod).El = El at *
  refine ⟨hSr, hSl, ?_, ?_⟩
  · refine List.ext_getElem (by rw [List.length_map, unitL_len, hSl, hl]) fun i h1 h2 => ?_
    rw [List.length_map, hSl] at h1
    rw [← nthR_getElem, ← nthR_getElem, nthR_mapf _ _ (by rw [hSl]; exact h1), nthR_unit (by omega)]
    obtain ⟨e, he, hy, hj⟩ := hform i h1
    refine nth_ext (by rw [unitR_len]; simp [pickL]) fun j hj2 => ?_
    have hj3 : j < Q.length := by simpa [pickL] using hj2
    have hqj := hQ j hj3
    rw [nth_pickL Q _ hj3, nth_unitR (by omega), hy _ (by omega), hj j hj3]
    by_cases e2 : i = j
    · subst e2; simp
    · rw [if_neg e2, if_neg fun e3 => e2 e3.symm]
  · obtain ⟨k1, k2⟩ := canO_piv F hSr
    have k3 := canO_len F hSr
    obtain ⟨s1, s2⟩ := canO_rsub F hSr
    have hSL : RSub O El m S L := fun i hi => by
      obtain ⟨e, he, hy, _⟩ := hform i (by omega)
      exact ⟨e, he, hy⟩
    have hclA : ∀ x, x < m → clV O El L.length (colS L) (gA Q) x := fun x hx => by
      refine Classical.byContradiction fun hn => ?_
      have h1 := rkQ_out F hR (Q := Q) (x := (x : Int)) (by simpa using hn)
      have h2 := Rk.le (col_clo F hR) (rkQ_rk F hR (Q ++ [(x : Int)])) hfull fun y hy => by
        refine (col_clo F hR).mem _ _ ?_
        rw [List.mem_range]
        obtain ⟨z, hz, rfl⟩ := mem_gA.1 hy
        rcases List.mem_append.1 hz with hz | hz
        · obtain ⟨j, hj, rfl⟩ := List.mem_iff_getElem.1 hz
          have := hQ j hj
          rw [nth_getElem hj] at this
          omega
        · rw [List.mem_singleton] at hz; subst hz; simpa using hx
      have h3 : rkQ O L Q = Q.length := hg
      omega
    have hLS : RSub O El m L S := fun i hi => by
      -- the row less the combination of the systematic rows with its entries at the set
      have hcx : ∀ k, k < S.length → El (nth (pickL Q (nthR L i)) k) := fun k hk => by
        have hk2 : k < Q.length := by omega
        have := hQ k hk2
        rw [nth_pickL Q _ hk2]
        exact Vc.at (hR.row (i := i) hi) (by omega)
      obtain ⟨c1, c2⟩ := cmb_rs F hSr hcx S.length (Nat.le_refl _)
      have hd := (RS.row F (m := m) (O := O) (El := El) hi).comb F (hSL.rs c2) F.one
      obtain ⟨e, he, hx⟩ := hd
      have hz : ∀ x, x < m → O.add (nth (nthR L i) x) (O.neg (O.mul (nth (cmbTo O m (pickL Q (nthR L i)) S S.length) x) 1)) = 0 := fun x hxm => by
        have h1 : O.add (nth (nthR L i) x) (O.neg (O.mul (nth (cmbTo O m (pickL Q (nthR L i)) S S.length) x) 1)) = e (colS L x) := hx x hxm
        rw [h1]
        refine hclA x hxm e he fun y hy => ?_
        obtain ⟨q, hq, rfl⟩ := mem_gA.1 hy
        obtain ⟨j, hj, rfl⟩ := List.mem_iff_getElem.1 hq
        have hqj := hQ j hj
        rw [nth_getElem hj] at hqj
        have h2 : O.add (nth (nthR L i) (Q[j]).toNat) (O.neg (O.mul (nth (cmbTo O m (pickL Q (nthR L i)) S S.length) (Q[j]).toNat) 1)) = e (colS L (Q[j]).toNat) := hx _ (by omega)
        rw [← h2]
        have hvi : El (nth (nthR L i) (Q[j]).toNat) := Vc.at (hR.row (i := i) hi) (by omega)
        have h3 : nth (cmbTo O m (pickL Q (nthR L i)) S S.length) (Q[j]).toNat = nth (nthR L i) (Q[j]).toNat := by
          rw [cmb_dot F hSr hcx (by omega) _ (Nat.le_refl _)]
          have hone : ∀ t, t < S.length → nth (nthR S t) (Q[j]).toNat = if t = j then 1 else 0 := fun t ht => by
            obtain ⟨e', _, hy', hj'⟩ := hform t (by omega)
            have h4 := hj' j hj
            rw [nth_getElem hj] at h4
            rw [hy' _ (by omega), h4]
          have hpj : nth (pickL Q (nthR L i)) j = nth (nthR L i) (Q[j]).toNat := by rw [nth_pickL Q _ hj, nth_getElem hj]
          rw [dotN_one F (x := j) (by
            show El (O.mul (nth (pickL Q (nthR L i)) j) (nth (nthR S j) (Q[j]).toNat))
            rw [hone j (by omega), if_pos rfl, hpj, F.mone hvi]; exact hvi) S.length (fun p hp hpj => by
            show O.mul (nth (pickL Q (nthR L i)) p) (nth (nthR S p) (Q[j]).toNat) = 0
            rw [hone p hp, if_neg hpj, F.mzero (hcx p hp)]), if_pos (by omega)]
          show O.mul (nth (pickL Q (nthR L i)) j) (nth (nthR S j) (Q[j]).toNat) = _
          rw [hone j (by omega), if_pos rfl, hpj, F.mone hvi]
        rw [h3, F.mone hvi, F.add_neg _ hvi]
      refine c2.congr fun x hxm => ?_
      have h1 := hz x hxm
      have hvi : El (nth (nthR L i) x) := Vc.at (hR.row (i := i) hi) hxm
      have hvc := c1.at hxm
      rw [F.mone hvc] at h1
      have h4 := F.neg_of hvi (F.cl.neg _ hvc) h1
      have h5 := congrArg O.neg h4
      rw [F.neg_neg hvc, F.neg_neg hvi] at h5
      exact h5.symm
    exact can_uniq F (canO_rws F hSr) hR k1 hPv k2 hLd k3 hcl (s1.trans hSL) (hLS.trans s2)
end
end

/- Words with given entries at an information set (plain law). -/
section
theorem words_law {P M : Int} {mod : List Int} {m : Nat} {L : List (List Int)} (hE : codeE P M mod m L = 0) {Q : List Int} (hQ : InN m Q) (hl : Q.length = L.length) (hg : (grS (tblOf P M.toNat mod).ops L Q).length = Q.length)
    {v : List Int} (hvl : v.length = L.length) (hv : ∀ k, k < L.length → (tblOf P M.toNat mod).El (nth v k)) :
    Vc (tblOf P M.toNat mod).El m (cmbTo (tblOf P M.toNat mod).ops m v (sysL (tblOf P M.toNat mod).ops m L Q) L.length) ∧
    (∀ i, i < m → nth (redTo (tblOf P M.toNat mod).ops L (pivS (tblOf P M.toNat mod) L m) (cmbTo (tblOf P M.toNat mod).ops m v (sysL (tblOf P M.toNat mod).ops m L Q) L.length) L.length) i = 0) ∧
    pickL Q (cmbTo (tblOf P M.toNat mod).ops m v (sysL (tblOf P M.toNat mod).ops m L Q) L.length) = v := by
  obtain ⟨N', e, hm1, hm64, F, hR⟩ := codeE_fld hE
  obtain rfl : m = N' := by omega
  have h6 := (spaceE_zero (codeE_zero hE).2.2.2).2
  rw [Int.toNat_natCast] at h6
  have hcan : canO (tblOf P M.toNat mod).ops m L = L := h6
  obtain ⟨hPv, _⟩ := canO_piv F hR
  have hcl := canO_len F hR
  rw [hcan] at hPv hcl
  have hform := fun i hi => sys_form F hR hQ hl hg i hi
  obtain ⟨hSr, hSl, hSu, _⟩ := sys_law hE hQ hl hg
  obtain ⟨c1, c2⟩ := cmb_rs F hSr (x := v) (fun k hk => hv k (by omega)) L.length (by omega)
  have hSL : RSub (tblOf P M.toNat mod).ops (tblOf P M.toNat mod).El m (sysL (tblOf P M.toNat mod).ops m L Q) L := fun i hi => by
    obtain ⟨e, he, hy, _⟩ := hform i (by omega)
    exact ⟨e, he, hy⟩
  refine ⟨c1, red_zero F hR hPv hcl c1 (hSL.rs c2), ?_⟩
  refine nth_ext (by rw [hvl, ← hl]; simp [pickL]) fun j hj => ?_
  have hj2 : j < Q.length := by simpa [pickL] using hj
  have hqj := hQ j hj2
  rw [nth_pickL Q _ hj2, cmb_dot F hSr (fun k hk => hv k (by omega)) (by omega) _ (by omega)]
  have hone : ∀ t, t < L.length → nth (nthR (sysL (tblOf P M.toNat mod).ops m L Q) t) (nth Q j).toNat = if t = j then 1 else 0 := fun t ht => by
    obtain ⟨e', _, hy', hj'⟩ := hform t ht
    rw [hy' _ (by omega), hj' j hj2]
  have hvj := hv j (by omega)
  rw [dotN_one F (x := j) (by
    show (tblOf P M.toNat mod).El ((tblOf P M.toNat mod).ops.mul (nth v j) (nth (nthR (sysL (tblOf P M.toNat mod).ops m L Q) j) (nth Q j).toNat))
    rw [hone j (by omega), if_pos rfl, F.mone hvj]; exact hvj) L.length (fun p hp hpj => by
    show (tblOf P M.toNat mod).ops.mul (nth v p) (nth (nthR (sysL (tblOf P M.toNat mod).ops m L Q) p) (nth Q j).toNat) = 0
    rw [hone p hp, if_neg hpj, F.mzero (hv p hp)]), if_pos (by omega)]
  show (tblOf P M.toNat mod).ops.mul (nth v j) (nth (nthR (sysL (tblOf P M.toNat mod).ops m L Q) j) (nth Q j).toNat) = _
  rw [hone j (by omega), if_pos rfl, F.mone hvj]
end

/- The walk of matrix.Vec, at valid arguments. -/
section
open Go.RowKit

set_option maxRecDepth 100000 in
set_option maxHeartbeats 4000000 in
theorem vecM_any (P M : Int) (am : Option Addr) (mn cm : Nat) (mod : List Int) (ax : Option Addr) (cx : Nat) (x : List Int) (m : Nat) (a : Option Addr) (n c : Nat) (L : List (List Int)) (w : World) (hmod : Ints w am mn mod) (hx : Ints w ax n x) (hi : Mat w a n L)
    (hfB : fieldB P M mod = true) (hR : Rws (tblOf P M.toNat mod).El m L) (hxe : ∀ k, k < n → (tblOf P M.toNat mod).El (nth x k)) (hm1 : 1 ≤ m) (hm : m ≤ 64) (hn : n ≤ 256) :
    Calls Tryz.prog 56 #[.agg #[.int .i64 P, .int .i64 M, .slice am mn cm], .slice ax n cx, .agg #[.int .i64 m, .slice a n c]] w
      fun e w' => ∃ a1 c1, e = .returned (.tuple #[.slice a1 m c1, .int .i64 0]) ∧ Ints w' a1 m (cmbTo (tblOf P M.toNat mod).ops m x L n) ∧ Below w.heap.size w w' := by
  have hLl := hi.len
  have F := fieldB_fld hfB
  have hmE1 : matE (tblOf P M.toNat mod).q m L = 0 := (fmatE_zero (fmatE_mk hfB (show m ≤ 256 by omega) (show L.length ≤ 256 by omega) hR)).2
  have hel : elsE (tblOf P M.toNat mod).q x = 0 := by
    unfold elsE
    rw [if_pos]
    unfold elsQ isQ
    rw [List.all_eq_true]
    intro y hy
    obtain ⟨k, hk, rfl⟩ := List.mem_iff_getElem.1 hy
    have h1 := hxe k (by rw [← hx.len]; exact hk)
    rw [nth_getElem hk] at h1
    unfold Tbl.El at h1
    simp
    exact h1
  have hpla := hi.pl
  obtain ⟨G, hGG⟩ : ∃ G, tblOf P M.toNat mod = G := ⟨_, rfl⟩
  rw [hGG] at hR F hmE1 hxe hel ⊢
  have HK := Lib.hid (And.intro hfB (And.intro hR (And.intro hmE1 (And.intro hxe (And.intro F hel)))))
  have HGG := Lib.hid hGG
  clear hfB hR hmE1 hxe F hLl hGG hel
  go_enter Tryz.func56, Tryz.ntmps56
  go_wp2_with fail
  obtain ⟨W, hW⟩ : ∃ W : World, W = ((w.alloc (.cells #[.int .i64 P, .int .i64 M, .slice am mn cm] 24)).alloc (.cells #[.int .i64 m, .slice a n c] 62)).alloc (.cells #[.int .i64 m, .slice a n c] 62) := ⟨_, rfl⟩
  rw [← hW]
  have hbW : Below w.heap.size w W := by rw [hW]; exact below3 _ _ _ _
  have x1 : Box W (w.heap.size + 1) [.int .i64 m, .slice a n c] := by rw [hW]; exact (Box.new _ _ _ (by simp)).alloc _
  have q3 : ∀ i v, [Value.int .i64 m, .slice a n c][i]? = some v → W.cell? ⟨w.heap.size + 1 + 1, i, none⟩ = some v := fun i v hv => by
    have h : Box W (w.heap.size + 1 + 1) [.int .i64 m, .slice a n c] := by rw [hW]; exact Box.new _ _ _ (by simp)
    exact h.cell i hv
  have hMs : Mats W (some ⟨w.heap.size + 1 + 1, 0, none⟩) 1 [((m : Int), L)] := ⟨rfl, fun _ => rfl, by unfold maxLen; omega, fun i hi' => by
    have : i = 0 := by simp at hi'; omega
    subst this
    exact ⟨a, n, c, by simpa using q3 0 _ rfl, by simpa using q3 1 _ rfl, hi.keep hbW⟩⟩
  have HX := Lib.hid x1
  have HbW := Lib.hid hbW
  clear hW x1 q3
  refine (open_any P M am mn cm mod _ 1 1 _ W (hmod.keep hbW) hMs).mono ?_
  rintro e w1 ⟨hb1, hcase⟩
  have hms : matsE (tblOf P M.toNat mod).q [((m : Int), L)] = 0 := by
    rw [HGG.out]
    simp [matsE, HK.out.2.2.1]
  rcases hcase with ⟨hB, _⟩ | ⟨_, er, h0, h1, _⟩ | ⟨_, _, b, rfl, hG, hbl⟩
  · rw [HK.out.1] at hB; exact absurd hB (by decide)
  · rw [hms] at h1; exact absurd h1.symm h0
  rw [HGG.out] at hG
  have hbw1 := Below.next hbW hb1
  have r1 := HX.out.keep hb1
  have m0 := r1.cell 0 rfl
  have m1 := r1.cell 1 rfl
  have hnn : ((n : Int) != n) = false := by simp
  have hx1 := hx.keep hbw1
  have hi1 := hi.keep hbw1
  have he := entries_any ax n cx x hG hx1
  rw [HK.out.2.2.2.2.2] at he
  have He := Lib.hid he
  have Hv := Lib.hid (vec_any ax cx x a n c L m hG HK.out.2.2.2.2.1 hx1 hi1 HK.out.2.2.2.1 HK.out.2.1 hm1 (by omega) (by omega))
  clear hMs hbW r1 hbl hmod hms he hx1 hi1 hG hx hi
  go_wp2_with fail
  refine He.out.mono ?_
  rintro e w2 ⟨rfl, rfl⟩
  go_wp2_with fail
  refine Hv.out.mono ?_
  rintro e w3 ⟨a3, c3, rfl, hown, hb3⟩
  have hF := Lib.hid (And.intro (Ints.own hown).1 (Below.next hbw1 hb3))
  clear hown
  go_wp2_with fail
  go_ret2
  exact ⟨a3, c3, rfl, hF.out.1, hF.out.2⟩
end

/- The walks of space.view's word, reduce, has; zero; code.list. -/
section
open Go.RowKit

theorem elB {G : Tbl} {x : Int} (h : G.El x) : (decide (0 ≤ x) && decide (x < G.q)) = true := by
  unfold Tbl.El at h
  simp
  exact h

set_option maxHeartbeats 1000000 in
theorem listNo_any {w : World} {b : Nat} {G : Tbl} (q : Nat) (x : Int) (hc : w.cell? ⟨q, 0, none⟩ = some (.pointer (some ⟨b, 0, none⟩))) (h : GFw w b G) (hx : G.El x) :
    Calls Tryz.prog 140 #[.int .i64 x, .pointer (some ⟨q, 0, none⟩)] w fun e w' => e = .returned (.bool false) ∧ w = w' := by
  have hB := elB hx
  go_enter Tryz.func140, Tryz.ntmps140
  go_wp2_with fail
  refine (gIs x h).mono ?_
  rintro e w' ⟨rfl, rfl⟩
  rw [hB]
  go_wp2_with fail
  go_ret
  exact ⟨rfl, rfl⟩
set_option maxHeartbeats 1000000 in
theorem wordNo_any {w : World} {b : Nat} {G : Tbl} (q : Nat) (x : Int) (hc : w.cell? ⟨q, 0, none⟩ = some (.pointer (some ⟨b, 0, none⟩))) (h : GFw w b G) (hx : G.El x) :
    Calls Tryz.prog 154 #[.int .i64 x, .pointer (some ⟨q, 0, none⟩)] w fun e w' => e = .returned (.bool false) ∧ w = w' := by
  have hB := elB hx
  go_enter Tryz.func154, Tryz.ntmps154
  go_wp2_with fail
  refine (gIs x h).mono ?_
  rintro e w' ⟨rfl, rfl⟩
  rw [hB]
  go_wp2_with fail
  go_ret
  exact ⟨rfl, rfl⟩
theorem zeroNo_any (x : Int) (w : World) (hx : x = 0) : Calls Tryz.prog 193 #[.int .i64 x] w fun e w' => e = .returned (.bool false) ∧ w = w' := by
  subst hx
  go_enter Tryz.func193, Tryz.ntmps193
  go_wp2
  go_ret
  exact ⟨rfl, rfl⟩

set_option maxRecDepth 100000 in
set_option maxHeartbeats 1600000 in
theorem indexL_any (q : Nat) (a : Option Addr) (n c : Nat) (l : List Int) (w : World) (hi : Ints w a n l) (hf : ∀ k, k < n → Calls Tryz.prog 140 #[.int .i64 (nth l k), .pointer (some ⟨q, 0, none⟩)] w fun e w' => e = .returned (.bool false) ∧ w = w') :
    Calls Tryz.prog 159 #[.slice a n c, .func (.func 140) #[] #[.pointer (some ⟨q, 0, none⟩)]] w fun e w' => e = .returned (.int .i64 (-1)) ∧ w = w' := by
  have hpl := hi.pl
  have hmax := hi.max
  have HF := Lib.hid hf
  unfold maxLen at hmax
  clear hf
  go_enter Tryz.func159, Tryz.ntmps159
  go_wp2_with fail
  go_loop [8] (fun iv => ∃ k : Nat, k ≤ n ∧ iv = .int .i64 k) (fun iv => n - (intOf iv).toNat)
  case atStart => exact ⟨0, Nat.zero_le _, rfl⟩
  case round =>
    obtain ⟨k, hk, rfl⟩ := hrel
    by_cases hlt : k < n
    · have ck := hi.cell k hlt
      have Hk := Lib.hid (HF.out k hlt)
      go_wp2_with fail
      refine Hk.out.mono ?_
      rintro e w' ⟨rfl, rfl⟩
      go_wp2_with fail
      go_round
      case rel => exact ⟨k + 1, by omega, by go_num⟩
      case measure => simp [intOf] <;> omega
    · obtain rfl : k = n := by omega
      go_wp2_with fail
      go_ret
      exact ⟨rfl, rfl⟩
theorem containsL_any (q : Nat) (a : Option Addr) (n c : Nat) (l : List Int) (w : World) (hi : Ints w a n l) (hf : ∀ k, k < n → Calls Tryz.prog 140 #[.int .i64 (nth l k), .pointer (some ⟨q, 0, none⟩)] w fun e w' => e = .returned (.bool false) ∧ w = w') :
    Calls Tryz.prog 139 #[.slice a n c, .func (.func 140) #[] #[.pointer (some ⟨q, 0, none⟩)]] w fun e w' => e = .returned (.bool false) ∧ w = w' := by
  have Hc := Lib.hid (indexL_any q a n c l w hi hf)
  clear hf
  go_enter Tryz.func139, Tryz.ntmps139
  go_wp2_with fail
  refine Hc.out.mono ?_
  rintro e w' ⟨rfl, rfl⟩
  go_wp2_with fail
  go_ret
  exact ⟨rfl, rfl⟩

set_option maxRecDepth 100000 in
set_option maxHeartbeats 1600000 in
theorem indexVw_any (q : Nat) (a : Option Addr) (n c : Nat) (l : List Int) (w : World) (hi : Ints w a n l) (hf : ∀ k, k < n → Calls Tryz.prog 154 #[.int .i64 (nth l k), .pointer (some ⟨q, 0, none⟩)] w fun e w' => e = .returned (.bool false) ∧ w = w') :
    Calls Tryz.prog 159 #[.slice a n c, .func (.func 154) #[] #[.pointer (some ⟨q, 0, none⟩)]] w fun e w' => e = .returned (.int .i64 (-1)) ∧ w = w' := by
  have hpl := hi.pl
  have hmax := hi.max
  have HF := Lib.hid hf
  unfold maxLen at hmax
  clear hf
  go_enter Tryz.func159, Tryz.ntmps159
  go_wp2_with fail
  go_loop [8] (fun iv => ∃ k : Nat, k ≤ n ∧ iv = .int .i64 k) (fun iv => n - (intOf iv).toNat)
  case atStart => exact ⟨0, Nat.zero_le _, rfl⟩
  case round =>
    obtain ⟨k, hk, rfl⟩ := hrel
    by_cases hlt : k < n
    · have ck := hi.cell k hlt
      have Hk := Lib.hid (HF.out k hlt)
      go_wp2_with fail
      refine Hk.out.mono ?_
      rintro e w' ⟨rfl, rfl⟩
      go_wp2_with fail
      go_round
      case rel => exact ⟨k + 1, by omega, by go_num⟩
      case measure => simp [intOf] <;> omega
    · obtain rfl : k = n := by omega
      go_wp2_with fail
      go_ret
      exact ⟨rfl, rfl⟩
theorem containsV_any (q : Nat) (a : Option Addr) (n c : Nat) (l : List Int) (w : World) (hi : Ints w a n l) (hf : ∀ k, k < n → Calls Tryz.prog 154 #[.int .i64 (nth l k), .pointer (some ⟨q, 0, none⟩)] w fun e w' => e = .returned (.bool false) ∧ w = w') :
    Calls Tryz.prog 139 #[.slice a n c, .func (.func 154) #[] #[.pointer (some ⟨q, 0, none⟩)]] w fun e w' => e = .returned (.bool false) ∧ w = w' := by
  have Hc := Lib.hid (indexVw_any q a n c l w hi hf)
  clear hf
  go_enter Tryz.func139, Tryz.ntmps139
  go_wp2_with fail
  refine Hc.out.mono ?_
  rintro e w' ⟨rfl, rfl⟩
  go_wp2_with fail
  go_ret
  exact ⟨rfl, rfl⟩

set_option maxRecDepth 100000 in
set_option maxHeartbeats 1600000 in
theorem indexZ_any (a : Option Addr) (n c : Nat) (l : List Int) (w : World) (hi : Ints w a n l) (hf : ∀ k, k < n → Calls Tryz.prog 193 #[.int .i64 (nth l k)] w fun e w' => e = .returned (.bool false) ∧ w = w') :
    Calls Tryz.prog 159 #[.slice a n c, .func (.func 193) #[] #[]] w fun e w' => e = .returned (.int .i64 (-1)) ∧ w = w' := by
  have hpl := hi.pl
  have hmax := hi.max
  have HF := Lib.hid hf
  unfold maxLen at hmax
  clear hf
  go_enter Tryz.func159, Tryz.ntmps159
  go_wp2_with fail
  go_loop [8] (fun iv => ∃ k : Nat, k ≤ n ∧ iv = .int .i64 k) (fun iv => n - (intOf iv).toNat)
  case atStart => exact ⟨0, Nat.zero_le _, rfl⟩
  case round =>
    obtain ⟨k, hk, rfl⟩ := hrel
    by_cases hlt : k < n
    · have ck := hi.cell k hlt
      have Hk := Lib.hid (HF.out k hlt)
      go_wp2_with fail
      refine Hk.out.mono ?_
      rintro e w' ⟨rfl, rfl⟩
      go_wp2_with fail
      go_round
      case rel => exact ⟨k + 1, by omega, by go_num⟩
      case measure => simp [intOf] <;> omega
    · obtain rfl : k = n := by omega
      go_wp2_with fail
      go_ret
      exact ⟨rfl, rfl⟩
theorem containsZ_any (a : Option Addr) (n c : Nat) (l : List Int) (w : World) (hi : Ints w a n l) (hf : ∀ k, k < n → Calls Tryz.prog 193 #[.int .i64 (nth l k)] w fun e w' => e = .returned (.bool false) ∧ w = w') :
    Calls Tryz.prog 139 #[.slice a n c, .func (.func 193) #[] #[]] w fun e w' => e = .returned (.bool false) ∧ w = w' := by
  have Hc := Lib.hid (indexZ_any a n c l w hi hf)
  clear hf
  go_enter Tryz.func139, Tryz.ntmps139
  go_wp2_with fail
  refine Hc.out.mono ?_
  rintro e w' ⟨rfl, rfl⟩
  go_wp2_with fail
  go_ret
  exact ⟨rfl, rfl⟩

theorem zeroAll_any (a : Option Addr) (n c : Nat) (l : List Int) (w : World) (hi : Ints w a n l) (h0 : ∀ k, k < n → nth l k = 0) :
    Calls Tryz.prog 156 #[.slice a n c] w fun e w' => e = .returned (.bool true) ∧ w = w' := by
  have Hc := Lib.hid (containsZ_any a n c l w hi fun k hk => zeroNo_any (nth l k) w (h0 k hk))
  clear h0
  go_enter Tryz.func156, Tryz.ntmps156
  go_wp2_with fail
  refine Hc.out.mono ?_
  rintro e w' ⟨rfl, rfl⟩
  go_wp2_with fail
  go_ret
  exact ⟨rfl, rfl⟩

set_option maxHeartbeats 1600000 in
theorem viewWord_any {w : World} {b : Nat} {G : Tbl} (m : Nat) (a : Option Addr) (n c : Nat) (ap : Option Addr) (np cp : Nat) (ax : Option Addr) (cx : Nat) (x : List Int) (h : GFw w b G) (hx : Ints w ax m x) (hxe : Vc G.El m x) :
    Calls Tryz.prog 115 #[.agg #[.pointer (some ⟨b, 0, none⟩), .int .i64 m, .slice a n c, .slice ap np cp], .slice ax m cx] w fun e w' => e = .returned (.int .i64 0) ∧ Below w.heap.size w w' := by
  go_enter Tryz.func115, Tryz.ntmps115
  go_wp2_with fail
  obtain ⟨W, hW⟩ : ∃ W : World, W = w.alloc (.cells #[.pointer (some ⟨b, 0, none⟩), .int .i64 m, .slice a n c, .slice ap np cp] 126) := ⟨_, rfl⟩
  rw [← hW]
  have hbW : Below w.heap.size w W := by rw [hW]; exact below1 _ _
  have x0 : Box W w.heap.size [.pointer (some ⟨b, 0, none⟩), .int .i64 m, .slice a n c, .slice ap np cp] := by rw [hW]; exact Box.new _ _ _ rfl
  have c0 := x0.cell 0 rfl
  have c1 := x0.cell 1 rfl
  have hmm : ((m : Int) != m) = false := by simp
  have Hc := Lib.hid (containsV_any w.heap.size ax m cx x W (hx.keep hbW) fun k hk =>
    wordNo_any w.heap.size (nth x k) c0 (h.keep hbW) (hxe.at hk))
  clear hW x0
  go_wp2_with fail
  refine Hc.out.mono ?_
  rintro e w' ⟨rfl, rfl⟩
  go_wp2_with fail
  go_ret
  exact ⟨rfl, hbW⟩

set_option maxRecDepth 100000 in
set_option maxHeartbeats 4000000 in
theorem reduce_any {w : World} {b : Nat} {G : Tbl} (m : Nat) (a : Option Addr) (n c : Nat) (R : List (List Int)) (ap : Option Addr) (cp : Nat) (Pv : List Int) (ax : Option Addr) (cx : Nat) (x : List Int)
    (h : GFw w b G) (hi : Mat w a n R) (hp : Ints w ap n Pv) (hx : Ints w ax m x) (hOk : BS.Ok G.El m ⟨R, Pv⟩) (hxe : Vc G.El m x) (hn : n ≤ 1000000) (hm : m ≤ 1000000) :
    Calls Tryz.prog 155 #[.agg #[.pointer (some ⟨b, 0, none⟩), .int .i64 m, .slice a n c, .slice ap n cp], .slice ax m cx] w
      fun e w' => ∃ a1 c1 v2, e = .returned (.tuple #[.slice a1 m c1, v2]) ∧ Ints w' a1 m (redTo G.ops R Pv x n) ∧ Below w.heap.size w w' := by
  have hcl := Tbl.cl h
  have hrl : R.length = n := hi.len
  have hred := redTo_el hcl hOk.rws (Q := Pv) hOk.plc hxe
  have Hred := Lib.hid hred
  have HOk := Lib.hid hOk
  have Hrl := Lib.hid hrl
  have Hxl := Lib.hid hxe.1
  have hplp := hp.pl
  have hplr := hi.pl
  clear hred hOk hrl hcl
  go_enter Tryz.func155, Tryz.ntmps155
  go_wp2_with fail
  obtain ⟨W, hW⟩ : ∃ W : World, W = w.alloc (.cells #[.pointer (some ⟨b, 0, none⟩), .int .i64 m, .slice a n c, .slice ap n cp] 126) := ⟨_, rfl⟩
  rw [← hW]
  have hbW : Below w.heap.size w W := by rw [hW]; exact below1 _ _
  have x0 : Box W w.heap.size [.pointer (some ⟨b, 0, none⟩), .int .i64 m, .slice a n c, .slice ap n cp] := by rw [hW]; exact Box.new _ _ _ rfl
  have HX := Lib.hid x0
  have HbW := Lib.hid hbW
  clear hW x0
  refine (clone1_any ax m cx x (hx.keep hbW) hm).mono ?_
  rintro e w1 ⟨a1, c1, rfl, hown1, hb1⟩
  rw [Hxl.out] at hown1 ⊢
  have ha1 : a1 ≠ none → ablk a1 < w1.heap.size := fun h0 => (own_ne hown1 h0).2
  have ha1W : a1 ≠ none → W.heap.size ≤ ablk a1 := fun h0 => (own_ne hown1 h0).1
  have x1 := HX.out.keep hb1
  have q2 := x1.cell 2 rfl
  have q3 := x1.cell 3 rfl
  have hs1 := hb1.size
  clear x1
  go_wp2_with fail
  go_loopw [5, 16] (fun tv iv wr => ∃ (k : Nat) (at' : Option Addr) (ct : Nat) (xs : List Value), k ≤ n ∧ iv = .int .i64 k ∧ tv = .slice at' k ct ∧ wr.ownsRow W.heap.size 3 1 (.slice a1 m c1) m ((redTo G.ops R Pv x k).map (Value.int .i64)) ∧
      wr.ownsRow w1.heap.size 3 1 (.slice at' k ct) k xs ∧ Below W.heap.size W wr ∧ w1.heap.size ≤ wr.heap.size) (fun _ iv _ => n - (intOf iv).toNat)
  case atStart => exact ⟨0, none, 0, [], Nat.zero_le _, rfl, rfl, hown1, own_none, hb1, Nat.le_refl _⟩
  case round =>
    clear q2 q3 hown1
    obtain ⟨k, at', ct, xs, hkn, rfl, rfl, hown, hopt, hbr, hsr⟩ := hrel
    have xr := HX.out.keep hbr
    have hbwr := Below.next HbW.out hbr
    by_cases hlt : k < n
    · have hkr : k < R.length := by rw [Hrl.out]; exact hlt
      have hrow := HOk.out.rws.row hkr
      have hplc : 0 ≤ nth Pv k ∧ nth Pv k < m := HOk.out.plc k hkr
      obtain ⟨ra, rn, rc, er, ir⟩ := hi.cell k hlt
      have hrn : rn = m := by rw [← ir.len]; exact hrow.1
      rw [hrn] at er ir
      have ep := (hp.keep hbwr).cell k hlt
      obtain ⟨pn, hpn⟩ : ∃ pn : Nat, nth Pv k = pn := ⟨(nth Pv k).toNat, by omega⟩
      rw [hpn] at ep hplc
      have hpnn : pn < m := by omega
      have hrd := Hred.out k (by omega)
      have hrd1 := Hred.out (k + 1) (by omega)
      have hstep : redTo G.ops R Pv x (k + 1) = redStep G.ops (redTo G.ops R Pv x k) pn (nthR R k) := by rw [redTo, hpn]
      have Hstep := Lib.hid hstep
      have Hrow := Lib.hid hrow
      clear hstep hpn hrn
      obtain ⟨u, hu⟩ : ∃ u, redTo G.ops R Pv x k = u := ⟨_, rfl⟩
      rw [hu] at hown hrd
      have Hu := Lib.hid hu
      obtain ⟨iu, mu⟩ := Ints.own hown
      have eu := iu.cell pn hpnn
      have hpu := iu.pl
      have Hrd := Lib.hid hrd
      clear hu hrow hrd hrd1
      have hne1 : a1 ≠ none := fun e => by
        have := hpu (by omega)
        rw [e] at this; cases this
      have ha1' := ha1 hne1
      have hapt : Apt at' (ablk a1) := by
        by_cases h0 : at' = none
        · exact .inl h0
        · have := (own_ne hopt h0).1
          exact .inr (by omega)
      have hcn := cell_new wr (.int .i64 (nth u pn)) 3
      have hbn := below1 wr (.cells #[.int .i64 (nth u pn)] 3)
      have hbnx := Below.trans hbr (hbn.mono (by omega))
      have HN5 : Hid (∀ (a5 : Option Addr) (c5 : Nat) (w5 : World), (wr.alloc (.cells #[.int .i64 (nth u pn)] 3)).grownBy w5 (Value.slice at' k ct).ownBlock → Below W.heap.size W w5 ∧ w5.ownsRow W.heap.size 3 1 (.slice a1 m c1) m (u.map (Value.int .i64)) ∧ w1.heap.size ≤ w5.heap.size) := fun a5 c5 w5 hgr5 =>
        ⟨Below.app hbnx (hopt.alloc _) hgr5 (by omega) (by simp; omega), own_grownApt (hown.alloc _) hgr5 hapt, by have := hgr5.size; simp at this; omega⟩
      clear hbnx mu
      by_cases hz : nth u pn = 0
      · have hz' : (nth u pn != 0) = false := by simpa using hz
        have Hn : Hid (redTo G.ops R Pv x (k + 1) = u) := by show _ = _; rw [Hstep.out, Hu.out, redStep, Int.toNat_natCast, if_pos hz]
        clear hz
        go_wp2_with (at_builtin; refine wpList_push rfl _ _ 22 3 rfl (.int .i64 0) 8 Tryz.underlying22 infoInt rfl w1.heap.size at' k ct xs rfl (hopt.alloc _) ⟨wr.heap.size, 0, none⟩ 1 (.int .i64 (nth u pn)) rfl hcn rfl (by omega) (by unfold maxLen; omega) (by simp; omega) ?_; intro a5 c5 w5 hown5 hgr5 hap5)
        go_roundw
        case rel =>
          obtain ⟨h1, h2, h3⟩ := HN5.out a5 c5 w5 hgr5
          exact ⟨k + 1, a5, c5, _, by omega, by go_num, rfl, by rw [Hn.out]; exact h2, hown5, h1, h3⟩
        case measure => simp [intOf] <;> omega
      · have hz' : (nth u pn != 0) = true := by simpa using hz
        have Hn : Hid (redTo G.ops R Pv x (k + 1) = subRow G.ops u (nth u pn) (nthR R k)) := by show _ = _; rw [Hstep.out, Hu.out, redStep, Int.toNat_natCast, if_neg hz]
        have hxe2 : G.El (nth u pn) := Hrd.out.2 _ (nth_mem (by rw [Hrd.out.1]; exact hpnn))
        have hSl : (subRow G.ops u (nth u pn) (nthR R k)).length = u.length := subRow_length _ _ _ _ (by rw [Hrow.out.1, Hrd.out.1])
        have hSn := fun i hi => nth_subRow G.ops u (nth u pn) (nthR R k) i (by rw [Hrow.out.1, Hrd.out.1]) hi
        have HSl := Lib.hid hSl
        have HSn := Lib.hid hSn
        clear hz hSl hSn
        have hplr2 := ir.pl
        go_upto_region 8 with (at_builtin; refine wpList_push rfl _ _ 22 3 rfl (.int .i64 0) 8 Tryz.underlying22 infoInt rfl w1.heap.size at' k ct xs rfl (hopt.alloc _) ⟨wr.heap.size, 0, none⟩ 1 (.int .i64 (nth u pn)) rfl hcn rfl (by omega) (by unfold maxLen; omega) (by simp; omega) ?_; intro a5 c5 w5 hown5 hgr5 hap5)
        obtain ⟨hbU, hownU, hsU⟩ := HN5.out a5 c5 w5 hgr5
        have hna5 : a5 ≠ none → ¬ (a1 ≠ none ∧ ablk a5 = ablk a1) := fun h0 h1 => by
          have := (own_ne hown5 h0).1
          omega
        clear HN5 hgr5 hap5 hcn hbn eu iu ep xr hown hopt hapt
        generalize w5 = U at *
        have hbwU := Below.next HbW.out hbU
        have xU := HX.out.keep hbU
        have q1 := xU.cell 1 rfl
        have q2 := xU.cell 2 rfl
        have erU := cell_keep hbwU er
        clear xU
        go_wp2_with fail
        clear q1 q2 erU
        generalize nth u pn = y at *
        generalize subRow G.ops u y (nthR R k) = S at *
        go_loopw [38] (fun iv wx => ∃ j : Nat, j ≤ m ∧ iv = .int .i64 j ∧ wx.ownsRow W.heap.size 3 1 (.slice a1 m c1) m ((mixTo S u j).map (Value.int .i64)) ∧ Only a1 U wx) (fun iv _ => m - (intOf iv).toNat)
        case atStart => exact ⟨0, Nat.zero_le _, rfl, by rw [mixTo_zero]; exact hownU, Only.refl _ _⟩
        case round =>
          clear hownU
          obtain ⟨j, hj, rfl, hown2, honly2⟩ := hrel
          have hbx0 : Below W.heap.size U wr := honly2.below ha1W hbU.size
          have hbx := Below.trans hbU hbx0
          have hbwx := Below.next HbW.out hbx
          by_cases hjn : j < m
          · have cj := (ir.keep hbwx).cell j hjn
            have f0 := (HX.out.keep hbx).cell 0 rfl
            obtain ⟨im, mm⟩ := Ints.own hown2
            have cm := im.cell j hjn
            have fm := (mm (by omega)).2 j hjn
            have hju : j < u.length := by rw [Hrd.out.1]; exact hjn
            have hmix := nth_mixTo S u j j HSl.out (by omega)
            rw [if_neg (by omega)] at hmix
            rw [hmix] at cm
            have hset := mixTo_set S u j HSl.out hju
            rw [HSn.out j hju] at hset
            have Hset := Lib.hid hset
            have ely : G.El (nth (nthR R k) j) := Hrow.out.2 _ (nth_mem (by rw [Hrow.out.1]; exact hjn))
            have elv : G.El (nth u j) := Hrd.out.2 _ (nth_mem hju)
            have hGr : GFw wr b G := h.keep hbwx
            have elm : ∀ x y, G.El (G.mul x y) := fun x y => Tbl.mul_el h x y
            have HG : Hid (GFw wr.drew b G ∧ ∀ n, GFw (wr.drewN n) b G) := ⟨hGr.keep (Below.refl _ _).drew, fun n => hGr.drewN n⟩
            clear hset hmix
            go_wp2_with fail
            go_region_law ((first
              | (go_simp; go_at_call 158; ((with_reducible refine (gMul y (nth (nthR R k) j) HG.out.1 hxe2 ely).mono ?_); rintro e w4 ⟨m4, rfl, rfl⟩))
              | (go_simp; go_at_call 158; ((with_reducible refine (gMul y (nth (nthR R k) j) (HG.out.2 _) hxe2 ely).mono ?_); rintro e w4 ⟨m4, rfl, rfl⟩))
              | (go_simp; go_at_call 157; ((with_reducible refine (gSub (nth u j) (G.mul y (nth (nthR R k) j)) (HG.out.2 _) elv (elm _ _)).mono ?_); rintro e w4 ⟨m5, rfl, rfl⟩))))
            all_goals (
              go_wp2_with fail
              go_roundw
              case rel =>
                have hdr : Drawn wr (wr.drewN (1 + m4 + m5)) := ⟨_, rfl⟩
                refine ⟨j + 1, by omega, by go_num, ?_, honly2.trans ((Only.drawn hdr).trans (Only.set _ j _ hne1))⟩
                have h1 := own_set (w := wr.drewN (1 + m4 + m5)) hown2 j hjn (.int .i64 (G.sub (nth u j) (G.mul y (nth (nthR R k) j))))
                rw [← List.map_set, show G.sub (nth u j) (G.mul y (nth (nthR R k) j)) = G.ops.add (nth u j) (G.ops.neg (G.ops.mul y (nth (nthR R k) j))) from rfl, Hset.out] at h1
                exact h1
              case measure => simp [intOf] <;> omega)
          · obtain rfl : j = m := by omega
            rw [mixTo_all S u j (by rw [HSl.out, Hrd.out.1]) Hrd.out.1] at hown2
            have hown6 := Moves.own honly2 hown5 hna5
            have hsx := honly2.size
            go_wp2_with fail
            go_roundw
            case rel => exact ⟨k + 1, a5, c5, _, by omega, by go_num, rfl, by rw [Hn.out]; exact hown2, hown6, hbx, by omega⟩
            case measure => simp [intOf] <;> omega
    · obtain rfl : k = n := by omega
      have hF := (Ints.own hown).1
      have HF := Lib.hid hF
      clear hF hown hopt xr
      go_wp2_with fail
      go_ret2
      exact ⟨a1, c1, _, rfl, HF.out, hbwr⟩

set_option maxRecDepth 100000 in
set_option maxHeartbeats 4000000 in
theorem viewHas_any {w : World} {b : Nat} {G : Tbl} (m : Nat) (a : Option Addr) (n c : Nat) (R : List (List Int)) (ap : Option Addr) (cp : Nat) (Pv : List Int) (ax : Option Addr) (cx : Nat) (x : List Int)
    (h : GFw w b G) (hi : Mat w a n R) (hp : Ints w ap n Pv) (hx : Ints w ax m x) (hOk : BS.Ok G.El m ⟨R, Pv⟩) (hxe : Vc G.El m x) (hn : n ≤ 1000000) (hm : m ≤ 1000000) (h0 : ∀ i, i < m → nth (redTo G.ops R Pv x n) i = 0) :
    Calls Tryz.prog 116 #[.agg #[.pointer (some ⟨b, 0, none⟩), .int .i64 m, .slice a n c, .slice ap n cp], .slice ax m cx] w
      fun e w' => e = .returned (.bool true) ∧ Below w.heap.size w w' := by
  have H0 := Lib.hid h0
  clear h0
  go_enter Tryz.func116, Tryz.ntmps116
  go_wp2_with fail
  obtain ⟨W, hW⟩ : ∃ W : World, W = w.alloc (.cells #[.pointer (some ⟨b, 0, none⟩), .int .i64 m, .slice a n c, .slice ap n cp] 126) := ⟨_, rfl⟩
  rw [← hW]
  have hbW : Below w.heap.size w W := by rw [hW]; exact below1 _ _
  clear hW
  refine (reduce_any m a n c R ap cp Pv ax cx x (h.keep hbW) (hi.keep hbW) (hp.keep hbW) (hx.keep hbW) hOk hxe hn hm).mono ?_
  rintro e w1 ⟨a1, c1, v2, rfl, hI1, hb1⟩
  have Hz := Lib.hid (zeroAll_any a1 m c1 _ w1 hI1 H0.out)
  have hF := Below.next hbW hb1
  clear hI1 hOk hxe
  go_wp2_with fail
  refine Hz.out.mono ?_
  rintro e w2 ⟨rfl, rfl⟩
  go_wp2_with fail
  go_ret
  exact ⟨rfl, hF⟩
end

/- The walks of code.list, word, space.Has, code.Has, at words of the code. -/
section
open Go.RowKit

set_option maxRecDepth 100000 in
set_option maxHeartbeats 4000000 in
theorem codeList_any (P M : Int) (am : Option Addr) (mn cm : Nat) (mod : List Int) (ax : Option Addr) (n cx : Nat) (x : List Int) (w : World) (hmod : Ints w am mn mod) (hx : Ints w ax n x) (hB : fieldB P M mod = true) (hxe : Vc (tblOf P M.toNat mod).El n x) :
    Calls Tryz.prog 98 #[.agg #[.int .i64 P, .int .i64 M, .slice am mn cm], .slice ax n cx, .int .i64 n] w fun e w' => e = .returned (.int .i64 0) ∧ Below w.heap.size w w' := by
  go_enter Tryz.func98, Tryz.ntmps98
  go_upto_region 1 with fail
  obtain ⟨W, hW⟩ : ∃ W : World, W = w.alloc (.cells #[.int .i64 P, .int .i64 M, .slice am mn cm] 24) := ⟨_, rfl⟩
  rw [← hW]
  have hbW : Below w.heap.size w W := by rw [hW]; exact below1 _ _
  have x0 : Box W w.heap.size [.int .i64 P, .int .i64 M, .slice am mn cm] := by rw [hW]; exact Box.new _ _ _ rfl
  have c0 := x0.cell 0 rfl
  have c1 := x0.cell 1 rfl
  have c2 := x0.cell 2 rfl
  have hnn : ((n : Int) != n) = false := by simp
  clear hW x0
  go_wp2_with fail
  refine (fieldNew_any P M am mn cm mod W (hmod.keep hbW)).mono ?_
  rintro e w4 (⟨hB2, _, _⟩ | ⟨_, b, rfl, hG, hbl, hb4⟩)
  · rw [hB] at hB2; cases hB2
  have hbw4 := Below.next hbW hb4
  have hb5 := below1 w4 (.cells #[.pointer (some ⟨b, 0, none⟩)] 89)
  have hc5 := cell_new w4 (.pointer (some ⟨b, 0, none⟩)) 89
  have Hc := Lib.hid (containsL_any w4.heap.size ax n cx x _ (hx.keep (Below.next hbw4 hb5)) fun k hk => listNo_any w4.heap.size (nth x k) hc5 (hG.gf.keep hb5) (hxe.at hk))
  have hF := Below.next hbw4 hb5
  have HF := Lib.hid hF
  clear c0 c1 c2 hG hbl hB hxe hF
  go_wp2_with fail
  refine Hc.out.mono ?_
  rintro e w6 ⟨rfl, rfl⟩
  go_wp2_with fail
  go_ret
  exact ⟨rfl, HF.out⟩

set_option maxRecDepth 100000 in
set_option maxHeartbeats 4000000 in
theorem codeWord_any (P M : Int) (am : Option Addr) (mn cm : Nat) (mod : List Int) (m : Nat) (a : Option Addr) (n c : Nat) (L : List (List Int)) (ax : Option Addr) (cx : Nat) (x : List Int) (w : World) (hmod : Ints w am mn mod) (hi : Mat w a n L) (hx : Ints w ax m x)
    (hE : codeE P M mod m L = 0) (hxe : Vc (tblOf P M.toNat mod).El m x) :
    Calls Tryz.prog 68 #[.agg #[.int .i64 P, .int .i64 M, .slice am mn cm, .int .i64 m, .slice a n c], .slice ax m cx] w fun e w' => e = .returned (.int .i64 0) ∧ Below w.heap.size w w' := by
  go_enter Tryz.func68, Tryz.ntmps68
  go_wp2_with fail
  obtain ⟨W, hW⟩ : ∃ W : World, W = w.alloc (.cells #[.int .i64 P, .int .i64 M, .slice am mn cm, .int .i64 m, .slice a n c] 27) := ⟨_, rfl⟩
  rw [← hW]
  have hbW : Below w.heap.size w W := by rw [hW]; exact below1 _ _
  have x0 : Box W w.heap.size [.int .i64 P, .int .i64 M, .slice am mn cm, .int .i64 m, .slice a n c] := by rw [hW]; exact Box.new _ _ _ rfl
  clear hW
  refine (codeCheck_any P M am mn cm mod m a n c L W (hmod.keep hbW) (hi.keep hbW)).mono ?_
  rintro e w1 ⟨rfl, hb1⟩
  have hbw1 := Below.next hbW hb1
  have x1 := x0.keep hb1
  have c0 := x1.cell 0 rfl
  have c1 := x1.cell 1 rfl
  have c2 := x1.cell 2 rfl
  have c3 := x1.cell 3 rfl
  have HL := Lib.hid (codeList_any P M am mn cm mod ax m cx x w1 (hmod.keep hbw1) (hx.keep hbw1) (codeE_zero hE).1 hxe)
  rw [hE]
  clear hE hxe x0 x1
  go_wp2_with fail
  refine HL.out.mono ?_
  rintro e w2 ⟨rfl, hb2⟩
  have hF := Below.next hbw1 hb2
  go_wp2_with fail
  go_ret
  exact ⟨rfl, hF⟩

set_option maxRecDepth 100000 in
set_option maxHeartbeats 4000000 in
theorem spaceHas_any (P M : Int) (am : Option Addr) (mn cm : Nat) (mod : List Int) (m : Nat) (a : Option Addr) (n c : Nat) (L : List (List Int)) (ax : Option Addr) (cx : Nat) (x : List Int) (w : World) (hmod : Ints w am mn mod) (hi : Mat w a n L) (hx : Ints w ax m x)
    (hE : codeE P M mod m L = 0) (hxe : Vc (tblOf P M.toNat mod).El m x) (h0 : ∀ i, i < m → nth (redTo (tblOf P M.toNat mod).ops L (pivS (tblOf P M.toNat mod) L m) x L.length) i = 0) :
    Calls Tryz.prog 69 #[.agg #[.int .i64 P, .int .i64 M, .slice am mn cm], .agg #[.int .i64 m, .slice a n c], .slice ax m cx] w fun e w' => e = .returned (.tuple #[.bool true, .int .i64 0]) ∧ Below w.heap.size w w' := by
  have hil := hi.len
  obtain ⟨m', em, hm1, hm64, F, hR⟩ := codeE_fld hE
  obtain rfl : m = m' := by omega
  have hn : n ≤ 256 := by rw [← hil]; exact (codeE_rws hE).choose_spec.2.2.2.1
  obtain ⟨h5, h6⟩ := spaceE_zero (codeE_zero hE).2.2.2
  rw [Int.toNat_natCast] at h6
  have hcan : canO (tblOf P M.toNat mod).ops m L = L := h6
  have hpiv := (canO_piv F hR).1
  have hlen := canO_len F hR
  rw [hcan] at hpiv hlen
  have hOk : BS.Ok (tblOf P M.toNat mod).El m ⟨L, pivS (tblOf P M.toNat mod) L m⟩ := (piv_inv hR hpiv hlen).ok
  have hpl : (pivS (tblOf P M.toNat mod) L m).length = n := by rw [← hil]; exact hlen.symm
  rw [hil] at h0
  have H0 := Lib.hid h0
  have HOk := Lib.hid hOk
  have Hsp := Lib.hid (codeE_zero hE).2.2.2
  have Hxe := Lib.hid hxe
  clear h0 hOk h5 h6 hcan hpiv hlen em F hR hE hil hxe
  go_enter Tryz.func69, Tryz.ntmps69
  go_wp2_with fail
  obtain ⟨W, hW⟩ : ∃ W : World, W = (w.alloc (.cells #[.int .i64 P, .int .i64 M, .slice am mn cm] 24)).alloc (.cells #[.int .i64 m, .slice a n c] 62) := ⟨_, rfl⟩
  rw [← hW]
  have hbW : Below w.heap.size w W := by rw [hW]; exact below2 _ _ _
  clear hW
  refine (spaceOpen_any P M am mn cm mod m a n c L W (hmod.keep hbW) (hi.keep hbW)).mono ?_
  rintro e w1 ⟨hb1, ⟨he, _⟩ | ⟨_, m', b, hm', ap, cp, rfl, hG, hbl, hP⟩⟩
  · exact absurd Hsp.out he
  obtain rfl : m = m' := by omega
  have hbw1 := Below.next hbW hb1
  have hp1 := hP.ints
  rw [hpl] at hp1 ⊢
  obtain ⟨Pv, hPv⟩ : ∃ Pv, pivS (tblOf P M.toNat mod) L m = Pv := ⟨_, rfl⟩
  obtain ⟨G, hGG⟩ : ∃ G, tblOf P M.toNat mod = G := ⟨_, rfl⟩
  rw [hGG] at hPv hG H0 HOk Hxe
  rw [hPv] at H0 HOk
  have hp2 : Ints w1 ap n Pv := by rw [hGG, hPv] at hp1; exact hp1
  have hb2 := below1 w1 (.cells #[.pointer (some ⟨b, 0, none⟩), .int .i64 m, .slice a n c, .slice ap n cp] 126)
  have hbw2 := Below.next hbw1 hb2
  have HWd := Lib.hid (viewWord_any m a n c ap n cp ax cx x (hG.gf.keep hb2) (hx.keep hbw2) Hxe.out)
  have HHs : Hid (∀ V, Below w1.heap.size w1 V → Calls Tryz.prog 116 #[.agg #[.pointer (some ⟨b, 0, none⟩), .int .i64 m, .slice a n c, .slice ap n cp], .slice ax m cx] V fun e w' => e = .returned (.bool true) ∧ Below V.heap.size V w') := fun V hV =>
    viewHas_any m a n c L ap cp Pv ax cx x (hG.gf.keep hV) (hi.keep (Below.next hbw1 hV)) (hp2.keep hV) (hx.keep (Below.next hbw1 hV)) HOk.out Hxe.out (by omega) (by omega) H0.out
  have k0 := Box.new w1 [.pointer (some ⟨b, 0, none⟩), .int .i64 m, .slice a n c, .slice ap n cp] 126 rfl
  have HX := Lib.hid k0
  clear hpl hPv hGG hG hbl hP hp1 hp2 hm' k0
  go_wp2_with fail
  refine HWd.out.mono ?_
  rintro e w3 ⟨rfl, hb3⟩
  have x3 := HX.out.keep hb3
  have k0 := x3.cell 0 rfl
  have k1 := x3.cell 1 rfl
  have k2 := x3.cell 2 rfl
  have k3 := x3.cell 3 rfl
  have Hh := Lib.hid (HHs.out w3 (Below.next hb2 hb3))
  have hbw3 := Below.next hbw2 hb3
  clear HWd HHs x3
  go_wp2_with fail
  refine Hh.out.mono ?_
  rintro e w4 ⟨rfl, hb4⟩
  have hF := Below.next hbw3 hb4
  go_wp2_with fail
  go_ret2
  exact ⟨rfl, hF⟩

set_option maxRecDepth 100000 in
set_option maxHeartbeats 4000000 in
theorem codeHas_any (P M : Int) (am : Option Addr) (mn cm : Nat) (mod : List Int) (m : Nat) (a : Option Addr) (n c : Nat) (L : List (List Int)) (ax : Option Addr) (cx : Nat) (x : List Int) (w : World) (hmod : Ints w am mn mod) (hi : Mat w a n L) (hx : Ints w ax m x)
    (hE : codeE P M mod m L = 0) (hxe : Vc (tblOf P M.toNat mod).El m x) (h0 : ∀ i, i < m → nth (redTo (tblOf P M.toNat mod).ops L (pivS (tblOf P M.toNat mod) L m) x L.length) i = 0) :
    Calls Tryz.prog 22 #[.agg #[.int .i64 P, .int .i64 M, .slice am mn cm, .int .i64 m, .slice a n c], .slice ax m cx] w fun e w' => e = .returned (.tuple #[.bool true, .int .i64 0]) ∧ Below w.heap.size w w' := by
  have HSp : Hid (∀ V, Below w.heap.size w V → Calls Tryz.prog 69 #[.agg #[.int .i64 P, .int .i64 M, .slice am mn cm], .agg #[.int .i64 m, .slice a n c], .slice ax m cx] V fun e w' => e = .returned (.tuple #[.bool true, .int .i64 0]) ∧ Below V.heap.size V w') := fun V hV =>
    spaceHas_any P M am mn cm mod m a n c L ax cx x V (hmod.keep hV) (hi.keep hV) (hx.keep hV) hE hxe h0
  have HWd : Hid (∀ V, Below w.heap.size w V → Calls Tryz.prog 68 #[.agg #[.int .i64 P, .int .i64 M, .slice am mn cm, .int .i64 m, .slice a n c], .slice ax m cx] V fun e w' => e = .returned (.int .i64 0) ∧ Below V.heap.size V w') := fun V hV =>
    codeWord_any P M am mn cm mod m a n c L ax cx x V (hmod.keep hV) (hi.keep hV) (hx.keep hV) hE hxe
  clear hmod hi hx hE hxe h0
  go_enter Tryz.func22, Tryz.ntmps22
  go_wp2_with fail
  obtain ⟨W, hW⟩ : ∃ W : World, W = w.alloc (.cells #[.int .i64 P, .int .i64 M, .slice am mn cm, .int .i64 m, .slice a n c] 27) := ⟨_, rfl⟩
  rw [← hW]
  have hbW : Below w.heap.size w W := by rw [hW]; exact below1 _ _
  have x0 : Box W w.heap.size [.int .i64 P, .int .i64 M, .slice am mn cm, .int .i64 m, .slice a n c] := by rw [hW]; exact Box.new _ _ _ rfl
  have HX := Lib.hid x0
  have HbW := Lib.hid hbW
  clear hW x0
  refine (HWd.out W hbW).mono ?_
  rintro e w1 ⟨rfl, hb1⟩
  have hbw1 := Below.next HbW.out hb1
  have hS : ∀ V, Below w1.heap.size w1 V → V.cell? ⟨w.heap.size, 0, none⟩ = some (.int .i64 P) ∧ V.cell? ⟨w.heap.size, 1, none⟩ = some (.int .i64 M) ∧ V.cell? ⟨w.heap.size, 2, none⟩ = some (.slice am mn cm) ∧ V.cell? ⟨w.heap.size, 3, none⟩ = some (.int .i64 m) ∧ V.cell? ⟨w.heap.size, 4, none⟩ = some (.slice a n c) ∧ Below w1.heap.size w1 V := fun V hV => by
    have x1 := HX.out.keep (Below.next hb1 hV)
    exact ⟨x1.cell 0 rfl, x1.cell 1 rfl, x1.cell 2 rfl, x1.cell 3 rfl, x1.cell 4 rfl, hV⟩
  have HS := Lib.hid hS
  have Hbw1 := Lib.hid hbw1
  clear hS HWd hbW hb1 hbw1
  go_wp2_with fail
  go_region_held3 (fun V => V.cell? ⟨w.heap.size, 0, none⟩ = some (.int .i64 P) ∧ V.cell? ⟨w.heap.size, 1, none⟩ = some (.int .i64 M) ∧ V.cell? ⟨w.heap.size, 2, none⟩ = some (.slice am mn cm) ∧ V.cell? ⟨w.heap.size, 3, none⟩ = some (.int .i64 m) ∧ V.cell? ⟨w.heap.size, 4, none⟩ = some (.slice a n c) ∧ Below w1.heap.size w1 V)
    ((refine HS.out _ ?_; first | exact (Below.refl _ _).drew | (go_split_ands; exact Below.next (by assumption) (by assumption))))
    (first
      | (go_at_call 70; ((with_reducible refine (gen_any P M am mn cm m a n c _).mono ?_); rintro e w6 ⟨rfl, hb6⟩))
      | (go_at_call 69; ((with_reducible refine (HSp.out _ (Below.next Hbw1.out (by go_split_ands; assumption))).mono ?_); rintro e w8 ⟨rfl, hb8⟩)))
  all_goals (
    go_wp2_with fail
    go_ret2
    exact ⟨rfl, Below.next Hbw1.out (by go_split_ands; assumption)⟩)
end

/- The walks of the references: Combine of layer 09, List and Encode of layer 12. -/
section
open Go.RowKit

theorem cmbTo_agr {O O' : FOps} {El : Int → Prop} (F : Fld O El) (h : Agr O O' El) {m : Nat} {L : List (List Int)} (hL : Rws El m L) {x : List Int} (hx : ∀ k, k < L.length → El (nth x k)) : ∀ k, k ≤ L.length → cmbTo O m x L k = cmbTo O' m x L k
  | 0, _ => rfl
  | k + 1, hk => by
    have h1 := (cmb_rs F hL hx k (by omega)).1
    rw [cmbTo, cmbTo, ← cmbTo_agr F h hL hx k (by omega), addRow_agr h F.cl _ _ _ h1.2 (hL.row (i := k) (by omega)).2 (hx k (by omega))]

set_option maxRecDepth 100000 in
set_option maxHeartbeats 4000000 in
theorem rCombine_any (P : Int) (m : Nat) (am : Option Addr) (mn cm : Nat) (mod : List Int) (ax : Option Addr) (cx : Nat) (x : List Int) (a : Option Addr) (n c : Nat) (L : List (List Int)) (cols : Nat) (w : World) (hf : RFld w P m am mn mod)
    (hx : Ints w ax n x) (hi : Mat w a n L) (hxe : ∀ k, k < n → ElP P m (nth x k)) (hR : Rws (ElP P m) cols L) (hv : ∀ k, k ≤ n → Vc (ElP P m) cols (cmbTo (rops P m mod) cols x L k)) (hc : cols ≤ 1000000) (hn : n ≤ 1000000) :
    Calls Tryz.prog 67 #[.agg #[.int .i64 P, .int .i64 m, .slice am mn cm], .slice ax n cx, .slice a n c, .int .i64 cols] w fun e w' =>
      ∃ a1 c1, e = .returned (.slice a1 cols c1) ∧ w'.ownsRow w.heap.size 3 1 (.slice a1 cols c1) cols ((cmbTo (rops P m mod) cols x L n).map (Value.int .i64)) ∧ Below w.heap.size w w' := by
  have Hil := Lib.hid hi.len
  have hplx := hx.pl
  have hpla := hi.pl
  have HR := Lib.hid hR
  have Hv := Lib.hid hv
  have Hxe := Lib.hid hxe
  obtain ⟨O, hO⟩ : ∃ O, rops P m mod = O := ⟨_, rfl⟩
  have HA : Hid (∀ V k a1 c1 ra rc, k < n → Below w.heap.size w V → Ints V a1 cols (cmbTo O cols x L k) → Ints V ra cols (nthR L k) → ∀ V2, Below V.heap.size V V2 →
      Calls Tryz.prog 113 #[.agg #[.int .i64 P, .int .i64 m, .slice am mn cm], .slice a1 cols c1, .int .i64 (nth x k), .slice ra cols rc] V2 fun e w' =>
        ∃ a2 c2, e = .returned (.slice a2 cols c2) ∧ w'.ownsRow V2.heap.size 3 1 (.slice a2 cols c2) cols ((addRow O (cmbTo O cols x L k) (nth x k) (nthR L k)).map (Value.int .i64)) ∧ Below V2.heap.size V2 w') := fun V k a1 c1 ra rc hk hV h1 h2 V2 hV2 => by
    have hrow := HR.out.row (i := k) (by rw [Hil.out]; exact hk)
    have hvk := Hv.out k (by omega)
    rw [hO] at hvk
    have h := rAddTo_any P m am mn cm mod a1 cols c1 (cmbTo O cols x L k) (nth x k) ra rc (nthR L k) V2 (hf.keep (Below.next hV hV2)) (Hxe.out k hk) (h1.keep hV2) (h2.keep hV2) hvk.2 hrow.2 hc
    refine h.mono ?_
    rintro e w' ⟨a2, c2, rfl, hown, hb⟩
    rw [hO, addRow_length _ _ _ _ (by rw [hrow.1, hvk.1]), hvk.1] at hown
    rw [hO, addRow_length _ _ _ _ (by rw [hrow.1, hvk.1]), hvk.1]
    exact ⟨a2, c2, rfl, hown, hb⟩
  have hz : (cmbTo O cols x L 0).map (Value.int .i64) = List.replicate cols (Value.int .i64 0) := by simp [cmbTo]
  have Hz := Lib.hid hz
  rw [hO]
  clear hO hR hv hxe hz
  go_enter Tryz.func67, Tryz.ntmps67
  go_upto_region 1 with fail
  obtain ⟨W, hW⟩ : ∃ W : World, W = w.alloc (.cells #[.int .i64 P, .int .i64 m, .slice am mn cm] 24) := ⟨_, rfl⟩
  rw [← hW]
  have hbW : Below w.heap.size w W := by rw [hW]; exact below1 _ _
  have x0 : Box W w.heap.size [.int .i64 P, .int .i64 m, .slice am mn cm] := by rw [hW]; exact Box.new _ _ _ rfl
  have HX := Lib.hid x0
  have HbW := Lib.hid hbW
  have hxW := hx.keep hbW
  have hiW := hi.keep hbW
  clear hW x0
  go_wp2_with (at_make; refine wpList_mk rfl _ _ 22 3 rfl (.int .i64 0) 8 Tryz.underlying22 infoInt rfl cols rfl rfl (by omega) (by unfold maxLen; omega) ?_; intro a5 w5 hown hbel hge hlt)
  have hown0 : w5.ownsRow W.heap.size 3 1 (.slice a5 cols cols) cols ((cmbTo O cols x L 0).map (Value.int .i64)) := by rw [Hz.out]; exact hown
  clear hown hge hlt
  go_loopw [9, 10] (fun ov iv wr => ∃ (k : Nat) (a1 : Option Addr) (c1 : Nat), k ≤ n ∧ iv = .int .i64 k ∧ ov = .slice a1 cols c1 ∧ wr.ownsRow W.heap.size 3 1 (.slice a1 cols c1) cols ((cmbTo O cols x L k).map (Value.int .i64)) ∧ Below W.heap.size W wr) (fun _ iv _ => n - (intOf iv).toNat)
  case atStart => exact ⟨0, a5, cols, Nat.zero_le _, rfl, rfl, hown0, hbel⟩
  case round =>
    clear hown0 hbel
    obtain ⟨k, a1, c1, hk, rfl, rfl, hown, hbr⟩ := hrel
    by_cases hlt : k < n
    · have cxk := (hxW.keep hbr).cell k hlt
      have hrow := HR.out.row (i := k) (by rw [Hil.out]; exact hlt)
      obtain ⟨ra, rn, rc, er, ir⟩ := (hiW.keep hbr).cell k hlt
      have hrn : rn = cols := by rw [← ir.len]; exact hrow.1
      rw [hrn] at er ir
      clear hrn hrow
      by_cases h0 : nth x k = 0
      · have h0' : (nth x k != 0) = false := by simpa using h0
        have Hn : Hid (cmbTo O cols x L (k + 1) = cmbTo O cols x L k) := by show _ = _; rw [cmbTo, if_pos h0]
        clear h0
        go_wp2_with fail
        go_roundw
        case rel => exact ⟨k + 1, a1, c1, by omega, by go_num, rfl, by rw [Hn.out]; exact hown, hbr⟩
        case measure => simp [intOf] <;> omega
      · have h0' : (nth x k != 0) = true := by simpa using h0
        have Hn : Hid (cmbTo O cols x L (k + 1) = addRow O (cmbTo O cols x L k) (nth x k) (nthR L k)) := by show _ = _; rw [cmbTo, if_neg h0]
        have hbwr := Below.next HbW.out hbr
        have Hk := Lib.hid (HA.out wr k a1 c1 ra rc hlt hbwr (Ints.own hown).1 ir)
        have HS2 : Hid (∀ V, Below wr.heap.size wr V → V.cell? ⟨w.heap.size, 0, none⟩ = some (.int .i64 P) ∧ V.cell? ⟨w.heap.size, 1, none⟩ = some (.int .i64 m) ∧ V.cell? ⟨w.heap.size, 2, none⟩ = some (.slice am mn cm) ∧
            V.cell? ⟨ablk ax, aoff ax + k, none⟩ = some (.int .i64 (nth x k)) ∧ V.cell? ⟨ablk a, aoff a + k, none⟩ = some (.slice ra cols rc) ∧ Below wr.heap.size wr V) := fun V hV => by
          have x1 := HX.out.keep (Below.next hbr hV)
          exact ⟨x1.cell 0 rfl, x1.cell 1 rfl, x1.cell 2 rfl, cell_keep hV cxk, cell_keep hV er, hV⟩
        have Hbr := Lib.hid hbr
        have hszr := hbr.size
        clear h0 hbr hown ir HA
        go_wp2_with fail
        go_region_held3 (fun V => V.cell? ⟨w.heap.size, 0, none⟩ = some (.int .i64 P) ∧ V.cell? ⟨w.heap.size, 1, none⟩ = some (.int .i64 m) ∧ V.cell? ⟨w.heap.size, 2, none⟩ = some (.slice am mn cm) ∧
            V.cell? ⟨ablk ax, aoff ax + k, none⟩ = some (.int .i64 (nth x k)) ∧ V.cell? ⟨ablk a, aoff a + k, none⟩ = some (.slice ra cols rc) ∧ Below wr.heap.size wr V)
          ((refine HS2.out _ ?_; first | exact (Below.refl _ _).drew | exact Below.next (Below.refl _ _).drew hb4))
          (first
            | (go_at_call 113; ((with_reducible refine (Hk.out _ (Below.refl _ _).drew).mono ?_); rintro e w4 ⟨a4, c4, rfl, hown4, hb4⟩)))
        have hbr4 := Below.next Hbr.out (Below.next (Below.refl _ _).drew hb4)
        have hown5 := own_mono hown4 (show W.heap.size ≤ wr.drew.heap.size from hszr)
        go_wp2_with fail
        go_roundw
        case rel => exact ⟨k + 1, a4, c4, by omega, by go_num, rfl, by rw [Hn.out]; exact hown5, hbr4⟩
        case measure => simp [intOf] <;> omega
    · obtain rfl : k = n := by omega
      have hF := own_mono hown HbW.out.size
      have HF := Lib.hid hF
      have hbF := Below.next HbW.out hbr
      clear hF hown
      go_wp2_with fail
      go_ret
      exact ⟨a1, c1, rfl, HF.out, hbF⟩

/-- the error of a list of n elements -/
def lstE (q : Int) (l : List Int) (n : Nat) : Int := if l.length = n then elsE q l else 4

set_option maxHeartbeats 1600000 in
theorem rList12_any (P M : Int) (am : Option Addr) (mn cm : Nat) (a : Option Addr) (n c : Nat) (l : List Int) (k : Nat) (w : World) (hi : Ints w a n l) :
    Calls Tryz.prog 53 #[.agg #[.int .i64 P, .int .i64 M, .slice am mn cm], .slice a n c, .int .i64 k] w fun e w' => e = .returned (.int .i64 (lstE (orderS P M) l k)) ∧ Below w.heap.size w w' := by
  have hl := hi.len
  go_enter Tryz.func53, Tryz.ntmps53
  go_upto_region 1 with fail
  obtain ⟨W, hW⟩ : ∃ W : World, W = w.alloc (.cells #[.int .i64 P, .int .i64 M, .slice am mn cm] 24) := ⟨_, rfl⟩
  rw [← hW]
  have hbW : Below w.heap.size w W := by rw [hW]; exact below1 _ _
  have x0 : Box W w.heap.size [.int .i64 P, .int .i64 M, .slice am mn cm] := by rw [hW]; exact Box.new _ _ _ rfl
  have c0 := x0.cell 0 rfl
  have c1 := x0.cell 1 rfl
  have c2 := x0.cell 2 rfl
  clear hW x0
  by_cases h1 : n = k
  · have HL : Hid (lstE (orderS P M) l k = elsE (orderS P M) l) := by show _ = _; rw [lstE, if_pos (by omega)]
    have Hc := Lib.hid (rEntries_any P M am mn cm a n c l W (hi.keep hbW))
    have h1' : ((n : Int) != k) = false := by rw [show (n : Int) = k by omega]; simp
    clear h1 hl
    generalize elsE (orderS P M) l = er at *
    go_wp2_with fail
    refine Hc.out.mono ?_
    rintro e w1 ⟨rfl, hb1⟩
    have hF := Below.next hbW hb1
    go_wp2_with fail
    go_ret
    exact ⟨ret_int HL.out.symm, hF⟩
  · have HL : Hid (lstE (orderS P M) l k = 4) := by show _ = _; rw [lstE, if_neg (by omega)]
    have h1' : ((n : Int) != k) = true := by simp only [bne_iff_ne, ne_eq]; omega
    clear h1 hl
    go_wp2_with fail
    go_ret
    exact ⟨ret_int HL.out.symm, hbW⟩

/-- the error of a code and a message -/
def encE (P M : Int) (mod : List Int) (N : Int) (L : List (List Int)) (x : List Int) : Int := if codeE P M mod N L = 0 then lstE (orderS P M) x L.length else codeE P M mod N L
theorem encE_zero {P M : Int} {mod : List Int} {N : Int} {L : List (List Int)} {x : List Int} (h : encE P M mod N L x = 0) : codeE P M mod N L = 0 ∧ x.length = L.length ∧ ∀ k, k < L.length → (tblOf P M.toNat mod).El (nth x k) := by
  unfold encE at h
  split at h
  · rename_i hE
    refine ⟨hE, ?_⟩
    unfold lstE at h
    split at h
    · rename_i hl
      refine ⟨hl, fun k hk => ?_⟩
      unfold elsE at h
      split at h
      · rename_i hq
        obtain ⟨m, rfl, hel, hq2, _⟩ := eq_ops (codeE_zero hE).1
        unfold elsQ at hq
        have h3 := List.all_eq_true.1 hq _ (nth_mem (i := k) (by rw [hl]; exact hk))
        unfold isQ at h3
        rw [Int.toNat_natCast]
        unfold Tbl.El
        rw [← hq2] at h3
        simpa using h3
      · omega
    · omega
  · rename_i h1; exact absurd h h1
def EncPost (P M : Int) (mod : List Int) (N : Int) (L : List (List Int)) (x : List Int) (w : World) (e : Ending) (w' : World) : Prop :=
  Below w.heap.size w w' ∧ ((encE P M mod N L x ≠ 0 ∧ e = .returned (.tuple #[.slice none 0 0, .int .i64 (encE P M mod N L x)])) ∨
    (encE P M mod N L x = 0 ∧ ∃ (m : Nat), N = m ∧ ∃ a1 c1, e = .returned (.tuple #[.slice a1 m c1, .int .i64 0]) ∧ Ints w' a1 m (cmbTo (tblOf P M.toNat mod).ops m x L L.length)))

set_option maxRecDepth 100000 in
set_option maxHeartbeats 4000000 in
theorem rEncode_any (P M : Int) (am : Option Addr) (mn cm : Nat) (mod : List Int) (N : Int) (a : Option Addr) (n c : Nat) (L : List (List Int)) (ax : Option Addr) (nx cx : Nat) (x : List Int) (w : World)
    (hmod : Ints w am mn mod) (hi : Mat w a n L) (hx : Ints w ax nx x) :
    Calls Tryz.prog 21 #[.agg #[.int .i64 P, .int .i64 M, .slice am mn cm, .int .i64 N, .slice a n c], .slice ax nx cx] w (EncPost P M mod N L x w) := by
  have hil := hi.len
  have Hil := Lib.hid hil
  go_enter Tryz.func21, Tryz.ntmps21
  go_wp2_with fail
  obtain ⟨W, hW⟩ : ∃ W : World, W = w.alloc (.cells #[.int .i64 P, .int .i64 M, .slice am mn cm, .int .i64 N, .slice a n c] 27) := ⟨_, rfl⟩
  rw [← hW]
  have hbW : Below w.heap.size w W := by rw [hW]; exact below1 _ _
  have x0 : Box W w.heap.size [.int .i64 P, .int .i64 M, .slice am mn cm, .int .i64 N, .slice a n c] := by rw [hW]; exact Box.new _ _ _ rfl
  have hS : ∀ V, Below W.heap.size W V → V.cell? ⟨w.heap.size, 0, none⟩ = some (.int .i64 P) ∧ V.cell? ⟨w.heap.size, 1, none⟩ = some (.int .i64 M) ∧ V.cell? ⟨w.heap.size, 2, none⟩ = some (.slice am mn cm) ∧ V.cell? ⟨w.heap.size, 3, none⟩ = some (.int .i64 N) ∧ V.cell? ⟨w.heap.size, 4, none⟩ = some (.slice a n c) := fun V hV => by
    have x1 := x0.keep hV
    exact ⟨x1.cell 0 rfl, x1.cell 1 rfl, x1.cell 2 rfl, x1.cell 3 rfl, x1.cell 4 rfl⟩
  have HS := Lib.hid hS
  have HbW := Lib.hid hbW
  clear hW x0 hS
  have hck := rCodeCheck_any P M am mn cm mod N a n c L W (hmod.keep hbW) (hi.keep hbW) fun h => hinv_all h
  rw [rcodeE_eq] at hck
  have Hck := Lib.hid hck
  clear hck hil
  refine Hck.out.mono ?_
  rintro e w1 ⟨rfl, hb1⟩
  have hbw1 := Below.next hbW hb1
  clear Hck
  by_cases hE : codeE P M mod N L = 0
  · obtain ⟨m, hm, hm1, hm64, _⟩ := codeE_fld hE
    subst hm
    obtain ⟨k, hk, hel, hq, hF, hA, _⟩ := eq_ops (codeE_zero hE).1
    subst hk
    obtain ⟨k', e2, hrf, hmods⟩ := fieldRB_rf (P := P) (M := (k : Int)) (mod := mod) (by rw [fieldRB_eq]; exact (codeE_zero hE).1)
    obtain rfl : k = k' := by omega
    have hR := (codeE_rws hE).choose_spec.2.2.2.2
    have hn : n ≤ 256 := by rw [← Hil.out]; exact (codeE_rws hE).choose_spec.2.2.2.1
    have hEn : encE P k mod m L x = lstE (orderS P k) x n := by rw [encE, if_pos hE, Hil.out]
    have HL := Lib.hid (rList12_any P k am mn cm ax nx cx x n w1 (hx.keep hbw1))
    obtain ⟨c0, c1, c2, c3, c4⟩ := HS.out w1 hb1
    by_cases hl : lstE (orderS P k) x n = 0
    · have hz : encE P k mod m L x = 0 := hEn.trans hl
      obtain ⟨_, hxl, hxe⟩ := encE_zero hz
      have hnx : nx = n := by rw [← hx.len, hxl]; exact Hil.out
      subst hnx
      have hRm : Rws (tblOf P k mod).El m L := by
        have h := codeE_fld hE
        obtain ⟨m', em, _, _, _, h⟩ := h
        obtain rfl : m = m' := by omega
        rw [Int.toNat_natCast] at h
        exact h
      rw [Int.toNat_natCast] at hxe
      rw [← hel] at hRm hxe
      have hag := cmbTo_agr hF hA hRm hxe
      have HC : Hid (∀ V, Below w.heap.size w V → Calls Tryz.prog 67 #[.agg #[.int .i64 P, .int .i64 k, .slice am mn cm], .slice ax nx cx, .slice a nx c, .int .i64 m] V fun e w' =>
          Below V.heap.size V w' ∧ ∃ a1 c1, e = .returned (.slice a1 m c1) ∧ Ints w' a1 m (cmbTo (tblOf P k mod).ops m x L L.length)) := fun V hV => by
        refine (rCombine_any P k am mn cm mod ax cx x a nx c L m V ⟨hrf, hmods V am mn (hmod.keep hV)⟩ (hx.keep hV) (hi.keep hV) (fun j hj => hxe j (by rw [Hil.out]; exact hj)) hRm
          (fun j hj => by rw [← hag j (by rw [Hil.out]; exact hj)]; exact (cmb_rs hF hRm hxe j (by rw [Hil.out]; exact hj)).1) (by omega) (by omega)).mono ?_
        rintro e w' ⟨a1, c1, rfl, hown, hb⟩
        refine ⟨hb, a1, c1, rfl, ?_⟩
        rw [hag _ (Nat.le_refl _), Hil.out]
        exact (Ints.own hown).1
      have HP : Hid (∀ a1 c1 w', Below w.heap.size w w' → Ints w' a1 m (cmbTo (tblOf P k mod).ops m x L L.length) → EncPost P k mod m L x w (.returned (.tuple #[.slice a1 m c1, .int .i64 0])) w') := fun a1 c1 w' h1 h2 =>
        ⟨h1, .inr ⟨hz, m, rfl, a1, c1, rfl, by rw [Int.toNat_natCast]; exact h2⟩⟩
      rw [hE]
      rw [hl] at HL
      clear hE hEn hl hz hxl hxe hRm hag hel hq hF hA hrf hmods e2 hR
      go_wp2_with fail
      refine HL.out.mono ?_
      rintro e w2 ⟨rfl, hb2⟩
      have hb12 := Below.next hb1 hb2
      clear c0 c1 c2 c3 c4 HL
      obtain ⟨c0, c1, c2, c3, c4⟩ := HS.out w2 hb12
      have Hc := Lib.hid (HC.out w2 (Below.next HbW.out hb12))
      clear HC
      go_wp2_with fail
      refine Hc.out.mono ?_
      rintro e w3 ⟨hb3, a1, c1', rfl, hI3⟩
      have HF := Lib.hid (HP.out a1 c1' w3 (Below.next HbW.out (Below.next hb12 hb3)) hI3)
      clear HP hI3 Hc
      go_wp2_with fail
      go_ret2
      exact HF.out
    · have hl' : (lstE (orderS P k) x n != 0) = true := by simpa using hl
      have hnz : encE P k mod m L x ≠ 0 := by rw [hEn]; exact hl
      have HP : Hid (∀ w', Below w.heap.size w w' → EncPost P k mod m L x w (.returned (.tuple #[.slice none 0 0, .int .i64 (lstE (orderS P k) x n)])) w') := fun w' h1 => ⟨h1, .inl ⟨hnz, by rw [hEn]⟩⟩
      rw [hE]
      clear hE hEn hnz hl hel hq hF hA hrf hmods e2 hR
      generalize lstE (orderS P k) x n = er at *
      go_wp2_with fail
      refine HL.out.mono ?_
      rintro e w2 ⟨rfl, hb2⟩
      have HF := Lib.hid (HP.out w2 (Below.next hbw1 hb2))
      clear HP HL
      go_wp2_with fail
      go_ret2
      exact HF.out
  · have hE1 : (codeE P M mod N L == 0) = false := by simpa using hE
    have hE2 : (codeE P M mod N L != 0) = true := by simpa using hE
    have hEn : encE P M mod N L x = codeE P M mod N L := by rw [encE, if_neg hE]
    have HP : Hid (EncPost P M mod N L x w (.returned (.tuple #[.slice none 0 0, .int .i64 (codeE P M mod N L)])) w1) := ⟨hbw1, .inl ⟨by rw [hEn]; exact hE, by rw [hEn]⟩⟩
    clear hE hEn
    generalize codeE P M mod N L = er at *
    go_wp2_with fail
    go_ret2
    exact HP.out
end

/- The walk of InfosetWords. -/
section
open Go.RowKit

set_option maxRecDepth 100000 in
set_option maxHeartbeats 16000000 in
theorem infWords_any (P M : Int) (am : Option Addr) (mn cm : Nat) (mod : List Int) (N : Int) (a : Option Addr) (n c : Nat) (L : List (List Int)) (ax : Option Addr) (ns cs : Nat) (Us : List Int) (av : Option Addr) (nv cv : Nat) (v : List Int) (w : World)
    (hmod : Ints w am mn mod) (hi : Mat w a n L) (hs : U8s w ax ns Us) (hv : Ints w av nv v) :
    Calls Tryz.prog 13 #[.agg #[.int .i64 P, .int .i64 M, .slice am mn cm, .int .i64 N, .slice a n c], .slice ax ns cs, .slice av nv cv] w fun e w' => e = .returned (.bool true) ∧ Below w.heap.size w w' := by
  have HF : Hid (∀ V, Below w.heap.size w V → Calls Tryz.prog 25 #[.agg #[.int .i64 P, .int .i64 M, .slice am mn cm, .int .i64 N, .slice a n c]] V (SomeBool V)) :=
    fun V hV => few25_any P M am mn cm N a n c L V (hi.keep hV)
  have HCk := Lib.hid (fun V (hV : Below w.heap.size w V) => rCheck_any P M am mn cm mod N a n c L V (hmod.keep hV) (hi.keep hV))
  have Hil := Lib.hid hi.len
  have HLi := Lib.hid (fun V (hV : Below w.heap.size w V) => rList12_any P M am mn cm av nv cv v n V (hv.keep hV))
  go_enter Tryz.func13, Tryz.ntmps13
  go_wp2_with fail
  obtain ⟨W, hW⟩ : ∃ W : World, W = w.alloc (.cells #[.int .i64 P, .int .i64 M, .slice am mn cm, .int .i64 N, .slice a n c] 27) := ⟨_, rfl⟩
  rw [← hW]
  have hbW : Below w.heap.size w W := by rw [hW]; exact below1 _ _
  have x0 : Box W w.heap.size [.int .i64 P, .int .i64 M, .slice am mn cm, .int .i64 N, .slice a n c] := by rw [hW]; exact Box.new _ _ _ rfl
  have HS : Hid (∀ V, Below W.heap.size W V → V.cell? ⟨w.heap.size, 0, none⟩ = some (.int .i64 P) ∧ V.cell? ⟨w.heap.size, 1, none⟩ = some (.int .i64 M) ∧ V.cell? ⟨w.heap.size, 2, none⟩ = some (.slice am mn cm) ∧ V.cell? ⟨w.heap.size, 3, none⟩ = some (.int .i64 N) ∧ V.cell? ⟨w.heap.size, 4, none⟩ = some (.slice a n c) ∧ Below W.heap.size W V) := fun V hV => by
    have x1 := x0.keep hV
    exact ⟨x1.cell 0 rfl, x1.cell 1 rfl, x1.cell 2 rfl, x1.cell 3 rfl, x1.cell 4 rfl, hV⟩
  have HbW := Lib.hid hbW
  clear hW x0 hbW
  refine (awake_any W).mono ?_
  rintro e w1 ⟨rfl, hb1⟩
  obtain ⟨c0, c1, c2, c3, c4, _⟩ := HS.out w1 hb1
  go_wp2_with fail
  refine (HF.out w1 (Below.next HbW.out hb1)).mono ?_
  rintro e w2 ⟨z, rfl, hb2⟩
  have hB2 := Below.next hb1 hb2
  clear c0 c1 c2 c3 c4 HF
  cases z
  · go_wp2_with fail
    refine (awake_any w2).mono ?_
    rintro e w3 ⟨rfl, hb3⟩
    have hF := Below.next HbW.out (Below.next hB2 hb3)
    go_wp2_with fail
    go_ret
    exact ⟨rfl, hF⟩
  obtain ⟨c0, c1, c2, c3, c4, _⟩ := HS.out w2 hB2
  have Hck := Lib.hid (HCk.out w2 (Below.next HbW.out hB2))
  go_wp2_with fail
  refine Hck.out.mono ?_
  rintro e w3 ⟨rfl, hb3⟩
  have hB3 := Below.next hB2 hb3
  clear c0 c1 c2 c3 c4 Hck HCk hb1 hb2
  by_cases hE : codeE P M mod N L = 0
  rotate_left
  · have hE2 : (codeE P M mod N L != 0) = true := by simpa using hE
    clear hE
    generalize codeE P M mod N L = er at *
    go_wp2_with fail
    refine (awake_any w3).mono ?_
    rintro e w4 ⟨rfl, hb4⟩
    have hF := Below.next HbW.out (Below.next hB3 hb4)
    go_wp2_with fail
    go_ret
    exact ⟨rfl, hF⟩
  have Hli := Lib.hid (HLi.out w3 (Below.next HbW.out hB3))
  obtain ⟨c0, c1, c2, c3, c4, _⟩ := HS.out w3 hB3
  have HE0 := Lib.hid hE
  rw [hE]
  clear hE
  go_wp2_with fail
  refine Hli.out.mono ?_
  rintro e w4 ⟨rfl, hb4⟩
  have hB4 := Below.next hB3 hb4
  clear c0 c1 c2 c3 c4 Hli HLi hb3
  by_cases hLz : lstE (orderS P M) v n = 0
  rotate_left
  · have hE2 : (lstE (orderS P M) v n != 0) = true := by simpa using hLz
    clear hLz
    generalize lstE (orderS P M) v n = er at *
    go_wp2_with fail
    refine (awake_any w4).mono ?_
    rintro e w5 ⟨rfl, hb5⟩
    have hF := Below.next HbW.out (Below.next hB4 hb5)
    go_wp2_with fail
    go_ret
    exact ⟨rfl, hF⟩
  have hE := HE0.out
  have hez : encE P M mod N L v = 0 := by rw [encE, if_pos hE, Hil.out]; exact hLz
  obtain ⟨hE', hvl, hvE⟩ := encE_zero hez
  clear hE'
  rw [hLz]
  clear hez hLz
  obtain ⟨m, rfl, hm1, hm64, F, hR⟩ := codeE_fld hE
  have hn256 : n ≤ 256 := by rw [← Hil.out]; exact (codeE_rws hE).choose_spec.2.2.2.1
  have HPs : Hid (∀ V, Below w.heap.size w V → Calls Tryz.prog 36 #[.slice ax ns cs, .int .i64 m] V fun e w' => Below V.heap.size V w' ∧ ∃ a1 c1 Q, e = .returned (.slice a1 m c1) ∧ Ints w' a1 m Q ∧ PermN m Q) := fun V hV => perm25_any ax ns cs Us m V (hs.keep hV) (by omega)
  have HGr : Hid (∀ V aq cq Q, Below w.heap.size w V → Ints V aq m Q → PermN m Q → ∀ V2, Below V.heap.size V V2 → Calls Tryz.prog 30 #[.agg #[.int .i64 P, .int .i64 M, .slice am mn cm, .int .i64 m, .slice a n c], .slice aq m cq] V2 fun e w' =>
      Below V2.heap.size V2 w' ∧ ∃ a1 c1 S, e = .returned (.tuple #[.slice a1 n c1, .int .i64 0]) ∧ Ints w' a1 n S ∧ Hid (okSet m S = true ∧ isB (tblOf P M.toNat mod).ops L S = true)) := fun V aq cq Q hV hq hQ V2 hV2 => by
    have hb := Below.next hV hV2
    refine (infGreedy_any P M am mn cm mod m a n c L aq m cq Q V2 (hmod.keep hb) (hi.keep hb) (hq.keep hV2) (by omega)).mono ?_
    rintro e w' ⟨hbb, ⟨h0, _⟩ | ⟨_, a1, c1, rfl, ho⟩⟩
    · exact absurd (perm_greE hE hQ) h0
    · obtain ⟨p1, p2⟩ := perm_set hE hQ
      have hl : (grS (tblOf P M.toNat mod).ops L Q).length = n := by
        have h := (isB_iff.1 p2).1
        rw [sortL_len] at h
        rw [h]; exact Hil.out
      rw [hl] at ho ⊢
      exact ⟨hbb, a1, c1, _, rfl, (Ints.own ho).1, p1, p2⟩
  have HSy : Hid (∀ V aq cq Q, Below w.heap.size w V → Ints V aq n Q → okSet m Q = true ∧ isB (tblOf P M.toNat mod).ops L Q = true → Calls Tryz.prog 42 #[.agg #[.int .i64 P, .int .i64 M, .slice am mn cm, .int .i64 m, .slice a n c], .slice aq n cq] V fun e w' =>
      ∃ a1 c1, e = .returned (.tuple #[.agg #[.int .i64 m, .slice a1 n c1], .int .i64 0]) ∧ Mat w' a1 n (sysL (tblOf P M.toNat mod).ops m L Q) ∧ Below V.heap.size V w') := fun V aq cq Q hV hq hQ => by
    refine (systematic_any P M am mn cm mod m a n c L aq n cq Q V (hmod.keep hV) (hi.keep hV) hq).mono ?_
    have h0 : sysE P M mod m L Q = 0 := by rw [sysE, if_neg (by rw [set_rankE hE hQ.1]; simp), if_pos (by rw [set_isV hE hQ.1]; exact hQ.2)]
    rintro e w' ⟨hb, ⟨h1, _⟩ | ⟨_, m', hm', a1, c1, rfl, hM⟩⟩
    · exact absurd h0 h1
    · obtain rfl : m = m' := by omega
      have h2 := hM.mat
      rw [Hil.out] at h2 ⊢
      exact ⟨a1, c1, rfl, h2, hb⟩
  have HVc : Hid (∀ V a1 c1 Q, Below w.heap.size w V → Mat V a1 n (sysL (tblOf P M.toNat mod).ops m L Q) → okSet m Q = true ∧ isB (tblOf P M.toNat mod).ops L Q = true → Calls Tryz.prog 56 #[.agg #[.int .i64 P, .int .i64 M, .slice am mn cm], .slice av n cv, .agg #[.int .i64 m, .slice a1 n c1]] V fun e w' =>
      ∃ a2 c2 X, e = .returned (.tuple #[.slice a2 m c2, .int .i64 0]) ∧ Ints w' a2 m X ∧ Hid (Vc (tblOf P M.toNat mod).El m X ∧ (∀ i, i < m → nth (redTo (tblOf P M.toNat mod).ops L (pivS (tblOf P M.toNat mod) L m) X L.length) i = 0) ∧ pickL Q X = v) ∧ Below V.heap.size V w') := fun V a1 c1 Q hV hM hQ => by
    have hQi : InN m Q := set_in hQ.1
    obtain ⟨q1, q2⟩ := isB_iff.1 hQ.2
    obtain ⟨hSr, hSl, _, _⟩ := sys_law hE hQi q1 q2
    have hnv : nv = n := by rw [← hv.len, hvl]; exact Hil.out
    have hvV := hv.keep hV
    rw [hnv] at hvV
    refine (vecM_any P M am mn cm mod av cv v m a1 n c1 _ V (hmod.keep hV) hvV hM (codeE_zero hE).1 hSr (fun k hk => hvE k (by rw [Hil.out]; exact hk)) hm1 hm64 hn256).mono ?_
    rintro e w' ⟨a2, c2, rfl, hI, hb⟩
    have hw := words_law hE hQi q1 q2 hvl hvE
    rw [Hil.out] at hw
    refine ⟨a2, c2, _, rfl, hI, ?_, hb⟩
    show _ ∧ _ ∧ _
    rw [Hil.out]
    exact hw
  have HHa : Hid (∀ V a2 c2 X, Below w.heap.size w V → Ints V a2 m X → Vc (tblOf P M.toNat mod).El m X → (∀ i, i < m → nth (redTo (tblOf P M.toNat mod).ops L (pivS (tblOf P M.toNat mod) L m) X L.length) i = 0) → Calls Tryz.prog 22 #[.agg #[.int .i64 P, .int .i64 M, .slice am mn cm, .int .i64 m, .slice a n c], .slice a2 m c2] V fun e w' => e = .returned (.tuple #[.bool true, .int .i64 0]) ∧ Below V.heap.size V w') := fun V a2 c2 X hV hI h1 h2 =>
    codeHas_any P M am mn cm mod m a n c L a2 c2 X V (hmod.keep hV) (hi.keep hV) hI hE h1 h2
  have hnv : nv = n := by rw [← hv.len, hvl]; exact Hil.out
  obtain rfl : n = nv := hnv.symm
  clear hnv
  have HvI := Lib.hid hv
  obtain ⟨O, hO⟩ : ∃ O, (tblOf P M.toNat mod).ops = O := ⟨_, rfl⟩
  obtain ⟨El, hEl⟩ : ∃ El, (tblOf P M.toNat mod).El = El := ⟨_, rfl⟩
  obtain ⟨Pv, hPv⟩ : ∃ Pv, pivS (tblOf P M.toNat mod) L m = Pv := ⟨_, rfl⟩
  rw [hO] at HGr HSy
  rw [hO, hEl, hPv] at HVc HHa
  have hOb := hB4
  clear hE hR F hO hEl hPv hmod hi hs hb4 hB2 hB3 hv hvl hvE
  go_wp2_with fail
  -- the first greedy set
  go_cut [7, 8] (fun v u wx => ∃ a1 c1 S, v = .slice a1 n c1 ∧ u = .int .i64 0 ∧ Ints wx a1 n S ∧ Hid (okSet m S = true ∧ isB O L S = true) ∧ Below W.heap.size W wx)
  case first =>
    have hS0 := hOb
    go_region_held3 (fun V => V.cell? ⟨w.heap.size, 0, none⟩ = some (.int .i64 P) ∧ V.cell? ⟨w.heap.size, 1, none⟩ = some (.int .i64 M) ∧ V.cell? ⟨w.heap.size, 2, none⟩ = some (.slice am mn cm) ∧ V.cell? ⟨w.heap.size, 3, none⟩ = some (.int .i64 m) ∧ V.cell? ⟨w.heap.size, 4, none⟩ = some (.slice a n c) ∧ Below W.heap.size W V)
      ((refine HS.out _ ?_; first | exact hb8 | exact hb7 | exact Below.next hS0 (Below.refl _ _).drew | exact hS0 | assumption | (go_split_ands; assumption)))
      (first
        | (go_at_call 36; ((with_reducible refine (HPs.out _ (by go_split_ands; exact Below.next HbW.out (by assumption))).mono ?_); rintro e w7 ⟨hb7', a7, k7, Q7, rfl, hI7, hQ7⟩; have hb7 : Below W.heap.size W w7 := (by go_split_ands; exact Below.next (by assumption) hb7'); have Hr2 := Lib.hid (HGr.out w7 a7 k7 Q7 (Below.next HbW.out hb7) hI7 hQ7); clear hI7 hQ7))
        | (go_at_call 30; ((with_reducible refine (Hr2.out _ (by first | exact Below.refl _ _ | assumption)).mono ?_); rintro e w8 ⟨hb8', a8, k8, S8, rfl, hI8, hS8⟩; have hb8 : Below W.heap.size W w8 := Below.next hb7 hb8')))
    all_goals (go_wp2_with fail; go_meet; exact ⟨a8, k8, S8, rfl, rfl, hI8, hS8, hb8⟩)
  obtain ⟨aA, cA, A, rfl, rfl, hA, hAs, hb4⟩ := hcut
  generalize wc = X1 at *
  clear hOb hB4
  have hbwX1 := Below.next HbW.out hb4
  obtain ⟨c0, c1, c2, c3, c4, _⟩ := HS.out X1 hb4
  have Hsy := Lib.hid (HSy.out X1 aA cA A hbwX1 hA hAs.out)
  clear HGr HPs HSy
  go_wp2_with fail
  refine Hsy.out.mono ?_
  rintro e X2 ⟨a1, k1, rfl, hM1, hb5⟩
  clear c0 c1 c2 c3 c4 Hsy
  obtain ⟨X3, hX3⟩ : ∃ X3 : World, X3 = X2.alloc (.cells #[.int .i64 m, .slice a1 n k1] 62) := ⟨_, rfl⟩
  have hb6 : Below X2.heap.size X2 X3 := by rw [hX3]; exact below1 _ _
  have xd : Box X3 X2.heap.size [.int .i64 m, .slice a1 n k1] := by rw [hX3]; exact Box.new _ _ _ rfl
  have hb13 := Below.next hb5 hb6
  have hbX3 := Below.next hb4 hb13
  have hA3 := hA.keep hb13
  have hM3 := hM1.keep hb6
  obtain ⟨c0, c1, c2, c3, c4, _⟩ := HS.out X3 hbX3
  rw [hX3] at c0 c1 c2 c3 c4
  have hri := rising_any m aA n cA A X3 hA3
  rw [hAs.out.1, hX3] at hri
  have Hri := Lib.hid hri
  have HX3 := Lib.hid hX3
  have Hk := Lib.hid (And.intro hA3 (And.intro hM3 (And.intro hbX3 xd)))
  clear hA3 hM3 hX3 hM1 hri hA xd hb13 hbX3 hb5
  go_wp2_with fail
  refine Hri.out.mono ?_
  rintro e X4 ⟨rfl, hd4⟩
  rw [← HX3.out] at hd4
  have hb34 : Below X3.heap.size X3 X4 := hd4.below
  have hbX4 := Below.next Hk.out.2.2.1 hb34
  clear c0 c1 c2 c3 c4 Hri
  obtain ⟨c0, c1, c2, c3, c4, _⟩ := HS.out X4 hbX4
  have xd4 := Hk.out.2.2.2.keep hb34
  have d0 := xd4.cell 0 rfl
  have d1 := xd4.cell 1 rfl
  have Hve := Lib.hid (HVc.out X4 a1 k1 A (Below.next HbW.out hbX4) (Hk.out.2.1.keep hb34) hAs.out)
  clear xd4 HVc hd4 hb4 hbwX1 hb6
  go_wp2_with fail
  refine Hve.out.mono ?_
  rintro e X5 ⟨a2, k2, X, rfl, hX, hXp, hb45⟩
  have hbX5 := Below.next hbX4 hb45
  clear c0 c1 c2 c3 c4 d0 d1 Hve
  obtain ⟨c0, c1, c2, c3, c4, _⟩ := HS.out X5 hbX5
  have Hha := Lib.hid (HHa.out X5 a2 k2 X (Below.next HbW.out hbX5) hX hXp.out.1 hXp.out.2.1)
  have hmm : ((m : Int) != m) = false := by simp
  clear HHa
  go_wp2_with fail
  refine Hha.out.mono ?_
  rintro e X6 ⟨rfl, hb56⟩
  have hbX6 := Below.next hbX5 hb56
  have hX6 := hX.keep hb56
  have hA6 := Hk.out.1.keep (Below.next hb34 (Below.next hb45 hb56))
  have hv6 := HvI.out.keep (Below.next HbW.out hbX6)
  have hAi : InN m A := set_in hAs.out.1
  have hpk := rPick_any a2 m k2 X aA n cA A X6 hX6 hA6 hAi (by omega)
  rw [hXp.out.2.2] at hpk
  unfold NewInts at hpk
  have Hv6 := Lib.hid hv6
  have hvl : v.length = n := HvI.out.len
  rw [hvl] at hpk
  have Hpk := Lib.hid hpk
  clear c0 c1 c2 c3 c4 Hha hX hX6 hA6 hpk hAi hvl hv6
  go_wp2_with fail
  refine Hpk.out.mono ?_
  rintro e X7 ⟨a7, k7, rfl, hown7, hb67⟩
  have hsi := rSameInts_any a7 n k7 v av n cv v (Ints.own hown7).1 (Hv6.out.keep hb67)
  rw [decide_eq_true (rfl : v = v)] at hsi
  have Hsi := Lib.hid hsi
  have hF7 := Below.next HbW.out (Below.next hbX6 hb67)
  clear hsi hown7 Hpk
  go_wp2_with fail
  refine Hsi.out.mono ?_
  rintro e X8 ⟨rfl, hd8⟩
  have hF := Below.next hF7 hd8.below
  go_wp2_with fail
  go_ret
  exact ⟨rfl, hF⟩
end

/- The arguments, opened: lists of bytes. -/
section
open Go.ChangeShapes Go.WideShapes Go.ChangeAt Go.RowKit

section
variable {H : Type} {enc : TypeId × Value → H} {W : World} {held : Bool} {b0 : Nat} {v : Value} {d : DataW H} {p : List MemPlace}
set_option maxRecDepth 100000 in
theorem arg_bytes (hv : Value.okWide Tryz.prog W .any b0 48 v) (h : DataW.Trod enc Tryz.prog W 0 (fun _ => true) held 48 v d p) : ∃ a n c l, v = .slice a n c ∧ U8s W a n l := by
  obtain ⟨a, n, c, rfl⟩ := okWide_slice Tryz.underlying48 hv
  obtain ⟨fuel, hf⟩ := h
  rcases open_ints Tryz.underlying48 Tryz.underlying5 (by kernel_rfl) hf with ⟨hcs, _⟩ | ⟨a', len, cap, zs, hcs, _, hl, hm, hz, _, hcell, hwf⟩
  · simp [Value.cells] at hcs
    obtain ⟨rfl, rfl, rfl⟩ := hcs
    exact ⟨none, 0, 0, [], rfl, rfl, fun h0 => by omega, by unfold maxLen; omega, fun i hi => by omega, fun i hi => by omega⟩
  · simp [Value.cells] at hcs
    obtain ⟨rfl, rfl, rfl⟩ := hcs
    simp only [if_true] at hz
    refine ⟨some a', n, c, zs.take n, rfl, by simp; omega, fun h0 => ?_, by omega, fun i hi => ?_, fun i hi => ?_⟩
    · exact congrArg some (plain_of (hcell 0 (by omega)))
    · rw [nth_take_getD _ _ _ hi]
      exact add_cell (hcell i (by omega))
    · have h2 := hwf (nth (zs.take n) i) (by
        have : nth (zs.take n) i ∈ zs.take n := nth_mem (by simp; omega)
        exact List.mem_of_mem_take this)
      simp [Lit.wf, IntKind.min, IntKind.max, IntKind.signed, IntKind.bits] at h2
      omega
end
end

/- InfosetWords: the statement. -/
section
open Go.ChangeShapes Go.WideShapes Go.ChangeAt Go.RowKit

set_option maxRecDepth 100000 in
theorem infWords_lifted (os : Os) (started : os.Started) (H : Type) (enc : TypeId × Value → H) :
    ReturnsInHanded {} Tryz.checked os 13 .any (Rows.infosetWordsSpec.pre6 enc Tryz.prog Tryz.f13 Rows.infosetWordsRow.domain false) (Rows.infosetWordsSpec.post enc Tryz.prog Tryz.f13 false true false false) := by
  refine returnsInHanded_of_change (C := Tryz.checked) Tryz.own started (by kernel_rfl) Tryz.func13
    (ChangeSpec.witness6 (enc := enc) (C := Tryz.checked) false ⟨#[], #[.agg #[.int .i64 0, .int .i64 0, .slice none 0 0, .int .i64 0, .slice none 0 0], .slice none 0 0, .slice none 0 0], []⟩ 8 (by kernel_rfl) (by kernel_rfl) (by kernel_rfl) (by kernel_rfl)) ?_
  intro W base args ds gs before hval0 hW hcnd _
  have hval : ∀ (j : Nat) t v, Tryz.f13.params[j]? = some t → args[j]? = some v → Value.okWide Tryz.prog W .any base t v := hval0
  have hW' := hW
  obtain ⟨p, q, hA0, hV, rfl, hfz, hnd⟩ := hW
  have hA : DataW.TrodAll enc Tryz.prog W 0 (fun _ => true) true Tryz.f13.params.toList args.toList ds p := hA0
  rw [Tryz.params13] at hA hval
  obtain ⟨v0, vs0, d0, ds0, p0, q0, hargs, rfl, rfl, h0, r0⟩ := trodAll_cons hA
  obtain ⟨v1, vs1, d1, ds1, p1, q1, rfl, rfl, rfl, h1, r1⟩ := trodAll_cons r0
  obtain ⟨v2, vs2, d2, ds2, p2, q2, rfl, rfl, rfl, h2, r2⟩ := trodAll_cons r1
  obtain ⟨rfl, rfl, rfl⟩ := trodAll_nil r2
  obtain rfl : args = #[v0, v1, v2] := by cases args; simp_all
  obtain ⟨rfl, rfl⟩ := trodVars_none hV
  have k0 := h0
  have k1 := h1
  have k2 := h2
  have lt0 : ∀ x ∈ p0, x.block < W.heap.size := by obtain ⟨m, hm⟩ := k0; exact DataW.trod_lt m _ _ _ hm
  have lt1 : ∀ x ∈ p1, x.block < W.heap.size := by obtain ⟨m, hm⟩ := k1; exact DataW.trod_lt m _ _ _ hm
  have lt2 : ∀ x ∈ p2, x.block < W.heap.size := by obtain ⟨m, hm⟩ := k2; exact DataW.trod_lt m _ _ _ hm
  obtain ⟨P, M, am, mn, cm, mod, N, a, n, c, L, rfl, hI0, hM0⟩ := arg_code (hval 0 _ v0 rfl rfl) h0
  obtain ⟨a1x, n1x, c1x, Q1, rfl, hQ1⟩ := arg_bytes (hval 1 _ v1 rfl rfl) h1
  obtain ⟨a2x, n2x, c2x, Q2, rfl, hQ2⟩ := arg_ints (hval 2 _ v2 rfl rfl) h2
  clear hA0 hval0
  refine (infWords_any P M am mn cm mod N a n c L a1x n1x c1x Q1 a2x n2x c2x Q2 W hI0 hM0 hQ1 hQ2).mono fun e W' ⟨he, bel⟩ => ?_
  subst he
  exact ⟨_, rfl, _, _, _, [], _, [], hW', trodAll_mk1 (shut_bool Tryz.underlying4 _), (trodAll_cons_mk (Below.trod Tryz.laid (by kernel_rfl) (of_decide_eq_true (by kernel_rfl)) k0 bel lt0) (trodAll_cons_mk (Below.trod Tryz.laid (by kernel_rfl) (of_decide_eq_true (by kernel_rfl)) k1 bel lt1) (trodAll_cons_mk (Below.trod Tryz.laid (by kernel_rfl) (of_decide_eq_true (by kernel_rfl)) k2 bel lt2) trodAll_mk0))), rfl, bel.frame _, fun h => by cases h⟩

theorem infWords_over : Rows.infosetWordsRow.holds Tryz.pinned (OpenSpec.ofChange Rows.infosetWordsSpec) :=
  OpenClaim.holds_of_wide 13 Tryz.f13 rfl rfl rfl rfl rfl rfl rfl ⟨rfl, rfl, rfl, rfl, rfl⟩ rfl rfl rfl rfl rfl (by kernel_rfl) Tryz.func13 (by kernel_rfl)
    (of_decide_eq_true (by kernel_rfl)) (by unfold Func.isWrapper; first | (rw [if_pos (by decide +kernel)]; kernel_rfl) | (rw [if_neg (by decide +kernel)]; exact ⟨rfl, rfl⟩))
    (fun os started H enc _ => infWords_lifted os started H enc)

theorem infWords_holds : Rows.InfosetWordsSaid := infWords_over
#print axioms infWords_holds
end

end Go.Proofs.YtakmnncmeefceaaGreat
