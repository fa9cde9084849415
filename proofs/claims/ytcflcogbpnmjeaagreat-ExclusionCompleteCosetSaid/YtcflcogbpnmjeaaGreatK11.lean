/- The walks of the reference of layer 4: Add, Neg. -/
import Derived.Test.YtcflcogbpnmjeaaGreatK10
import Derived.Test.YtcflcogbpnmjeaaGreatK8
import Derived.Test.YtcflcogbpnmjeaaGreatK9
namespace Go.Proofs.YtcflcogbpnmjeaaGreat
set_option linter.unusedVariables false
set_option linter.unusedSimpArgs false
set_option linter.unusedSectionVars false

/- The kernel of a canonical matrix; canonical matrices are fixed. -/
section
section
variable {O : FOps} {El : Int → Prop} {m n : Nat}

/-- the rows are 0 ahead of their pivots, which ascend -/
structure Lead (L : List (List Int)) (P : List Int) : Prop where
  lead : ∀ i x, i < P.length → x < (nth P i).toNat → nth (nthR L i) x = 0
  asc : ∀ i j, i < j → j < P.length → nth P i < nth P j
theorem elim_lead (F : Fld O El) {L : List (List Int)} (hL : Rws El m L) : ∀ k, k ≤ m → Lead (elimTo O L k).1 (elimTo O L k).2
  | 0, _ => ⟨fun i x hi => by simp [elimTo] at hi, fun i j _ hj => by simp [elimTo] at hj⟩
  | k + 1, hk => by
    have ih := elim_lead F hL k (by omega)
    obtain ⟨h1, _, _⟩ := elim_inv F hL k (by omega)
    have hR := elim_rws F hL k (by omega)
    have hb := findRow_bd (L := (elimTo O L k).1) (c := k) (k := (elimTo O L k).2.length) h1.le
    by_cases hlt : (elimTo O L k).2.length < (elimTo O L k).1.length
    · rw [elimTo_next (Lk := (elimTo O L k).1) (P := (elimTo O L k).2) rfl hlt]
      split
      · exact ih
      · rename_i hf
        have hfl : findRow (elimTo O L k).1 k (elimTo O L k).2.length < (elimTo O L k).1.length := by omega
        have hne : nth (nthR (elimTo O L k).1 (findRow (elimTo O L k).1 k (elimTo O L k).2.length)) k ≠ 0 := findTo_stop _ k _ _ (by show findRow _ k _ < _; omega)
        generalize findRow (elimTo O L k).1 k (elimTo O L k).2.length = r at *
        generalize (elimTo O L k).1 = A at *
        generalize (elimTo O L k).2 = P at *
        have hp : El (nth (nthR A r) k) := Vc.at (hR.row hfl) (by omega)
        have hpi := F.cl.inv _ hp hne
        refine ⟨fun i x hi hx => ?_, fun i j hij hj => ?_⟩
        · rw [List.length_append, List.length_singleton] at hi
          have hx' : x < m := by
            rw [nth_push] at hx
            by_cases e : i < P.length
            · rw [if_pos e] at hx; have := h1.lt i e; omega
            · rw [if_neg e, if_pos (by omega)] at hx; omega
          rw [nth_pivotS F hR hlt hfl (by omega) hne (i := i) (by omega) hx']
          rw [nth_push] at hx
          by_cases e : i < P.length
          · rw [if_pos e] at hx
            have h2 := h1.lt i e
            rw [if_neg (by omega), show sw P.length r i = i by unfold sw; rw [if_neg (by omega), if_neg (by omega)], h1.zero r x hb.1 hfl (by omega), F.mzero hpi, F.zmul (Vc.at (hR.row (by omega)) (by omega)), F.nzero, F.add_zero _ (Vc.at (hR.row (by omega)) hx')]
            exact ih.lead i x e hx
          · rw [if_neg e, if_pos (by omega)] at hx
            rw [if_pos (by omega), h1.zero r x hb.1 hfl (by omega), F.mzero hpi]
        · rw [List.length_append, List.length_singleton] at hj
          rw [nth_push, nth_push, if_pos (by omega)]
          by_cases e : j < P.length
          · rw [if_pos e]; exact ih.asc i j hij e
          · rw [if_neg e, if_pos (by omega)]
            have := h1.lt i (by omega)
            omega
    · have hfull : (elimTo O L k).2.length = L.length := by have := elimTo_length O L k; have := h1.le; omega
      rw [elimTo_full hfull 1]
      exact ih

theorem inv_one (F : Fld O El) : O.inv 1 = 1 := by
  have h := F.mul_inv 1 F.one (by decide)
  rwa [F.one_mul _ (F.cl.inv 1 F.one (by decide))] at h
theorem clearTo_id (O : FOps) {R : List (List Int)} {t c : Nat} (h : ∀ i, i < R.length → i ≠ t → nth (nthR R i) c = 0) : ∀ i, i ≤ R.length → clearTo O t c R i = R
  | 0, _ => rfl
  | i + 1, hi => by
    unfold clearTo
    rw [clearTo_id O h i (by omega)]
    split
    · rfl
    · rename_i e
      unfold clearRow
      rw [if_pos (h i (by omega) e), set_nthR]
/-- a canonical matrix stays -/
theorem elim_fix (F : Fld O El) {R : List (List Int)} {P : List Int} (hP : Piv R P m) (hl : Lead R P) (hlen : R.length = P.length) : ∀ k, k ≤ m →
    ∃ t, t ≤ P.length ∧ elimTo O R k = (R, P.take t) ∧ (∀ j, j < t → nth P j < k) ∧ (∀ j, t ≤ j → j < P.length → (k : Int) ≤ nth P j)
  | 0, _ => ⟨0, Nat.zero_le _, by simp [elimTo], fun j hj => by omega, fun j _ hj => (hP.lt j hj).1⟩
  | k + 1, hk => by
    obtain ⟨t, ht, he, h1, h2⟩ := elim_fix F hP hl hlen k (by omega)
    have htl : (P.take t).length = t := by rw [List.length_take]; omega
    by_cases htt : t = P.length
    · refine ⟨t, ht, ?_, fun j hj => by have := h1 j hj; omega, fun j h3 h4 => by omega⟩
      have hfull : (elimTo O R k).2.length = R.length := by rw [he]; show (P.take t).length = _; omega
      rw [elimTo_full hfull 1, he]
    · have htR : t < R.length := by omega
      rw [elimTo_next (Lk := R) (P := P.take t) he.symm (by rw [htl]; exact htR), htl]
      by_cases hpk : nth P t = k
      · have h11 := hP.one t t (by omega) htR
        rw [hpk, if_pos rfl, Int.toNat_natCast] at h11
        have hf : findRow R k t = t := by rw [findRow_step htR, if_neg (by rw [h11]; decide)]
        rw [hf, if_neg (by omega)]
        have hpv : pivotS O R t t k = R := by
          rw [pivotS_eq, if_pos rfl]
          have hn : normRow O R t k = R := by unfold normRow; rw [h11, if_pos (inv_one F)]
          rw [hn]
          refine clearTo_id O (fun i hi hit => ?_) _ (Nat.le_refl _)
          have := hP.one t i (by omega) hi
          rw [hpk, if_neg hit, Int.toNat_natCast] at this
          exact this
        rw [hpv]
        refine ⟨t + 1, by omega, ?_, fun j hj => ?_, fun j h3 h4 => ?_⟩
        · rw [List.take_succ_eq_append_getElem (by omega), ← nth_getElem, hpk]
        · by_cases e : j = t
          · subst e; omega
          · have := h1 j (by omega); omega
        · have := hl.asc t j (by omega) h4
          omega
      · have hgt : (k : Int) < nth P t := by have := h2 t (Nat.le_refl _) (by omega); omega
        have hz : ∀ i, t ≤ i → i < R.length → nth (nthR R i) k = 0 := fun i h3 h4 => by
          refine hl.lead i k (by omega) ?_
          by_cases e : i = t
          · subst e; omega
          · have := hl.asc t i (by omega) (by omega); omega
        have hf : ∀ d i, d = R.length - i → t ≤ i → i ≤ R.length → findRow R k i = R.length := by
          intro d
          induction d with
          | zero => intro i h3 _ h5; rw [findRow_end (by omega)]; omega
          | succ d ih =>
            intro i h3 h4 h5
            rw [findRow_step (by omega), if_pos (hz i h4 (by omega))]
            exact ih (i + 1) (by omega) (by omega) (by omega)
        rw [hf _ t rfl (Nat.le_refl _) (by omega), if_pos rfl]
        refine ⟨t, ht, rfl, fun j hj => by have := h1 j hj; omega, fun j h3 h4 => ?_⟩
        by_cases e : j = t
        · subst e; omega
        · have := hl.asc t j (by omega) h4; omega
theorem elim_fixed (F : Fld O El) {R : List (List Int)} {P : List Int} (hP : Piv R P m) (hl : Lead R P) (hlen : R.length = P.length) : elimTo O R m = (R, P) := by
  obtain ⟨t, ht, he, h1, h2⟩ := elim_fix F hP hl hlen m (Nat.le_refl _)
  have : t = P.length := by
    apply Classical.byContradiction
    intro h
    have h3 := h2 t (Nat.le_refl _) (by omega)
    have h4 := hP.lt t (by omega)
    omega
  rw [he, this, List.take_length]

/-- the canonical rows of L -/
def canO (O : FOps) (m : Nat) (L : List (List Int)) : List (List Int) := (elimTo O L m).1.take (elimTo O L m).2.length
theorem nthR_takeK {L : List (List Int)} {t i : Nat} (h : i < t) : nthR (L.take t) i = nthR L i := by
  unfold nthR
  simp only [List.getD_eq_getElem?_getD, List.getElem?_take]
  rw [if_pos h]
theorem canO_len (F : Fld O El) {L : List (List Int)} (hL : Rws El m L) : (canO O m L).length = (elimTo O L m).2.length := by
  have h1 := (elim_inv F hL m (Nat.le_refl _)).1.le
  unfold canO
  rw [List.length_take]; omega
theorem canO_rws (F : Fld O El) {L : List (List Int)} (hL : Rws El m L) : Rws El m (canO O m L) := fun r hr => elim_rws F hL m (Nat.le_refl _) r (List.mem_of_mem_take hr)
theorem canO_piv (F : Fld O El) {L : List (List Int)} (hL : Rws El m L) : Piv (canO O m L) (elimTo O L m).2 m ∧ Lead (canO O m L) (elimTo O L m).2 := by
  have h1 := (elim_inv F hL m (Nat.le_refl _)).1
  have h2 := elim_lead F hL m (Nat.le_refl _)
  have hl := canO_len F hL
  refine ⟨⟨by omega, h1.lt, fun j i hj hi => ?_, fun i x hi1 hi2 _ => by omega⟩, ⟨fun i x hi hx => ?_, h2.asc⟩⟩
  · unfold canO
    rw [nthR_takeK (by omega)]
    exact h1.one j i hj (by have := h1.le; omega)
  · unfold canO
    rw [nthR_takeK hi]
    exact h2.lead i x hi hx
theorem RS.nul (F : Fld O El) {L : List (List Int)} {f : Nat → Int} (h : ∀ x, x < m → f x = 0) : RS O El m L f := by
  refine ⟨fun _ => 0, ⟨fun _ _ => F.zero, fun v r x hv hr hx => ?_, fun r x hr hx => (F.mzero hx).symm⟩, fun x hx => h x hx⟩
  show (0 : Int) = O.add 0 (O.neg (O.mul x 0))
  rw [F.mzero hx, F.nzero, F.add_zero 0 F.zero]
/-- the number of the canonical rows is the rank of their columns -/
theorem canO_rk (F : Fld O El) {L : List (List Int)} (hL : Rws El m L) : Rk (clV O El (canO O m L).length (colS (canO O m L))) (List.range m) (canO O m L).length := by
  have h := piv_rk F (canO_rws F hL)
  obtain ⟨h1, h2⟩ := canO_piv F hL
  rw [elim_fixed F h1 h2 (canO_len F hL)] at h
  rw [canO_len F hL]
  rw [canO_len F hL] at h
  exact h

variable {R : List (List Int)} {P : List Int}
end
end

/- The walks of the reference of layer 4: Order, prime, digits, Is, In, Digits, Value. -/
section
open Go.RowKit

/-- the parameters of a field's description that is in range -/
structure RF (P : Int) (m : Nat) : Prop where
  p2 : 2 ≤ P
  p256 : P ≤ 256
  m1 : 1 ≤ m
  m8 : m ≤ 8
  pw : P ^ m ≤ 256
theorem RF.res {P : Int} {m : Nat} (h : RF P m) : Res P m := ⟨h.p2, h.m1⟩
theorem RF.order {P : Int} {m : Nat} (h : RF P m) : orderS P m = P ^ m := by
  have := h.p2; have := h.p256; have := h.m1; have := h.m8
  have e := orderS_in (p := P) (m := m) (by omega) (by simpa using h.pw)
  rwa [Int.toNat_natCast] at e
theorem RF.of {P M : Int} (h : orderS P M ≠ 0) : ∃ m : Nat, M = m ∧ RF P m := by
  obtain ⟨h1, h2, h3, h4, h5, h6⟩ := orderS_ne h
  exact ⟨M.toNat, by omega, ⟨h1, h2, by omega, by omega, h5⟩⟩

set_option maxHeartbeats 1600000 in
theorem rOrder_any (P M : Int) (am : Option Addr) (mn cm : Nat) (w : World) :
    Calls Tryz.prog 53 #[.agg #[.int .i64 P, .int .i64 M, .slice am mn cm]] w fun e w' => e = .returned (.int .i64 (orderS P M)) ∧ Below w.heap.size w w' := by
  have Hal := Lib.hid (below1 w (.cells #[.int .i64 P, .int .i64 M, .slice am mn cm] 24))
  by_cases h1 : P < 2
  · have Ho := Lib.hid (orderS_out (p := P) (m := M) (.inl h1))
    go_enter Tryz.func53, Tryz.ntmps53
    go_wp2
    go_ret
    exact ⟨ret_int Ho.out.symm, Hal.out⟩
  have h1' : decide (P < 2) = false := by simpa using h1
  by_cases h2 : M < 1
  · have Ho := Lib.hid (orderS_out (p := P) (m := M) (.inr (.inr (.inl h2))))
    go_enter Tryz.func53, Tryz.ntmps53
    go_wp2
    go_ret
    exact ⟨ret_int Ho.out.symm, Hal.out⟩
  have h2' : decide (M < 1) = false := by simpa using h2
  by_cases h3 : 8 < M
  · have Ho := Lib.hid (orderS_out (p := P) (m := M) (.inr (.inr (.inr h3))))
    go_enter Tryz.func53, Tryz.ntmps53
    go_wp2
    go_ret
    exact ⟨ret_int Ho.out.symm, Hal.out⟩
  have h3' : decide (8 < M) = false := by simpa using h3
  obtain ⟨n, rfl⟩ : ∃ n : Nat, M = n := ⟨M.toNat, by omega⟩
  go_enter Tryz.func53, Tryz.ntmps53
  go_wp2_with fail
  obtain ⟨W, hW⟩ : ∃ W : World, W = w.alloc (.cells #[.int .i64 P, .int .i64 n, .slice am mn cm] 24) := ⟨_, rfl⟩
  rw [← hW]
  have hbW : Below w.heap.size w W := by rw [hW]; exact below1 _ _
  have c0 : W.cell? ⟨w.heap.size, 0, none⟩ = some (.int .i64 P) := by rw [hW]; exact cell_alloc_at _ _ _ rfl 0
  have c1 : W.cell? ⟨w.heap.size, 1, none⟩ = some (.int .i64 n) := by rw [hW]; exact cell_alloc_at _ _ _ rfl 1
  clear hW
  go_loop [3, 4] (fun qv iv => ∃ k : Nat, k ≤ n ∧ iv = .int .i64 k ∧ qv = .int .i64 (P ^ k) ∧ P ^ k ≤ 256 ∧ 1 ≤ P ^ k) (fun _ i => n - (intOf i).toNat)
  case atStart => exact ⟨0, Nat.zero_le _, rfl, by simp, by simp, by simp⟩
  case round =>
    obtain ⟨k, hk, rfl, rfl, hb, hb1⟩ := hrel
    have hP0 : P ≠ 0 := by omega
    by_cases hlt : k < n
    · have e1 : P ^ (k + 1) = P ^ k * P := Int.pow_succ _ _
      have hd0 : (0 : Int) ≤ 256 / P := Int.ediv_nonneg (by omega) (by omega)
      have hd1 : 256 / P ≤ 256 := Int.ediv_le_self _ (by omega)
      by_cases h5 : 256 / P < P ^ k
      · have hbig : orderS P n = 0 := orderS_big (by
          intro h
          have h6 := pow_mono (show 1 ≤ P by omega) (show k + 1 ≤ n by omega)
          rw [Int.toNat_natCast] at h
          have h7 : 256 < P ^ k * P := Int.lt_mul_of_ediv_lt (by omega) h5
          omega)
        have Hb := Lib.hid hbig
        clear e1 hbig
        generalize P ^ k = q at *
        go_wp2
        go_ret
        exact ⟨ret_int Hb.out.symm, hbW⟩
      · have h7 : P ^ k * P ≤ 256 := by
          have h8 := Int.mul_le_mul_of_nonneg_right (show P ^ k ≤ 256 / P by omega) (show 0 ≤ P by omega)
          have h9 := Int.ediv_mul_le 256 hP0
          omega
        have e3 : 1 * 1 ≤ P ^ k * P := Int.mul_le_mul hb1 (by omega) (by omega) (by omega)
        have E1 := Lib.hid e1
        clear e1
        generalize P ^ k = q at *
        go_wp2
        go_round
        case rel => exact ⟨k + 1, by omega, by go_num, by rw [E1.out], by rw [E1.out]; exact h7, by rw [E1.out]; omega⟩
        case measure => simp [intOf] <;> omega
    · obtain rfl : k = n := by omega
      by_cases h256 : 256 < P
      · have hk1 : 1 ≤ k := by omega
        have h6 := pow_mono (show 1 ≤ P by omega) hk1
        have h8 : P ^ 1 = P := by rw [Int.pow_succ, Int.pow_zero, Int.one_mul]
        omega
      · have Hb := Lib.hid (orderS_in (p := P) (m := k) (by omega) (by simpa using hb))
        go_wp2
        go_ret
        exact ⟨ret_int (by rw [Hb.out]; simp), hbW⟩

set_option maxHeartbeats 400000 in
theorem rPrime_any (n : Nat) (w : World) (h2 : 2 ≤ n) (h256 : n ≤ 256) :
    Calls Tryz.prog 139 #[.int .i64 n] w fun e w' => e = .returned (.bool (primeB n)) ∧ w = w' := by
  go_enter Tryz.func139, Tryz.ntmps139
  go_wp2
  go_loop [3] (fun dv => ∃ d : Nat, 2 ≤ d ∧ d ≤ n ∧ dv = .int .i64 d ∧ Hid (∀ e, 2 ≤ e → e < d → n % e ≠ 0)) (fun d => n + 1 - (intOf d).toNat)
  case atStart => exact ⟨2, Nat.le_refl _, h2, rfl, fun e he he2 => by omega⟩
  case round =>
    obtain ⟨d, hd2, hdn, rfl, hno⟩ := hrel
    have hd0 : (d : Int) ≠ 0 := by omega
    by_cases hs : d < n
    · by_cases hm : n % d = 0
      · have hm' : ((n : Int) % d == 0) = true := by simp; exact_mod_cast hm
        have Hf := Lib.hid (primeB_no hd2 hs hm)
        clear hm
        go_wp2
        go_ret
        exact ⟨ret_bool Hf.out.symm, rfl⟩
      · have hm' : ((n : Int) % d == 0) = false := by simp; exact_mod_cast hm
        have Hm := Lib.hid hm
        clear hm
        go_wp2
        go_round
        case rel =>
          refine ⟨d + 1, by omega, by omega, by go_num, fun e he he2 => ?_⟩
          rcases Nat.lt_or_ge e d with h | h
          · exact hno.out e he h
          · rw [show e = d from by omega]; exact Hm.out
        case measure => simp [intOf] <;> omega
    · have Hf := Lib.hid (primeB_yes (n := n) fun e he he2 => hno.out e he (by omega))
      go_wp2
      go_ret
      exact ⟨ret_bool (by rw [Hf.out]), rfl⟩

set_option maxHeartbeats 400000 in
theorem rdigits_any (x p : Int) (m : Nat) (w : World) (hx : 0 ≤ x) (hx2 : x ≤ 9223372036854775807) (hp : 1 ≤ p) (hm : m ≤ 256) :
    Calls Tryz.prog 160 #[.int .i64 x, .int .i64 p, .int .i64 m] w (NewInts w (digs x p m)) := by
  go_enter Tryz.func160, Tryz.ntmps160
  go_wp2_with (at_make; refine wpList_mk rfl _ _ 22 3 rfl (.int .i64 0) 8 Tryz.underlying22 infoInt rfl m rfl rfl (by omega) (by unfold maxLen; omega) ?_; intro a w1 hown hbel hge hlt)
  go_loopw [0, 8] (fun xv iv wr => ∃ k : Nat, k ≤ m ∧ iv = .int .i64 k ∧ xv = .int .i64 (dquo x p k) ∧
      wr.ownsRow w.heap.size 3 1 (.slice a m m) m ((fillTo (digs x p k) k m).map (Value.int .i64)) ∧ Below w.heap.size w wr)
    (fun _ i _ => m - (intOf i).toNat)
  case atStart => exact ⟨0, Nat.zero_le _, rfl, rfl, by simpa [fillTo, digs] using hown, hbel⟩
  case round =>
    obtain ⟨k, hk, rfl, rfl, hown, hbel⟩ := hrel
    obtain ⟨hints, hmine⟩ := Ints.own hown
    have hq := dquo_bd x p hx hp k
    have hpl := hints.pl
    by_cases hlt : k < m
    · have hc := hints.cell k hlt
      have hf := (hmine (by omega)).2 k hlt
      have hB := (hmine (by omega)).1
      go_wp2
      go_roundw
      case rel =>
        refine ⟨k + 1, by omega, by go_num, rfl, ?_, hbel.setCell hB _⟩
        have h := own_set hown k hlt (.int .i64 (dquo x p k % p))
        rw [← List.map_set, fillTo_set _ _ _ _ (digs_length p k x) hlt, ← digs_snoc] at h
        exact h
      case measure => simp [intOf] <;> omega
    · obtain rfl : k = m := by omega
      have Hl := Lib.hid (digs_length p k x)
      rw [fillTo_all] at hown
      go_wp2
      go_ret
      exact ⟨a, k, by rw [Hl.out]; rfl, by rw [Hl.out]; exact hown, hbel⟩

set_option maxRecDepth 100000 in
set_option maxHeartbeats 800000 in
theorem rIs_any (P M : Int) (am : Option Addr) (mn cm : Nat) (x : Int) (w : World) :
    Calls Tryz.prog 113 #[.agg #[.int .i64 P, .int .i64 M, .slice am mn cm], .int .i64 x] w fun e w' => e = .returned (.bool (isQ (orderS P M) x)) ∧ Below w.heap.size w w' := by
  have Hal := Lib.hid (below1 w (.cells #[.int .i64 P, .int .i64 M, .slice am mn cm] 24))
  by_cases h0 : 0 ≤ x
  · have h0' : decide (0 ≤ x) = true := by simpa using h0
    have Hq : Hid (isQ (orderS P M) x = decide (x < orderS P M)) := by show _ = _; rw [isQ, h0']; simp
    clear h0
    go_enter Tryz.func113, Tryz.ntmps113
    go_wp2_with (go_at_call 53; refine (rOrder_any P M am mn cm _).mono ?_; rintro e w2 ⟨rfl, hb2⟩)
    go_ret
    exact ⟨ret_bool (by rw [Hq.out]), Below.next Hal.out hb2⟩
  · have h0' : decide (0 ≤ x) = false := by simpa using h0
    have Hq : Hid (isQ (orderS P M) x = false) := by show _ = _; rw [isQ, h0']; simp
    clear h0
    go_enter Tryz.func113, Tryz.ntmps113
    go_wp2_with fail
    go_ret
    exact ⟨ret_bool (by rw [Hq.out]), Hal.out⟩

theorem rIn_any (P M : Int) (am : Option Addr) (mn cm : Nat) (x : Int) (w : World) (hx : isQ (orderS P M) x = true) :
    Calls Tryz.prog 161 #[.agg #[.int .i64 P, .int .i64 M, .slice am mn cm], .int .i64 x] w fun e w' => e = .returned (.int .i64 x) ∧ Below w.heap.size w w' := by
  have Hal := Lib.hid (below1 w (.cells #[.int .i64 P, .int .i64 M, .slice am mn cm] 24))
  have Hx := Lib.hid hx
  clear hx
  go_enter Tryz.func161, Tryz.ntmps161
  go_wp2_with fail
  refine (rIs_any P M am mn cm x _).mono ?_
  rintro e w2 ⟨rfl, hb2⟩
  rw [Hx.out]
  go_wp2_with fail
  go_ret
  exact ⟨rfl, Below.next Hal.out hb2⟩
end

/- The walks of the reference of layer 4: Digits, Value, Add, Neg. -/
section
open Go.RowKit

set_option maxRecDepth 100000 in
set_option maxHeartbeats 1600000 in
theorem rDigits_any (P : Int) (m : Nat) (am : Option Addr) (mn cm : Nat) (x : Int) (w : World) (hf : RF P m) (hx : isQ (orderS P m) x = true) :
    Calls Tryz.prog 114 #[.agg #[.int .i64 P, .int .i64 m, .slice am mn cm], .int .i64 x] w (NewInts w (digs x P m)) := by
  have hx0 : 0 ≤ x ∧ x < 256 := by
    have h1 := hf.order
    have h2 := hf.pw
    unfold isQ at hx
    simp only [Bool.and_eq_true, decide_eq_true_eq] at hx
    omega
  have hp1 : 1 ≤ P := by have := hf.p2; omega
  have hm := hf.m8
  have Hx := Lib.hid hx
  clear hx
  go_enter Tryz.func114, Tryz.ntmps114
  go_wp2_with fail
  obtain ⟨W, hW⟩ : ∃ W : World, W = w.alloc (.cells #[.int .i64 P, .int .i64 m, .slice am mn cm] 24) := ⟨_, rfl⟩
  rw [← hW]
  have hbW : Below w.heap.size w W := by rw [hW]; exact below1 _ _
  have x0 : Box W w.heap.size [.int .i64 P, .int .i64 m, .slice am mn cm] := by rw [hW]; exact Box.new _ _ _ rfl
  have HX := Lib.hid x0
  clear hW x0
  have hS : ∀ V, Below W.heap.size W V → V.cell? ⟨w.heap.size, 0, none⟩ = some (.int .i64 P) ∧ V.cell? ⟨w.heap.size, 1, none⟩ = some (.int .i64 m) ∧ V.cell? ⟨w.heap.size, 2, none⟩ = some (.slice am mn cm) ∧ Below W.heap.size W V := by
    intro V hV
    have x1 := HX.out.keep hV
    exact ⟨x1.cell 0 rfl, x1.cell 1 rfl, x1.cell 2 rfl, hV⟩
  have HS := Lib.hid hS
  have HbW := Lib.hid hbW
  clear hS hbW
  go_region_held3 (fun V => V.cell? ⟨w.heap.size, 0, none⟩ = some (.int .i64 P) ∧ V.cell? ⟨w.heap.size, 1, none⟩ = some (.int .i64 m) ∧ V.cell? ⟨w.heap.size, 2, none⟩ = some (.slice am mn cm) ∧ Below W.heap.size W V)
    ((refine HS.out _ ?_; first | exact (Below.refl _ _).drew | (go_split_ands; exact Below.next (by assumption) (by assumption))))
    (first
      | (go_at_call 161; ((with_reducible refine (rIn_any P m am mn cm x _ Hx.out).mono ?_); rintro e w4 ⟨rfl, hb4⟩))
      | (go_at_call 160; ((with_reducible refine (rdigits_any x P m _ hx0.1 (by omega) hp1 (by omega)).mono ?_); rintro e w5 ⟨a5, c5, rfl, hown5, hb5⟩)))
  all_goals (
    have hsz : w.heap.size ≤ w4.heap.size := by
      have h1 := HbW.out.size
      have h2 := hb4.size
      have h3 : W.drew.heap.size = W.heap.size := rfl
      omega
    have Hown := Lib.hid (own_mono hown5 hsz)
    clear hown5
    go_wp2_with fail
    go_ret
    exact ⟨a5, c5, rfl, Hown.out, Below.next HbW.out (by go_split_ands; assumption)⟩)

set_option maxRecDepth 100000 in
set_option maxHeartbeats 1600000 in
theorem rValue_any (P : Int) (M : Int) (am : Option Addr) (mn cm : Nat) (a : Option Addr) (n c : Nat) (l : List Int) (w : World) (h : Ints w a n l) (hn : n ≤ 1000) (hP1 : 0 ≤ P) (hP : P ≤ 256)
    (hb : ∀ k, 0 ≤ valu P (l.drop k) * P ∧ valu P (l.drop k) * P ≤ 1000000000 ∧ 0 ≤ nth l k ∧ nth l k ≤ 1000000000) :
    Calls Tryz.prog 115 #[.agg #[.int .i64 P, .int .i64 M, .slice am mn cm], .slice a n c] w fun e w' => e = .returned (.int .i64 (valu P l)) ∧ Below w.heap.size w w' := by
  have HB := Lib.hid hb
  have Hlen := Lib.hid h.len
  clear hb
  go_enter Tryz.func115, Tryz.ntmps115
  go_wp2_with fail
  obtain ⟨W, hW⟩ : ∃ W : World, W = w.alloc (.cells #[.int .i64 P, .int .i64 M, .slice am mn cm] 24) := ⟨_, rfl⟩
  rw [← hW]
  have hbW : Below w.heap.size w W := by rw [hW]; exact below1 _ _
  have x0 : W.cell? ⟨w.heap.size, 0, none⟩ = some (.int .i64 P) := by rw [hW]; exact cell_alloc_at _ _ _ rfl 0
  clear hW
  have hW := h.keep hbW
  have hpl := hW.pl
  go_loopw [5, 6] (fun xv iv wr => ∃ k : Nat, k ≤ n ∧ iv = .int .i64 ((k : Int) - 1) ∧ xv = .int .i64 (valu P (l.drop k)) ∧ Drawn W wr) (fun _ i _ => (intOf i + 1).toNat)
  case atStart => exact ⟨n, Nat.le_refl _, rfl, by rw [List.drop_of_length_le (by rw [Hlen.out]; exact Nat.le_refl _)]; rfl, Drawn.refl _⟩
  case round =>
    obtain ⟨k, hk, rfl, rfl, hd⟩ := hrel
    by_cases hlt : 0 < k
    · obtain ⟨j, rfl⟩ : ∃ j, k = j + 1 := ⟨k - 1, by omega⟩
      have hc := (hW.drawn hd).cell j (by omega)
      have c0 := hd.cell x0
      have hjl : j < l.length := by rw [Hlen.out]; omega
      obtain ⟨b1, b2, b3, b4⟩ : 0 ≤ valu P (l.drop (j + 1)) * P ∧ valu P (l.drop (j + 1)) * P ≤ 1000000000 ∧ 0 ≤ nth l j ∧ nth l j ≤ 1000000000 := ⟨(HB.out (j + 1)).1, (HB.out (j + 1)).2.1, (HB.out j).2.2⟩
      have e1 : ((j + 1 : Nat) : Int) - 1 = (j : Int) := by omega
      rw [e1]
      clear e1 hlt
      have hfin : valu P (l.drop (j + 1)) * P + nth l j = valu P (l.drop j) := by
        rw [drop_nth l j hjl]; simp only [valu]; rw [Int.mul_comm P, Int.add_comm]
      generalize valu P (l.drop (j + 1)) = X at *
      generalize nth l j = Y at *
      have Hfin := Lib.hid hfin
      clear hfin
      have e1 : (0 : Int) ≤ j := by omega
      have e2 : (j : Int) < n := by omega
      have r1 : IntKind.i64.wrap (X * P) = X * P := IntWalk.i64_in _ (by omega)
      have r2 : IntKind.i64.wrap (X * P + Y) = X * P + Y := IntWalk.i64_in _ (by omega)
      go_wp2_with fail
      go_quiet (fail)
      clear r1 r2
      go_wp2
      go_roundw
      case rel => exact ⟨j, by omega, by go_num, by rw [← Hfin.out], hd.drewN _⟩
      case measure => simp [intOf] <;> omega
    · obtain rfl : k = 0 := by omega
      go_wp2_with fail
      go_ret
      exact ⟨by simp, Below.next hbW hd.below⟩

def addD (P : Int) (a b : List Int) : List Int := List.zipWith (fun u v => (u + v) % P) a b
theorem valu_addD {P : Int} : ∀ (m : Nat) (x y : Int), valu P (addD P (digs x P m) (digs y P m)) = fsum P m x y
  | 0, _, _ => rfl
  | m + 1, x, y => by
    simp only [digs, addD, List.zipWith_cons_cons, valu, fsum]
    have := valu_addD (P := P) m (x / P) (y / P)
    unfold addD at this
    rw [this, Int.add_emod x y]
def negD (P : Int) (a : List Int) : List Int := a.map fun u => (P - u) % P
theorem valu_negD {P : Int} : ∀ (m : Nat) (x : Int), valu P (negD P (digs x P m)) = fneg P m x
  | 0, _ => rfl
  | m + 1, x => by
    simp only [digs, negD, List.map_cons, valu, fneg]
    have := valu_negD (P := P) m (x / P)
    unfold negD at this
    rw [this]
theorem Dig.zip {P : Int} (hP : 0 < P) (f : Int → Int → Int) (a b : List Int) : Dig P (List.zipWith (fun u v => (f u v) % P) a b) := by
  refine Dig.of_mem hP fun x hx => ?_
  rw [List.mem_iff_getElem] at hx
  obtain ⟨i, hi, rfl⟩ := hx
  rw [List.getElem_zipWith]
  exact ⟨Int.emod_nonneg _ (by omega), Int.emod_lt_of_pos _ hP⟩
theorem Dig.mapD {P : Int} (hP : 0 < P) (a : List Int) : Dig P (negD P a) := by
  refine Dig.of_mem hP fun x hx => ?_
  unfold negD at hx
  obtain ⟨y, _, rfl⟩ := List.mem_map.1 hx
  exact ⟨Int.emod_nonneg _ (by omega), Int.emod_lt_of_pos _ hP⟩
/-- the bounds that Value asks -/
theorem Dig.bds {P : Int} {m : Nat} (hf : RF P m) {l : List Int} (h : Dig P l) (hl : l.length = m) : ∀ k, 0 ≤ valu P (l.drop k) * P ∧ valu P (l.drop k) * P ≤ 1000000000 ∧ 0 ≤ nth l k ∧ nth l k ≤ 1000000000 := by
  intro k
  have hP : 0 < P := by have := hf.p2; omega
  have hP2 := hf.p256
  have h1 := h.tail_bd hP hl hf.pw k
  have h2 := h k
  have h3 := mul_bd h1.1 (show valu P (l.drop k) ≤ 256 by omega) (show 0 ≤ P by omega) hP2
  exact ⟨h3.1, by omega, h2.1, by omega⟩
end

/- The walks of the reference of layer 4: Add, Neg. -/
section
open Go.RowKit

theorem digs_b {P : Int} {m : Nat} (hf : RF P m) (x : Int) (i : Nat) : 0 ≤ nth (digs x P m) i ∧ nth (digs x P m) i < P := Dig.digs (by have := hf.p2; omega) m x i

set_option maxRecDepth 100000 in
set_option maxHeartbeats 1600000 in
theorem rAdd_any (P : Int) (m : Nat) (am : Option Addr) (mn cm : Nat) (x y : Int) (w : World) (hf : RF P m) (hx : isQ (orderS P m) x = true) (hy : isQ (orderS P m) y = true) :
    Calls Tryz.prog 63 #[.agg #[.int .i64 P, .int .i64 m, .slice am mn cm], .int .i64 x, .int .i64 y] w fun e w' => e = .returned (.int .i64 (fsum P m x y)) ∧ Below w.heap.size w w' := by
  have hp2 := hf.p2
  have hp256 := hf.p256
  have hm8 := hf.m8
  have Hx := Lib.hid hx
  have Hy := Lib.hid hy
  have Hdx := Lib.hid (digs_length P m x)
  have Hdy := Lib.hid (digs_length P m y)
  have Hbx := Lib.hid (digs_b hf x)
  have Hby := Lib.hid (digs_b hf y)
  have hNl : (addD P (digs x P m) (digs y P m)).length = m := by simp [addD, digs_length]
  have hNn : ∀ i, i < m → nth (addD P (digs x P m) (digs y P m)) i = (nth (digs x P m) i + nth (digs y P m) i) % P := fun i hi => by
    rw [nth_getElem (by rw [hNl]; exact hi), nth_getElem (by rw [digs_length]; exact hi), nth_getElem (by rw [digs_length]; exact hi)]
    simp [addD]
  have hNg : Dig P (addD P (digs x P m) (digs y P m)) := Dig.zip (by omega) (fun u v => u + v) (digs x P m) (digs y P m)
  have hNd := Dig.bds hf hNg hNl
  have HNl := Lib.hid hNl
  have HNn := Lib.hid hNn
  have HNd := Lib.hid hNd
  have HNv := Lib.hid (valu_addD (P := P) m x y)
  clear hx hy hNl hNn hNd hNg
  go_enter Tryz.func63, Tryz.ntmps63
  go_wp2_with fail
  obtain ⟨W, hW⟩ : ∃ W : World, W = w.alloc (.cells #[.int .i64 P, .int .i64 m, .slice am mn cm] 24) := ⟨_, rfl⟩
  rw [← hW]
  have hbW : Below w.heap.size w W := by rw [hW]; exact below1 _ _
  have x0 : Box W w.heap.size [.int .i64 P, .int .i64 m, .slice am mn cm] := by rw [hW]; exact Box.new _ _ _ rfl
  have HX := Lib.hid x0
  have hsW : w.heap.size < W.heap.size := x0.1
  clear hW x0
  refine (rDigits_any P m am mn cm x W hf Hx.out).mono ?_
  rintro e w1 ⟨a1, c1, rfl, hown1, hb1⟩
  have x1 := HX.out.keep hb1
  have d0 := x1.cell 0 rfl
  have d1 := x1.cell 1 rfl
  have d2 := x1.cell 2 rfl
  rw [Hdx.out] at hown1 ⊢
  clear x1
  go_wp2_with fail
  refine (rDigits_any P m am mn cm y w1 hf Hy.out).mono ?_
  rintro e w2 ⟨a2, c2, rfl, hown2, hb2⟩
  rw [Hdy.out] at hown2 ⊢
  have hs1 := hb1.size
  have hown1' := own_keep hown1 hb2
  have hap : a1 ≠ none → ablk a1 < w1.heap.size := fun h0 => (own_ne hown1 h0).2
  have hi2 := (Ints.own hown2).1
  have hlo2 : 0 < m → w1.heap.size ≤ ablk a2 := fun h0 => (own_lt_pos hown2 h0).1
  have hap1 : a1 ≠ none → W.heap.size ≤ ablk a1 := fun h0 => (own_ne hown1 h0).1
  have hb12 := Below.next hb1 hb2
  have hpl2 := hi2.pl
  obtain ⟨D, hD⟩ : ∃ D, digs x P m = D := ⟨_, rfl⟩
  obtain ⟨E, hE⟩ : ∃ E, digs y P m = E := ⟨_, rfl⟩
  rw [hD] at hown1' Hdx Hbx HNl HNn HNd HNv
  rw [hE] at hi2 Hdy Hby HNl HNn HNd HNv
  obtain ⟨NN, hNN⟩ : ∃ NN, addD P D E = NN := ⟨_, rfl⟩
  rw [hNN] at HNl HNn HNd HNv
  clear hD hE hNN hown1 hown2
  go_wp2_with fail
  go_loopw [9] (fun iv wr => ∃ k : Nat, k ≤ m ∧ iv = .int .i64 k ∧ wr.ownsRow W.heap.size 3 1 (.slice a1 m c1) m ((mixTo NN D k).map (Value.int .i64)) ∧ Only a1 w2 wr) (fun iv _ => m - (intOf iv).toNat)
  case atStart => exact ⟨0, Nat.zero_le _, rfl, by rw [mixTo_zero]; exact hown1', Only.refl _ _⟩
  case round =>
    obtain ⟨k, hk, rfl, hown, honly⟩ := hrel
    have hbr : Below W.heap.size W wr := hb12.trans (honly.below hap1 (by have := hb2.size; omega))
    by_cases hlt : k < m
    · obtain ⟨hi1, hm1⟩ := Ints.own hown
      have hi2r := honly.ints hi2 (by
        by_cases h0 : a1 = none
        · exact .inl h0
        · exact .inr (.inr (by have h1 := hap h0; have h2 := hlo2 (by omega); omega)))
      have ca := hi1.cell k hlt
      have cb := hi2r.cell k hlt
      have fa := (hm1 (by omega)).2 k hlt
      have hpl1 := hi1.pl
      have hkN : NN.length = D.length := by rw [HNl.out, Hdx.out]
      have hkD : k < D.length := by rw [Hdx.out]; exact hlt
      have hmix := nth_mixTo NN D k k hkN (by omega)
      rw [if_neg (by omega)] at hmix
      rw [hmix] at ca
      have hset := mixTo_set NN D k hkN hkD
      have Hset := Lib.hid hset
      have x1 := HX.out.keep hbr
      have d0 := x1.cell 0 rfl
      have b1 := Hbx.out k
      have b2 := Hby.out k
      have hP0 : P ≠ 0 := by omega
      have r5 : IntKind.i64.wrap (nth D k + nth E k) = nth D k + nth E k := IntWalk.i64_in _ (by omega)
      have r6 : (nth D k + nth E k).tmod P = (nth D k + nth E k) % P := IntWalk.rem_in _ _ (by omega)
      have R7 := Lib.hid (HNn.out k hlt)
      clear hmix hset hkN hkD x1
      go_wp2_with fail
      go_still_tail 15, (by kernel_rfl)
      change wpList _ _ _ _ _ wr.drew
      generalize hwd : wr.drew = wd
      have fd : wd.frozen? ⟨ablk a1, aoff a1 + k, none⟩ = false := by rw [← hwd]; exact fa
      have cd : wd.cell? ⟨ablk a1, aoff a1 + k, none⟩ = some (.int .i64 (nth D k)) := by rw [← hwd]; exact ca
      have Hwd := Lib.hid hwd
      clear hwd r5 r6
      go_wp2_with fail
      go_roundw
      case rel =>
        obtain rfl := Hwd.out
        have hdr : Drawn wr wr.drew := (Drawn.refl wr).drew
        refine ⟨k + 1, by omega, by go_num, ?_, honly.trans ((Only.drawn hdr).trans (Only.set _ k _ (by intro e; have := hpl1 (by omega); rw [e] at this; cases this)))⟩
        have h1 := own_set (w := wr.drew) hown k hlt (.int .i64 ((nth D k + nth E k) % P))
        rw [← List.map_set, ← R7.out, Hset.out] at h1
        rw [← R7.out]
        exact h1
      case measure => simp [intOf] <;> omega
    · obtain rfl : k = m := by omega
      rw [mixTo_all NN D k HNl.out Hdx.out] at hown
      have hi1 := (Ints.own hown).1
      have x1 := HX.out.keep hbr
      have d0 := x1.cell 0 rfl
      have d1 := x1.cell 1 rfl
      have d2 := x1.cell 2 rfl
      clear x1
      go_wp2_with fail
      refine (rValue_any P k am mn cm a1 k c1 NN wr hi1 (by omega) (by omega) (by omega) HNd.out).mono ?_
      rintro e w4 ⟨rfl, hb4⟩
      go_wp2_with fail
      go_ret
      exact ⟨ret_int HNv.out, Below.next (Below.next hbW hbr) hb4⟩

set_option maxRecDepth 100000 in
set_option maxHeartbeats 1600000 in
theorem rNeg_any (P : Int) (m : Nat) (am : Option Addr) (mn cm : Nat) (x : Int) (w : World) (hf : RF P m) (hx : isQ (orderS P m) x = true) :
    Calls Tryz.prog 176 #[.agg #[.int .i64 P, .int .i64 m, .slice am mn cm], .int .i64 x] w fun e w' => e = .returned (.int .i64 (fneg P m x)) ∧ Below w.heap.size w w' := by
  have hp2 := hf.p2
  have hp256 := hf.p256
  have hm8 := hf.m8
  have Hx := Lib.hid hx
  have Hdx := Lib.hid (digs_length P m x)
  have Hbx := Lib.hid (digs_b hf x)
  have hNl : (negD P (digs x P m)).length = m := by simp [negD, digs_length]
  have hNn : ∀ i, i < m → nth (negD P (digs x P m)) i = (P - nth (digs x P m) i) % P := fun i hi => by
    rw [nth_getElem (by rw [hNl]; exact hi), nth_getElem (by rw [digs_length]; exact hi)]
    simp [negD]
  have hNd := Dig.bds hf (Dig.mapD (by omega) (digs x P m)) hNl
  have HNl := Lib.hid hNl
  have HNn := Lib.hid hNn
  have HNd := Lib.hid hNd
  have HNv := Lib.hid (valu_negD (P := P) m x)
  clear hx hNl hNn hNd
  go_enter Tryz.func176, Tryz.ntmps176
  go_wp2_with fail
  obtain ⟨W, hW⟩ : ∃ W : World, W = w.alloc (.cells #[.int .i64 P, .int .i64 m, .slice am mn cm] 24) := ⟨_, rfl⟩
  rw [← hW]
  have hbW : Below w.heap.size w W := by rw [hW]; exact below1 _ _
  have x0 : Box W w.heap.size [.int .i64 P, .int .i64 m, .slice am mn cm] := by rw [hW]; exact Box.new _ _ _ rfl
  have HX := Lib.hid x0
  have hsW : w.heap.size < W.heap.size := x0.1
  clear hW x0
  refine (rDigits_any P m am mn cm x W hf Hx.out).mono ?_
  rintro e w2 ⟨a1, c1, rfl, hown1, hb1⟩
  rw [Hdx.out] at hown1 ⊢
  have hs1 := hb1.size
  have hap1 : a1 ≠ none → W.heap.size ≤ ablk a1 := fun h0 => (own_ne hown1 h0).1
  obtain ⟨D, hD⟩ : ∃ D, digs x P m = D := ⟨_, rfl⟩
  rw [hD] at hown1 Hdx Hbx HNl HNn HNd HNv
  obtain ⟨NN, hNN⟩ : ∃ NN, negD P D = NN := ⟨_, rfl⟩
  rw [hNN] at HNl HNn HNd HNv
  clear hD hNN
  go_wp2_with fail
  go_loopw [6] (fun iv wr => ∃ k : Nat, k ≤ m ∧ iv = .int .i64 k ∧ wr.ownsRow W.heap.size 3 1 (.slice a1 m c1) m ((mixTo NN D k).map (Value.int .i64)) ∧ Only a1 w2 wr) (fun iv _ => m - (intOf iv).toNat)
  case atStart => exact ⟨0, Nat.zero_le _, rfl, by rw [mixTo_zero]; exact hown1, Only.refl _ _⟩
  case round =>
    obtain ⟨k, hk, rfl, hown, honly⟩ := hrel
    have hbr : Below W.heap.size W wr := hb1.trans (honly.below hap1 (by omega))
    by_cases hlt : k < m
    · obtain ⟨hi1, hm1⟩ := Ints.own hown
      have ca := hi1.cell k hlt
      have fa := (hm1 (by omega)).2 k hlt
      have hpl1 := hi1.pl
      have hkN : NN.length = D.length := by rw [HNl.out, Hdx.out]
      have hkD : k < D.length := by rw [Hdx.out]; exact hlt
      have hmix := nth_mixTo NN D k k hkN (by omega)
      rw [if_neg (by omega)] at hmix
      rw [hmix] at ca
      have hset := mixTo_set NN D k hkN hkD
      have Hset := Lib.hid hset
      have x1 := HX.out.keep hbr
      have d0 := x1.cell 0 rfl
      have b1 := Hbx.out k
      have hP0 : P ≠ 0 := by omega
      have r5 : IntKind.i64.wrap (P - nth D k) = P - nth D k := IntWalk.i64_in _ (by omega)
      obtain ⟨Z, hZ⟩ : ∃ Z, (P - nth D k) % P = Z := ⟨_, rfl⟩
      have r6 : (P - nth D k).tmod P = Z := by rw [← hZ]; exact IntWalk.rem_in _ _ (by omega)
      have R7 : Hid (nth NN k = Z) := by show _ = _; rw [← hZ]; exact HNn.out k hlt
      clear hZ
      clear hmix hset hkN hkD x1
      go_wp2_with fail
      go_still_tail 13, (by kernel_rfl)
      change wpList _ _ _ _ _ wr.drew
      generalize hwd : wr.drew = wd
      have fd : wd.frozen? ⟨ablk a1, aoff a1 + k, none⟩ = false := by rw [← hwd]; exact fa
      have cd : wd.cell? ⟨ablk a1, aoff a1 + k, none⟩ = some (.int .i64 (nth D k)) := by rw [← hwd]; exact ca
      have Hwd := Lib.hid hwd
      clear hwd r5 r6
      go_wp2_with fail
      go_roundw
      case rel =>
        obtain rfl := Hwd.out
        have hdr : Drawn wr wr.drew := (Drawn.refl wr).drew
        refine ⟨k + 1, by omega, by go_num, ?_, honly.trans ((Only.drawn hdr).trans (Only.set _ k _ (by intro e; have := hpl1 (by omega); rw [e] at this; cases this)))⟩
        have h1 := own_set (w := wr.drew) hown k hlt (.int .i64 Z)
        rw [← List.map_set, ← R7.out, Hset.out] at h1
        rw [← R7.out]
        exact h1
      case measure => simp [intOf] <;> omega
    · obtain rfl : k = m := by omega
      rw [mixTo_all NN D k HNl.out Hdx.out] at hown
      have hi1 := (Ints.own hown).1
      have x1 := HX.out.keep hbr
      have d0 := x1.cell 0 rfl
      have d1 := x1.cell 1 rfl
      have d2 := x1.cell 2 rfl
      clear x1
      go_wp2_with fail
      refine (rValue_any P k am mn cm a1 k c1 NN wr hi1 (by omega) (by omega) (by omega) HNd.out).mono ?_
      rintro e w4 ⟨rfl, hb4⟩
      go_wp2_with fail
      go_ret
      exact ⟨ret_int HNv.out, Below.next (Below.next hbW hbr) hb4⟩
end

end Go.Proofs.YtcflcogbpnmjeaaGreat
