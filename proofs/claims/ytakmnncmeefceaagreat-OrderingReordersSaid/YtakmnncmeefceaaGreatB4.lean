/- The walk of ordering.Dimension. -/
import Derived.Test.YtakmnncmeefceaaGreatB3
import Derived.Laws.Bits64
import Derived.Laws.Bits64b
namespace Go.Proofs.YtakmnncmeefceaaGreat
set_option linter.unusedVariables false
set_option linter.unusedSimpArgs false
set_option linter.unusedSectionVars false

/- The walk of infoset.Rank. -/
section
open Go.RowKit

theorem okSet_ge {N : Int} {l : List Int} (h : okSet N l = true) : ∀ k, k < l.length → (k : Int) ≤ nth l k
  | 0, hk => (okSet_at h hk).1
  | k + 1, hk => by
    have ih := okSet_ge h k (by omega)
    have := (okSet_at h hk).2.2 (by omega)
    rw [Nat.add_sub_cancel] at this
    omega
theorem okSet_len {N : Int} {l : List Int} (h : okSet N l = true) (hN : 0 ≤ N) : (l.length : Int) ≤ N := by
  by_cases h0 : l.length = 0
  · omega
  · have h1 := okSet_ge h (l.length - 1) (by omega)
    have h2 := (okSet_at h (k := l.length - 1) (by omega)).2.1
    omega
theorem setsE_one (N : Int) (l : List Int) : setsE N [l] = if okSet N l = true then 0 else 6 := by simp [setsE]

/-- the error of a code and a set -/
def rankE (P M : Int) (mod : List Int) (N : Int) (L : List (List Int)) (Q : List Int) : Int := if codeE P M mod N L = 0 then setsE N [Q] else codeE P M mod N L

def RankPost (P M : Int) (mod : List Int) (N : Int) (L : List (List Int)) (Q : List Int) (w : World) (e : Ending) (w' : World) : Prop :=
  Below w.heap.size w w' ∧ ((rankE P M mod N L Q ≠ 0 ∧ e = .returned (.tuple #[.int .i64 0, .int .i64 (rankE P M mod N L Q)])) ∨
    (rankE P M mod N L Q = 0 ∧ e = .returned (.tuple #[.int .i64 (grS (tblOf P M.toNat mod).ops L Q).length, .int .i64 0])))

theorem codeE_rws {P M : Int} {mod : List Int} {N : Int} {L : List (List Int)} (h : codeE P M mod N L = 0) : ∃ m : Nat, N = m ∧ 1 ≤ m ∧ m ≤ 64 ∧ L.length ≤ 256 ∧ Rws (tblOf P M.toNat mod).El m L := by
  obtain ⟨h1, h2, h3, h4⟩ := codeE_zero h
  obtain ⟨h5, h6⟩ := spaceE_zero h4
  obtain ⟨h7, h8⟩ := fmatE_zero h5
  obtain ⟨m, rfl, hm, hl, hR⟩ := matE_zero h8
  exact ⟨m, rfl, by omega, by omega, hl, hR⟩

set_option maxRecDepth 100000 in
set_option maxHeartbeats 4000000 in
theorem rank_any (P M : Int) (am : Option Addr) (mn cm : Nat) (mod : List Int) (N : Int) (a : Option Addr) (n c : Nat) (L : List (List Int)) (ao : Option Addr) (no co : Nat) (Q : List Int) (w : World)
    (hmod : Ints w am mn mod) (hi : Mat w a n L) (hq : Ints w ao no Q) :
    Calls Tryz.prog 26 #[.agg #[.int .i64 P, .int .i64 M, .slice am mn cm, .int .i64 N, .slice a n c], .slice ao no co] w (RankPost P M mod N L Q w) := by
  have Hql := Lib.hid hq.len
  have Hil := Lib.hid hi.len
  go_enter Tryz.func26, Tryz.ntmps26
  go_wp2_with fail
  obtain ⟨W, hW⟩ : ∃ W : World, W = w.alloc (.cells #[.int .i64 P, .int .i64 M, .slice am mn cm, .int .i64 N, .slice a n c] 27) := ⟨_, rfl⟩
  rw [← hW]
  have hbW : Below w.heap.size w W := by rw [hW]; exact below1 _ _
  have x0 : Box W w.heap.size [.int .i64 P, .int .i64 M, .slice am mn cm, .int .i64 N, .slice a n c] := by rw [hW]; exact Box.new _ _ _ rfl
  have HX := Lib.hid x0
  clear hW x0
  refine (infOpen_any P M am mn cm mod N a n c L W (hmod.keep hbW) (hi.keep hbW)).mono ?_
  rintro e w1 ⟨hb1, ⟨hE, rfl⟩ | ⟨hE, b, rfl, hG⟩⟩
  · have hbw1 := Below.next hbW hb1
    have HE : Hid (rankE P M mod N L Q = codeE P M mod N L) := by show _ = _; rw [rankE, if_neg hE]
    have He := Lib.hid hE
    have hE1 : (codeE P M mod N L == 0) = false := by simpa using hE
    have hE2 : (codeE P M mod N L != 0) = true := by simpa using hE
    clear hE
    go_wp2_with fail
    go_ret2
    exact ⟨hbw1, .inl ⟨by rw [HE.out]; exact He.out, by rw [HE.out]; rfl⟩⟩
  · have hbw1 := Below.next hbW hb1
    have HE : Hid (rankE P M mod N L Q = setsE N [Q]) := by show _ = _; rw [rankE, if_pos hE]
    have Hrw := Lib.hid (codeE_rws hE)
    have xU := HX.out.keep hb1
    have b0 := xU.cell 0 rfl
    have b1 := xU.cell 1 rfl
    have b2 := xU.cell 2 rfl
    have b3 := xU.cell 3 rfl
    have b4 := xU.cell 4 rfl
    have hq1 := (hq.keep hbW).keep hb1
    have hbl := below1 w1 (.cells #[.slice ao no co] 22)
    have hMs : Mat (w1.alloc (.cells #[.slice ao no co] 22)) (some ⟨w1.heap.size, 0, none⟩) 1 [Q] := ⟨rfl, fun _ => rfl, by unfold maxLen; omega, fun i hi => by
      obtain rfl : i = 0 := by omega
      exact ⟨ao, no, co, cell_new' _ _ _ rfl, hq1.keep hbl⟩⟩
    clear xU hE
    go_wp2_with fail
    refine (sets_any P M am mn cm N a n c _ 1 1 [Q] _ hMs).mono ?_
    rintro e w2 ⟨rfl, hb2⟩
    have hb3 : Below w1.heap.size w1 w2 := Below.next hbl hb2
    have hbw2 := Below.next hbw1 hb3
    rw [setsE_one] at HE ⊢
    by_cases hok : okSet N Q = true
    · have HE2 : Hid (rankE P M mod N L Q = 0) := by show _ = _; rw [HE.out, if_pos hok]
      rw [if_pos hok]
      obtain ⟨m, hm, hm1, hm2, hLl, hRw⟩ := Hrw.out
      subst hm
      have hlen := okSet_len hok (by omega)
      have hQk : ∀ k, k < no → 0 ≤ nth Q k ∧ nth Q k < m := fun k hk => by
        have := okSet_at hok (k := k) (by rw [Hql.out]; exact hk)
        exact ⟨this.1, this.2.1⟩
      have hno : no ≤ 1000000 := by rw [← Hql.out]; omega
      have hn : n ≤ 1000000 := by rw [← Hil.out]; omega
      have HQk := Lib.hid hQk
      have HRw := Lib.hid hRw
      have xU := (HX.out.keep hb1).keep hb3
      have b0 := xU.cell 0 rfl
      have b1 := xU.cell 1 rfl
      have b2 := xU.cell 2 rfl
      have b3 := xU.cell 3 rfl
      have b4 := xU.cell 4 rfl
      have hq2 := hq1.keep hb3
      have hi2 := ((hi.keep hbW).keep hb1).keep hb3
      have hG2 := hG.keep hb3
      clear hok hlen hQk hRw xU
      go_wp2_with fail
      refine (greedy_any P M am mn cm m a n c L m ao no co Q hG2 hi2 HRw.out hq2 HQk.out hn hno).mono ?_
      rintro e w4 ⟨a4, c4, rfl, hown4, hb4⟩
      have hF : RankPost P M mod m L Q w (.returned (.tuple #[.int .i64 (grS (tblOf P M.toNat mod).ops L Q).length, .int .i64 0])) w4 := ⟨Below.next hbw2 hb4, .inr ⟨HE2.out, rfl⟩⟩
      have HF := Lib.hid hF
      clear hF hown4
      generalize grS (tblOf P M.toNat mod).ops L Q = out at *
      go_wp2_with fail
      go_ret2
      exact HF.out
    · have HE2 : Hid (rankE P M mod N L Q = 6) := by show _ = _; rw [HE.out, if_neg hok]
      rw [if_neg hok]
      clear hok b0 b1 b2 b3 b4
      go_wp2_with fail
      go_ret2
      exact ⟨hbw2, .inl ⟨by rw [HE2.out]; omega, by rw [HE2.out]; rfl⟩⟩
end

/- The walks of ordering.rank, dimension. -/
section
open Go.RowKit

/-- the positions below k whose bits are set -/
def bitsTo (x : Nat) : Nat → List Int
  | 0 => []
  | k + 1 => if x.testBit k = true then bitsTo x k ++ [(k : Int)] else bitsTo x k
theorem bitsTo_len (x : Nat) : ∀ k, (bitsTo x k).length ≤ k
  | 0 => Nat.le_refl _
  | k + 1 => by have := bitsTo_len x k; unfold bitsTo; split <;> simp <;> omega
theorem testBit_div (x i : Nat) : x.testBit i = decide (x / 2 ^ i % 2 = 1) := by
  rw [Nat.testBit, Nat.shiftRight_eq_div_pow, Nat.one_and_eq_mod_two]
  rcases Nat.mod_two_eq_zero_or_one (x / 2 ^ i) with h | h <;> simp [h]
theorem and_one_u64 (x i : Nat) (hx : x < 18446744073709551616) : bits .and .u64 ((x : Int) / 2 ^ i) 1 = ((x / 2 ^ i % 2 : Nat) : Int) := by
  have h1 : x / 2 ^ i < 18446744073709551616 := Nat.lt_of_le_of_lt (Nat.div_le_self _ _) hx
  have h := bits_and_u64_nat (x / 2 ^ i) 1 h1 (by omega)
  rw [Nat.and_one_is_mod] at h
  rw [← h]
  congr 1

theorem nth_bits_lt (x : Nat) : ∀ k j, j < (bitsTo x k).length → 0 ≤ nth (bitsTo x k) j ∧ nth (bitsTo x k) j < k
  | 0, j, h => by simp [bitsTo] at h
  | k + 1, j, h => by
    unfold bitsTo at h ⊢
    split
    · rename_i ht
      rw [if_pos ht] at h
      simp only [List.length_append, List.length_singleton] at h
      by_cases hj : j < (bitsTo x k).length
      · have := nth_bits_lt x k j hj
        have e : nth (bitsTo x k ++ [(k : Int)]) j = nth (bitsTo x k) j := by simp only [nth, List.getD_eq_getElem?_getD]; rw [List.getElem?_append_left hj]
        rw [e]; omega
      · obtain rfl : j = (bitsTo x k).length := by omega
        have e : nth (bitsTo x k ++ [(k : Int)]) (bitsTo x k).length = k := by simp [nth]
        rw [e]; omega
    · rename_i ht
      rw [if_neg ht] at h
      have := nth_bits_lt x k j h
      omega
theorem okTo_append {N : Int} {l : List Int} {z : Int} {k : Nat} (hk : k ≤ l.length) : okTo N (l ++ [z]) k = okTo N l k := by
  unfold okTo
  have key : ∀ i, i ∈ List.range k → okAt N (l ++ [z]) i = okAt N l i := fun i hi => by
    have := List.mem_range.1 hi
    have e : ∀ j, j < l.length → nth (l ++ [z]) j = nth l j := fun j hj => by simp only [nth, List.getD_eq_getElem?_getD]; rw [List.getElem?_append_left hj]
    unfold okAt
    rw [e i (by omega), e (i - 1) (by omega)]
  rw [Bool.eq_iff_iff, List.all_eq_true, List.all_eq_true]
  exact ⟨fun h i hi => by rw [← key i hi]; exact h i hi, fun h i hi => by rw [key i hi]; exact h i hi⟩
theorem okAt_mono {N N' : Int} (hN : N ≤ N') {l : List Int} {k : Nat} (h : okAt N l k = true) : okAt N' l k = true := by
  unfold okAt at *
  simp only [Bool.and_eq_true, Bool.or_eq_true, decide_eq_true_eq, beq_iff_eq] at *
  exact ⟨⟨h.1.1, by omega⟩, h.2⟩
theorem okSet_mono {N N' : Int} (hN : N ≤ N') {l : List Int} (h : okSet N l = true) : okSet N' l = true := by
  unfold okSet okTo at *
  rw [List.all_eq_true] at *
  exact fun i hi => okAt_mono hN (h i hi)
theorem okSet_bits (x : Nat) : ∀ k : Nat, okSet k (bitsTo x k) = true
  | 0 => rfl
  | k + 1 => by
    have ih := okSet_mono (N' := ((k + 1 : Nat) : Int)) (by omega) (okSet_bits x k)
    unfold bitsTo
    split
    · unfold okSet
      rw [List.length_append, List.length_singleton]
      refine okTo_succ (by rw [okTo_append (Nat.le_refl _)]; exact ih) ?_
      have e : nth (bitsTo x k ++ [(k : Int)]) (bitsTo x k).length = k := by simp [nth]
      unfold okAt
      rw [e]
      by_cases h0 : (bitsTo x k).length = 0
      · simp [h0]; omega
      · have h1 := (nth_bits_lt x k ((bitsTo x k).length - 1) (by omega)).2
        have e2 : nth (bitsTo x k ++ [(k : Int)]) ((bitsTo x k).length - 1) = nth (bitsTo x k) ((bitsTo x k).length - 1) := by simp only [nth, List.getD_eq_getElem?_getD]; rw [List.getElem?_append_left (by omega)]
        rw [e2]
        simp [h1]; omega
    · exact ih

set_option maxRecDepth 100000 in
set_option maxHeartbeats 4000000 in
theorem ordRank_any (P M : Int) (am : Option Addr) (mn cm : Nat) (mod : List Int) (N : Nat) (a : Option Addr) (n c : Nat) (L : List (List Int)) (x : Nat) (w : World)
    (hmod : Ints w am mn mod) (hi : Mat w a n L) (hE : codeE P M mod N L = 0) (hx : x < 18446744073709551616) :
    Calls Tryz.prog 145 #[.agg #[.int .i64 P, .int .i64 M, .slice am mn cm, .int .i64 N, .slice a n c], .int .u64 x] w
      fun e w' => e = .returned (.int .i64 (grS (tblOf P M.toNat mod).ops L (bitsTo x N)).length) ∧ Below w.heap.size w w' := by
  have hN64 := (codeE_zero hE).2.2.1
  have HE := Lib.hid hE
  clear hE
  go_enter Tryz.func145, Tryz.ntmps145
  go_wp2_with fail
  obtain ⟨W, hW⟩ : ∃ W : World, W = w.alloc (.cells #[.int .i64 P, .int .i64 M, .slice am mn cm, .int .i64 N, .slice a n c] 27) := ⟨_, rfl⟩
  rw [← hW]
  have hbW : Below w.heap.size w W := by rw [hW]; exact below1 _ _
  have x0 : Box W w.heap.size [.int .i64 P, .int .i64 M, .slice am mn cm, .int .i64 N, .slice a n c] := by rw [hW]; exact Box.new _ _ _ rfl
  have b3 := x0.cell 3 rfl
  have HX := Lib.hid x0
  clear hW x0
  go_wp2_with fail
  go_loopw [5, 11] (fun sv iv wr => ∃ (k : Nat) (aq : Option Addr) (cq : Nat), k ≤ N ∧ iv = .int .i64 k ∧ sv = .slice aq (bitsTo x k).length cq ∧ wr.ownsRow W.heap.size 3 1 (.slice aq (bitsTo x k).length cq) (bitsTo x k).length ((bitsTo x k).map (Value.int .i64)) ∧ Below W.heap.size W wr)
    (fun _ iv _ => N - (intOf iv).toNat)
  case atStart => exact ⟨0, none, 0, Nat.zero_le _, rfl, rfl, own_none, Below.refl _ _⟩
  case round =>
    obtain ⟨k, aq, cq, hk, rfl, rfl, hop, hbr⟩ := hrel
    have hlen := bitsTo_len x k
    by_cases hlt : k < N
    · have hand := and_one_u64 x k hx
      have htb := testBit_div x k
      by_cases ht : x.testBit k = true
      · have hb : Hid (bitsTo x (k + 1) = bitsTo x k ++ [(k : Int)]) := by show _ = _; rw [bitsTo, if_pos ht]
        have h1 : x / 2 ^ k % 2 = 1 := by rw [ht] at htb; simpa using htb.symm
        rw [h1] at hand
        clear ht htb h1
        generalize bitsTo x k = out at *
        have hcn := cell_new wr (.int .i64 k) 3
        have hbn := below1 wr (.cells #[.int .i64 k] 3)
        have hsz := hbr.size
        go_wp2_with (at_builtin; refine wpList_push rfl _ _ 22 3 rfl (.int .i64 0) 8 Tryz.underlying22 infoInt rfl W.heap.size aq out.length cq _ rfl (hop.alloc _) ⟨wr.heap.size, 0, none⟩ 1 (.int .i64 k) rfl hcn rfl (by omega) (by unfold maxLen; omega) (by simp; omega) ?_; intro a5 c5 w5 hown5 hgr5 hap5)
        go_roundw
        case rel =>
          refine ⟨k + 1, a5, c5, by omega, by go_num, by rw [hb.out]; simp, ?_, Below.app (Below.trans hbr (hbn.mono hsz)) (hop.alloc _) hgr5 (Nat.le_refl _) (Nat.le_trans hsz hbn.size)⟩
          rw [hb.out]; simpa using hown5
        case measure => simp [intOf] <;> omega
      · have hb : Hid (bitsTo x (k + 1) = bitsTo x k) := by show _ = _; rw [bitsTo, if_neg ht]
        have h1 : x / 2 ^ k % 2 = 0 := by
          have h2 := Nat.mod_two_eq_zero_or_one (x / 2 ^ k)
          have h3 : ¬ x / 2 ^ k % 2 = 1 := fun h => by rw [h] at htb; simp at htb; exact ht htb
          omega
        rw [h1] at hand
        clear ht htb h1
        generalize bitsTo x k = out at *
        go_wp2_with fail
        go_roundw
        case rel => exact ⟨k + 1, aq, cq, by omega, by go_num, by rw [hb.out], by rw [hb.out]; exact hop, hbr⟩
        case measure => simp [intOf] <;> omega
    · obtain rfl : k = N := by omega
      have xU := HX.out.keep hbr
      have b0 := xU.cell 0 rfl
      have b1 := xU.cell 1 rfl
      have b2 := xU.cell 2 rfl
      have b3 := xU.cell 3 rfl
      have b4 := xU.cell 4 rfl
      have hiQ := (Ints.own hop).1
      have hbw := Below.next hbW hbr
      have hmr := (hmod.keep hbW).keep hbr
      have hir := (hi.keep hbW).keep hbr
      have Hlen := Lib.hid hlen
      have hst : rankE P M mod k L (bitsTo x k) = 0 := by rw [rankE, if_pos HE.out, setsE_one, if_pos (okSet_bits x k)]
      have Hst := Lib.hid hst
      clear xU hop hst hlen
      go_wp2_with fail
      refine (rank_any P M am mn cm mod k a n c L aq (bitsTo x k).length cq (bitsTo x k) wr hmr hir hiQ).mono ?_
      rintro e w4 ⟨hb4, ⟨he, _⟩ | ⟨he, rfl⟩⟩
      · exact absurd Hst.out he
      · have hF := Below.next hbw hb4
        clear he
        go_wp2_with fail
        go_ret
        exact ⟨rfl, hF⟩
end

/- The walk of ordering.dimension. -/
section
open Go.RowKit

theorem grTo_len (O : FOps) (L : List (List Int)) (Q : List Int) : ∀ k, (grTo O L Q k).2.length ≤ k
  | 0 => Nat.le_refl _
  | k + 1 => by
    have := grTo_len O L Q k
    simp only [grTo]
    split
    · simp; omega
    · omega
theorem grS_len (O : FOps) (L : List (List Int)) (Q : List Int) : (grS O L Q).length ≤ Q.length := grTo_len O L Q _
def cplU (x : Nat) : Nat := 18446744073709551615 ^^^ x
theorem cplU_lt {x : Nat} (hx : x < 18446744073709551616) : cplU x < 18446744073709551616 := Nat.xor_lt_two_pow (n := 64) (by omega) (by omega)
theorem cplU_bits {x : Nat} (hx : x < 18446744073709551616) : bits .xor .u64 IntKind.u64.max (x : Int) = ((cplU x : Nat) : Int) := bits_xor_u64_nat 18446744073709551615 x (by omega) hx
theorem cplU_test (x i : Nat) (hi : i < 64) : (cplU x).testBit i = !x.testBit i := by
  have h : (18446744073709551615 : Nat).testBit i = true := by
    have := Nat.testBit_two_pow_sub_one 64 i
    rw [show (2 : Nat) ^ 64 - 1 = 18446744073709551615 by decide] at this
    rw [this]; simp [hi]
  rw [cplU, Nat.testBit_xor, h]; simp
def dimS (O : FOps) (L : List (List Int)) (N x : Nat) : Int := (grS O L (bitsTo x N)).length + (grS O L (bitsTo (cplU x) N)).length - L.length

set_option maxRecDepth 100000 in
set_option maxHeartbeats 4000000 in
theorem ordDim_any (P M : Int) (am : Option Addr) (mn cm : Nat) (mod : List Int) (N : Nat) (a : Option Addr) (n c : Nat) (L : List (List Int)) (x : Nat) (w : World)
    (hmod : Ints w am mn mod) (hi : Mat w a n L) (hE : codeE P M mod N L = 0) (hx : x < 18446744073709551616) :
    Calls Tryz.prog 103 #[.agg #[.int .i64 P, .int .i64 M, .slice am mn cm, .int .i64 N, .slice a n c], .int .u64 x] w
      fun e w' => e = .returned (.int .i64 (dimS (tblOf P M.toNat mod).ops L N x)) ∧ Below w.heap.size w w' := by
  have hN64 := (codeE_zero hE).2.2.1
  obtain ⟨m', hm', h1m, h64m, hL256, _⟩ := codeE_rws hE
  have hn : n ≤ 256 := by rw [← hi.len]; exact hL256
  have hl1 := grS_len (tblOf P M.toNat mod).ops L (bitsTo x N)
  have hl2 := grS_len (tblOf P M.toNat mod).ops L (bitsTo (cplU x) N)
  have hl3 := bitsTo_len x N
  have hl4 := bitsTo_len (cplU x) N
  have hd : dimS (tblOf P M.toNat mod).ops L N x = (grS (tblOf P M.toNat mod).ops L (bitsTo x N)).length + (grS (tblOf P M.toNat mod).ops L (bitsTo (cplU x) N)).length - n := by rw [dimS, hi.len]
  have hc : ∀ y : Nat, y < 18446744073709551616 → ∀ V, Below w.heap.size w V → Calls Tryz.prog 145 #[.agg #[.int .i64 P, .int .i64 M, .slice am mn cm, .int .i64 N, .slice a n c], .int .u64 y] V
      fun e w' => e = .returned (.int .i64 (grS (tblOf P M.toNat mod).ops L (bitsTo y N)).length) ∧ Below V.heap.size V w' := fun y hy V hV =>
    ordRank_any P M am mn cm mod N a n c L y V (hmod.keep hV) (hi.keep hV) hE hy
  have Hc1 := Lib.hid (hc x hx)
  have Hc2 := Lib.hid (hc (cplU x) (cplU_lt hx))
  have Hd := Lib.hid hd
  have hcx := Lib.hid (cplU_bits hx)
  clear hc hd hE hm' h1m h64m hL256
  generalize (grS (tblOf P M.toNat mod).ops L (bitsTo x N)).length = r1 at *
  generalize (grS (tblOf P M.toNat mod).ops L (bitsTo (cplU x) N)).length = r2 at *
  have k1 : IntKind.i64.wrap ((r1 : Int) + r2) = (r1 : Int) + r2 := IntWalk.i64_in _ (by omega)
  have k2 : IntKind.i64.wrap ((r1 : Int) + r2 - n) = (r1 : Int) + r2 - n := IntWalk.i64_in _ (by omega)
  go_enter Tryz.func103, Tryz.ntmps103
  go_wp2_with fail
  obtain ⟨W, hW⟩ : ∃ W : World, W = w.alloc (.cells #[.int .i64 P, .int .i64 M, .slice am mn cm, .int .i64 N, .slice a n c] 27) := ⟨_, rfl⟩
  rw [← hW]
  have hbW : Below w.heap.size w W := by rw [hW]; exact below1 _ _
  have x0 : Box W w.heap.size [.int .i64 P, .int .i64 M, .slice am mn cm, .int .i64 N, .slice a n c] := by rw [hW]; exact Box.new _ _ _ rfl
  have HX := Lib.hid x0
  clear hW x0
  have hS : ∀ V, Below W.heap.size W V → V.cell? ⟨w.heap.size, 0, none⟩ = some (.int .i64 P) ∧ V.cell? ⟨w.heap.size, 1, none⟩ = some (.int .i64 M) ∧ V.cell? ⟨w.heap.size, 2, none⟩ = some (.slice am mn cm) ∧ V.cell? ⟨w.heap.size, 3, none⟩ = some (.int .i64 N) ∧ V.cell? ⟨w.heap.size, 4, none⟩ = some (.slice a n c) ∧ Below W.heap.size W V := by
    intro V hV
    have x1 := HX.out.keep hV
    exact ⟨x1.cell 0 rfl, x1.cell 1 rfl, x1.cell 2 rfl, x1.cell 3 rfl, x1.cell 4 rfl, hV⟩
  have HS := Lib.hid hS
  have HbW := Lib.hid hbW
  clear hS hbW
  go_region_held3 (fun V => V.cell? ⟨w.heap.size, 0, none⟩ = some (.int .i64 P) ∧ V.cell? ⟨w.heap.size, 1, none⟩ = some (.int .i64 M) ∧ V.cell? ⟨w.heap.size, 2, none⟩ = some (.slice am mn cm) ∧ V.cell? ⟨w.heap.size, 3, none⟩ = some (.int .i64 N) ∧ V.cell? ⟨w.heap.size, 4, none⟩ = some (.slice a n c) ∧ Below W.heap.size W V)
    ((refine HS.out _ ?_; first | exact (Below.refl _ _).drew | (go_split_ands; exact Below.next (by assumption) (by assumption))))
    (first
      | (go_at_call 145; ((with_reducible refine (Hc1.out _ (Below.next HbW.out (by go_split_ands; assumption))).mono ?_); rintro e w4 ⟨rfl, hb4⟩))
      | (go_at_call 145; ((rw [hcx.out]); ((with_reducible refine (Hc2.out _ (Below.next HbW.out (by go_split_ands; assumption))).mono ?_); rintro e w4 ⟨rfl, hb4⟩))))
  all_goals (
    clear k1 k2
    go_wp2_with fail
    go_ret
    exact ⟨ret_int Hd.out.symm, Below.next HbW.out (by go_split_ands; assumption)⟩)
end

/- The walk of ordering.Dimension. -/
section
open Go.RowKit

/-- the mask of the first k positions -/
def maskTo (Q : List Int) : Nat → Nat
  | 0 => 0
  | k + 1 => maskTo Q k ||| 2 ^ (nth Q k).toNat
def maskS (Q : List Int) : Nat := maskTo Q Q.length
theorem maskTo_lt {Q : List Int} : ∀ k, (∀ j, j < k → 0 ≤ nth Q j ∧ nth Q j < 64) → maskTo Q k < 18446744073709551616
  | 0, _ => by show (0 : Nat) < 18446744073709551616; omega
  | k + 1, h => by
    have ih := maskTo_lt k fun j hj => h j (by omega)
    have hk := h k (by omega)
    have : 2 ^ (nth Q k).toNat < 2 ^ 64 := Nat.pow_lt_pow_right (by omega) (by omega)
    exact Nat.or_lt_two_pow (n := 64) ih this

theorem mask_or (x z : Nat) (hx : x < 18446744073709551616) (hz : z < 64) : bits .or .u64 (x : Int) (IntKind.u64.wrap (2 ^ z)) = ((x ||| 2 ^ z : Nat) : Int) := by
  have hpz : 2 ^ z < 2 ^ 64 := Nat.pow_lt_pow_right (by omega) hz
  have hpc : ((2 ^ z : Nat) : Int) = 2 ^ z := by simp
  have hw : IntKind.u64.wrap (2 ^ z) = ((2 ^ z : Nat) : Int) := by
    rw [← hpc]; exact IntWalk.u64_in _ ⟨Int.natCast_nonneg _, Int.ofNat_le.2 (Nat.le_of_lt_succ hpz)⟩
  rw [hw]
  exact bits_or_u64_nat x (2 ^ z) hx hpz

def DimPost (P M : Int) (mod : List Int) (N : Int) (L : List (List Int)) (Q : List Int) (w : World) (e : Ending) (w' : World) : Prop :=
  Below w.heap.size w w' ∧ (
    (codeE P M mod N L ≠ 0 ∧ e = .returned (.tuple #[.int .i64 0, .int .i64 (codeE P M mod N L)])) ∨
    (codeE P M mod N L = 0 ∧ okSet N Q = false ∧ e = .returned (.tuple #[.int .i64 0, .int .i64 5])) ∨
    (codeE P M mod N L = 0 ∧ okSet N Q = true ∧ e = .returned (.tuple #[.int .i64 (dimS (tblOf P M.toNat mod).ops L N.toNat (maskS Q)), .int .i64 0])))

set_option maxRecDepth 100000 in
set_option maxHeartbeats 4000000 in
theorem ordDimension_any (P M : Int) (am : Option Addr) (mn cm : Nat) (mod : List Int) (N : Int) (a : Option Addr) (n c : Nat) (L : List (List Int)) (ao : Option Addr) (no co : Nat) (Q : List Int) (w : World)
    (hmod : Ints w am mn mod) (hi : Mat w a n L) (hq : Ints w ao no Q) :
    Calls Tryz.prog 61 #[.agg #[.int .i64 P, .int .i64 M, .slice am mn cm, .int .i64 N, .slice a n c], .slice ao no co] w (DimPost P M mod N L Q w) := by
  have Hql := Lib.hid hq.len
  have hplq := hq.pl
  have hmq := hq.max
  unfold maxLen at hmq
  go_enter Tryz.func61, Tryz.ntmps61
  go_wp2_with fail
  obtain ⟨W, hW⟩ : ∃ W : World, W = w.alloc (.cells #[.int .i64 P, .int .i64 M, .slice am mn cm, .int .i64 N, .slice a n c] 27) := ⟨_, rfl⟩
  rw [← hW]
  have hbW : Below w.heap.size w W := by rw [hW]; exact below1 _ _
  have x0 : Box W w.heap.size [.int .i64 P, .int .i64 M, .slice am mn cm, .int .i64 N, .slice a n c] := by rw [hW]; exact Box.new _ _ _ rfl
  have HX := Lib.hid x0
  clear hW x0
  refine (codeCheck_any P M am mn cm mod N a n c L W (hmod.keep hbW) (hi.keep hbW)).mono ?_
  rintro e w1 ⟨rfl, hb1⟩
  have hbw1 := Below.next hbW hb1
  by_cases hE : codeE P M mod N L = 0
  · have HE := Lib.hid hE
    obtain ⟨m, rfl, hm1, hm2, hLl, _⟩ := codeE_rws hE
    rw [hE]
    have xU := HX.out.keep hb1
    have c3 := xU.cell 3 rfl
    have hq1 := (hq.keep hbW).keep hb1
    have hm1' := (hmod.keep hbW).keep hb1
    have hi1 := (hi.keep hbW).keep hb1
    clear hE
    go_wp2_with fail
    go_loop [7, 17] (fun sv iv => ∃ k : Nat, k ≤ no ∧ iv = .int .i64 k ∧ sv = .int .u64 (maskTo Q k) ∧ Hid (okTo m Q k = true) ∧ Hid (∀ j, j < k → 0 ≤ nth Q j ∧ nth Q j < 64)) (fun _ iv => no - (intOf iv).toNat)
    case atStart => exact ⟨0, Nat.zero_le _, rfl, rfl, by show _ = _; simp [okTo], fun j hj => by omega⟩
    case round =>
      obtain ⟨j, hj, rfl, rfl, hok, hbd⟩ := hrel
      have hmlt := maskTo_lt j hbd.out
      by_cases hlt2 : j < no
      · have cj := hq1.cell j hlt2
        have hbad : okAt m Q j = false → okSet m Q = false := fun hb => okTo_no (by rw [Hql.out]; exact hlt2) hb
        have Hbad := Lib.hid hbad
        clear hbad
        by_cases h0 : 0 ≤ nth Q j
        · by_cases h1 : nth Q j < m
          · have d1 : decide (nth Q j < 0) = false := by simp; omega
            have d2 : decide ((m : Int) ≤ nth Q j) = false := by simp; omega
            obtain ⟨z, hz⟩ : ∃ z : Nat, nth Q j = z := ⟨(nth Q j).toNat, by omega⟩
            have hz64 : z < 64 := by omega
            have hor := mask_or (maskTo Q j) z hmlt hz64
            have hmk : maskTo Q (j + 1) = maskTo Q j ||| 2 ^ z := by rw [maskTo, hz]; rfl
            have hbd' : ∀ i, i < j + 1 → 0 ≤ nth Q i ∧ nth Q i < 64 := fun i hi => by
              by_cases h : i < j
              · exact hbd.out i h
              · obtain rfl : i = j := by omega
                omega
            have Hbd' := Lib.hid hbd'
            rw [← hmk] at hor
            have Hor := Lib.hid hor
            clear hmk hbd' hor
            by_cases hj0 : j = 0
            · subst hj0
              have Hgood : Hid (okAt m Q 0 = true) := by show _ = _; unfold okAt; simp [h0, h1]
              rw [Nat.add_zero] at cj
              rw [hz] at cj d1 d2 h0 h1
              clear hz
              go_wp2_with fail
              go_round
              case rel => exact ⟨1, by omega, by go_num, by rw [Hor.out], okTo_succ hok.out Hgood.out, Hbd'.out⟩
              case measure => simp [intOf] <;> omega
            · have cp := hq1.cell (j - 1) (by omega)
              have e1 : ((j : Int) - 1).toNat = j - 1 := by omega
              have d3 : decide (0 < (j : Int)) = true := by simp; omega
              have d4 : (0 : Int) ≤ (j : Int) - 1 := by omega
              have d5 : (1 : Int) ≤ (j : Int) := by omega
              have d6 : (j : Int) - 1 < no := by omega
              by_cases h2 : nth Q (j - 1) < nth Q j
              · have Hgood : Hid (okAt m Q j = true) := by show _ = _; unfold okAt; simp [h0, h1, h2]
                have h2' : decide (nth Q j ≤ nth Q (j - 1)) = false := by simp; omega
                rw [hz] at cj d1 d2 h0 h1 h2 h2'
                clear hz hj0 e1
                go_wp2_with fail
                go_round
                case rel => exact ⟨j + 1, by omega, by go_num, by rw [Hor.out], okTo_succ hok.out Hgood.out, Hbd'.out⟩
                case measure => simp [intOf] <;> omega
              · have Hb : Hid (okSet m Q = false) := Hbad.out (by unfold okAt; simp [h2, hj0])
                have h2' : decide (nth Q j ≤ nth Q (j - 1)) = true := by simp; omega
                rw [hz] at cj d1 d2 h0 h1 h2'
                clear hz hj0 e1 h2
                go_wp2_with fail
                go_ret2
                exact ⟨hbw1, .inr (.inl ⟨HE.out, Hb.out, rfl⟩)⟩
          · have Hb : Hid (okSet m Q = false) := Hbad.out (by unfold okAt; simp [h1])
            have d1 : decide (nth Q j < 0) = false := by simp; omega
            have d2 : decide ((m : Int) ≤ nth Q j) = true := by simp; omega
            go_wp2_with fail
            go_ret2
            exact ⟨hbw1, .inr (.inl ⟨HE.out, Hb.out, rfl⟩)⟩
        · have Hb : Hid (okSet m Q = false) := Hbad.out (by unfold okAt; simp [h0])
          have d1 : decide (nth Q j < 0) = true := by simp; omega
          go_wp2_with fail
          go_ret2
          exact ⟨hbw1, .inr (.inl ⟨HE.out, Hb.out, rfl⟩)⟩
      · obtain rfl : j = no := by omega
        have Hg : Hid (okSet m Q = true) := by show _ = _; rw [okSet, Hql.out]; exact hok.out
        have Hmk : Hid (maskS Q = maskTo Q j) := by show _ = _; rw [maskS, Hql.out]
        have c0 := xU.cell 0 rfl
        have c1 := xU.cell 1 rfl
        have c2 := xU.cell 2 rfl
        have c4 := xU.cell 4 rfl
        clear xU
        go_wp2_with fail
        refine (ordDim_any P M am mn cm mod m a n c L (maskTo Q j) w1 hm1' hi1 HE.out hmlt).mono ?_
        rintro e w4 ⟨rfl, hb4⟩
        have hF : DimPost P M mod m L Q w (.returned (.tuple #[.int .i64 (dimS (tblOf P M.toNat mod).ops L m (maskTo Q j)), .int .i64 0])) w4 := ⟨Below.next hbw1 hb4, .inr (.inr ⟨HE.out, Hg.out, by rw [Hmk.out]; rfl⟩)⟩
        have HF := Lib.hid hF
        clear hF
        go_wp2_with fail
        go_ret2
        exact HF.out
  · have HE := Lib.hid hE
    have hE2 : (codeE P M mod N L != 0) = true := by simpa using hE
    clear hE
    go_wp2_with fail
    go_ret2
    exact ⟨hbw1, .inl ⟨HE.out, rfl⟩⟩
end

end Go.Proofs.YtakmnncmeefceaaGreat
