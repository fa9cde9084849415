/- OrderingSteps: the statement. -/
import Derived.Test.YtnielheglicbmaaC7
import Derived.Test.YtnielheglicbmaaRows
namespace Go.Proofs.Ytnielheglicbmaa
set_option linter.unusedVariables false
set_option linter.unusedSimpArgs false
set_option linter.unusedSectionVars false

/- The walk of OrderingSteps. -/
section
open Go.RowKit

theorem maskTo_bd {n : Nat} {Q : List Int} (h : okSet n Q = true) (hn : n ≤ 64) (k : Nat) (hk : k ≤ Q.length) : ∀ j, j < k → 0 ≤ nth Q j ∧ nth Q j < 64 := fun j hj => by
  have h1 := okSet_at h (k := j) (by omega)
  have h2 := h1.1
  have h3 := h1.2.1
  omega
/-- is q the position p, or one of the first i of the set? -/
def inS (p : Int) (Q : List Int) (q i : Nat) : Bool := decide ((q : Int) = p) || (maskTo Q i).testBit q
theorem inS_succ (p : Int) (Q : List Int) (q i : Nat) (h0 : 0 ≤ nth Q i) : inS p Q q (i + 1) = (inS p Q q i || decide (nth Q i = q)) := by
  unfold inS
  rw [maskTo, Nat.testBit_or, Nat.testBit_two_pow, Bool.or_assoc]
  congr 2
  by_cases h : nth Q i = q
  · have : (nth Q i).toNat = q := by omega
    simp [h]
  · have : ¬ (nth Q i).toNat = q := by omega
    simp [h, this]

set_option maxRecDepth 100000 in
set_option maxHeartbeats 4000000 in
theorem steps_any (P M : Int) (am : Option Addr) (mn cm : Nat) (mod : List Int) (N : Int) (a : Option Addr) (n c : Nat) (L : List (List Int)) (ao : Option Addr) (no co : Nat) (Q : List Int) (p : Int) (w : World)
    (hmod : Ints w am mn mod) (hi : Mat w a n L) (hq : Ints w ao no Q) :
    Calls Try.prog 5 #[.agg #[.int .i64 P, .int .i64 M, .slice am mn cm, .int .i64 N, .slice a n c], .slice ao no co, .int .i64 p] w fun e w' => e = .returned (.bool true) ∧ Below w.heap.size w w' := by
  have Hql := Lib.hid hq.len
  have hplq := hq.pl
  have hmq := hq.max
  unfold maxLen at hmq
  go_enter Try.func5, Try.ntmps5
  go_wp2_with fail
  obtain ⟨W, hW⟩ : ∃ W : World, W = w.alloc (.cells #[.int .i64 P, .int .i64 M, .slice am mn cm, .int .i64 N, .slice a n c] 27) := ⟨_, rfl⟩
  rw [← hW]
  have hbW : Below w.heap.size w W := by rw [hW]; exact below1 _ _
  have x0 : Box W w.heap.size [.int .i64 P, .int .i64 M, .slice am mn cm, .int .i64 N, .slice a n c] := by rw [hW]; exact Box.new _ _ _ rfl
  clear hW
  refine (alive_any W).mono ?_
  rintro e w1 ⟨rfl, hb1⟩
  have hbw1 := Below.next hbW hb1
  have x1 := x0.keep hb1
  have hm1 := hmod.keep hbw1
  have hi1 := hi.keep hbw1
  have hq1 := hq.keep hbw1
  have c0 := x1.cell 0 rfl
  have c1 := x1.cell 1 rfl
  have c2 := x1.cell 2 rfl
  have c3 := x1.cell 3 rfl
  have c4 := x1.cell 4 rfl
  clear x0 hb1 hmod hi hq
  go_wp2_with fail
  refine (rCodeCheck_any P M am mn cm mod N a n c L w1 hm1 hi1 fun h => hinv_all h).mono ?_
  rintro e w2 ⟨rfl, hb2⟩
  rw [rcodeE_eq]
  have hbw2 := Below.next hbw1 hb2
  have x2 := x1.keep hb2
  have hm2 := hm1.keep hb2
  have hi2 := hi1.keep hb2
  have hq2 := hq1.keep hb2
  clear x1 hm1 hi1 hq1 c0 c1 c2 c3 c4 hb2 hbw1
  have c3 := x2.cell 3 rfl
  by_cases hE : codeE P M mod N L = 0
  · have HE := Lib.hid hE
    obtain ⟨m, rfl, hm1', hm64, _, _⟩ := codeE_fld hE
    have hL256 := (codeE_rws hE).choose_spec.2.2.2.1
    rw [hE]
    clear hE
    go_wp2_with fail
    refine (rIsSubset_any m ao no co Q w2 hq2).mono ?_
    rintro e w3 ⟨rfl, hd3⟩
    have hbw3 : Below w.heap.size w w3 := Below.next hbw2 hd3.below
    have x3 := x2.keep hd3.below
    have hm3 := hm2.keep hd3.below
    have hi3 := hi2.keep hd3.below
    have hq3 := hq2.keep hd3.below
    clear x2 hm2 hi2 hq2 c3 hd3 hbw2
    have c3 := x3.cell 3 rfl
    by_cases hS : okSet m Q = true
    · have HS := Lib.hid hS
      rw [hS]
      clear hS
      by_cases hp0 : p < 0
      · have d1 : decide (p < 0) = true := by simpa using hp0
        clear hp0
        go_wp2_with fail
        go_ret
        exact ⟨rfl, hbw3⟩
      · have d1 : decide (p < 0) = false := by simpa using hp0
        by_cases hpm : (m : Int) ≤ p
        · have d2 : decide ((m : Int) ≤ p) = true := by simpa using hpm
          clear hp0 hpm
          go_wp2_with fail
          go_ret
          exact ⟨rfl, hbw3⟩
        · have d2 : decide ((m : Int) ≤ p) = false := by simpa using hpm
          obtain ⟨t, rfl⟩ : ∃ t : Nat, p = t := ⟨p.toNat, by omega⟩
          have htm : t < m := by omega
          clear hp0 hpm
          obtain ⟨X, hX⟩ : ∃ X, X = maskS Q ||| 2 ^ t := ⟨_, rfl⟩
          have HX := Lib.hid hX
          clear hX
          go_wp2_with fail
          go_loopw [7, 8] (fun sv iv wr => ∃ (k : Nat) (aq : Option Addr) (cq : Nat), k ≤ m ∧ iv = .int .i64 k ∧ sv = .slice aq (bitsTo X k).length cq ∧ wr.ownsRow w3.heap.size 3 1 (.slice aq (bitsTo X k).length cq) (bitsTo X k).length ((bitsTo X k).map (Value.int .i64)) ∧ Below w3.heap.size w3 wr)
            (fun _ iv _ => m - (intOf iv).toNat)
          case atStart => exact ⟨0, _, _, Nat.zero_le _, rfl, rfl, by simpa [bitsTo] using own_mk w3 3 (.int .i64 0) 0 (Nat.le_refl _) (by unfold maxLen; omega), below1 _ _⟩
          case round =>
            obtain ⟨k, aq, cq, hk, rfl, rfl, hop, hbr⟩ := hrel
            have hlen := bitsTo_len X k
            have hqr := hq3.keep hbr
            have xr := x3.keep hbr
            have c3 := xr.cell 3 rfl
            by_cases hlt : k < m
            · have hXk : Hid (X.testBit k = inS t Q k no) := by
                show _ = _
                rw [HX.out, inS, maskS, Hql.out, Nat.testBit_or, Nat.testBit_two_pow, Bool.or_comm]
                congr 1
                by_cases h : t = k
                · simp [h]
                · simp [h]; omega
              have b0 : ((k : Int) == (t : Int)) = inS t Q k 0 := by
                rw [inS, maskTo, Nat.zero_testBit, Bool.or_false]
                rfl
              go_wp2_with fail
              go_loop [9, 10] (fun bv iv => ∃ i : Nat, i ≤ no ∧ iv = .int .i64 i ∧ bv = .bool (inS t Q k i)) (fun _ iv => no - (intOf iv).toNat)
              case atStart => exact ⟨0, Nat.zero_le _, rfl, rfl⟩
              case round =>
                clear b0
                obtain ⟨i, hi', rfl, rfl⟩ := hrel
                by_cases hlti : i < no
                · have ci := hqr.cell i hlti
                  have Hs : Hid (inS t Q k (i + 1) = (inS t Q k i || decide (nth Q i = k))) := inS_succ t Q k i (okSet_at HS.out (by rw [Hql.out]; exact hlti)).1
                  by_cases hb : inS t Q k i = true
                  · rw [hb] at Hs ⊢
                    clear hb
                    go_wp2_with fail
                    go_round
                    case rel => exact ⟨i + 1, by omega, by go_num, by rw [Hs.out]; rfl⟩
                    case measure => simp [intOf] <;> omega
                  · have hb' : inS t Q k i = false := by simpa using hb
                    rw [hb'] at Hs ⊢
                    clear hb hb'
                    have e1 : (nth Q i == (k : Int)) = decide (nth Q i = k) := rfl
                    generalize decide (nth Q i = (k : Int)) = zb at *
                    go_wp2_with fail
                    go_round
                    case rel => exact ⟨i + 1, by omega, by go_num, by rw [Hs.out]; rfl⟩
                    case measure => simp [intOf] <;> omega
                · obtain rfl : i = no := by omega
                  rw [← hXk.out]
                  clear hXk
                  by_cases ht : X.testBit k = true
                  · have hb : Hid (bitsTo X (k + 1) = bitsTo X k ++ [(k : Int)]) := by show _ = _; rw [bitsTo, if_pos ht]
                    rw [ht]
                    clear ht
                    generalize bitsTo X k = out at *
                    have hcn := cell_new wr (.int .i64 k) 3
                    have hbn := below1 wr (.cells #[.int .i64 k] 3)
                    have hsz := hbr.size
                    go_wp2_with (at_builtin; refine wpList_push rfl _ _ 22 3 rfl (.int .i64 0) 8 Try.underlying22 infoInt rfl w3.heap.size aq out.length cq _ rfl (hop.alloc _) ⟨wr.heap.size, 0, none⟩ 1 (.int .i64 k) rfl hcn rfl (by omega) (by unfold maxLen; omega) (by simp; omega) ?_; intro a5 c5 w5 hown5 hgr5 hap5)
                    go_roundw
                    case rel =>
                      refine ⟨k + 1, by omega, by go_num, a5, c5, ⟨rfl, by rw [hb.out]; simp, rfl⟩, ?_, Below.app (Below.trans hbr (hbn.mono hsz)) (hop.alloc _) hgr5 (Nat.le_refl _) (Nat.le_trans hsz hbn.size)⟩
                      rw [hb.out]; simpa using hown5
                    case measure => simp [intOf] <;> omega
                  · have hb : Hid (bitsTo X (k + 1) = bitsTo X k) := by show _ = _; rw [bitsTo, if_neg ht]
                    have ht' : X.testBit k = false := by simpa using ht
                    rw [ht']
                    clear ht ht'
                    generalize bitsTo X k = out at *
                    go_wp2_with fail
                    go_roundw
                    case rel => exact ⟨k + 1, aq, cq, by omega, by go_num, by rw [hb.out], by rw [hb.out]; exact hop, hbr⟩
                    case measure => simp [intOf] <;> omega
            · obtain rfl : k = m := by omega
              have hbwr := Below.next hbw3 hbr
              have hmr := hm3.keep hbr
              have hir := hi3.keep hbr
              have hIr := Ints.own hop
              have hst := steps_law HE.out (maskS Q) (maskS (bitsTo X k)) t (fun i hi => by
                rw [maskS_bits X k hm64, HX.out, Nat.testBit_or, Bool.or_eq_true, Nat.testBit_two_pow, decide_eq_true_eq]
                exact ⟨fun ⟨_, h⟩ => by rcases h with h | h; exact .inl h; exact .inr h.symm, fun h => ⟨hi, by rcases h with h | h; exact .inl h; exact .inr h.symm⟩⟩) htm
              have hok2 := okSet_bits X k
              have hd1 := dimS_bd (tblOf P M.toNat mod).ops L k (maskS Q)
              have hd2 := dimS_bd (tblOf P M.toNat mod).ops L k (maskS (bitsTo X k))
              have Hc1 := Lib.hid (ordDimension_any P M am mn cm mod k a n c L ao no co Q wr hmr hir hqr)
              have Hc2 : Hid (∀ V, Below wr.heap.size wr V → Calls Try.prog 11 #[.agg #[.int .i64 P, .int .i64 M, .slice am mn cm, .int .i64 k, .slice a n c], .slice aq (bitsTo X k).length cq] V (DimPost P M mod k L (bitsTo X k) V)) :=
                fun V hV => ordDimension_any P M am mn cm mod k a n c L aq _ cq _ V (hmr.keep hV) (hir.keep hV) (hIr.1.keep hV)
              have Hok2 := Lib.hid hok2
              clear hm3 hi3 hq3 x3 hmr hir hIr hop hqr hok2 HX
              generalize bitsTo X k = out at *
              have c0 := xr.cell 0 rfl
              have c1 := xr.cell 1 rfl
              have c2 := xr.cell 2 rfl
              have c4 := xr.cell 4 rfl
              go_wp2_with fail
              refine Hc1.out.mono ?_
              rintro e w4 ⟨hb4, ⟨hE4, _⟩ | ⟨_, hE4, _⟩ | ⟨_, _, rfl⟩⟩
              · exact absurd HE.out hE4
              · rw [HS.out] at hE4; exact absurd hE4 (by decide)
              have x4 := xr.keep hb4
              have Hc3 := Lib.hid (Hc2.out w4 hb4)
              have hbw4 := Below.next hbwr hb4
              clear xr Hc2 Hc1 c0 c1 c2 c3 c4 hb4 hbwr
              have c0 := x4.cell 0 rfl
              have c1 := x4.cell 1 rfl
              have c2 := x4.cell 2 rfl
              have c3 := x4.cell 3 rfl
              have c4 := x4.cell 4 rfl
              rw [Int.toNat_natCast]
              generalize dimS (tblOf P M.toNat mod).ops L k (maskS Q) = y1 at *
              go_wp2_with fail
              refine Hc3.out.mono ?_
              rintro e w5 ⟨hb5, ⟨hE5, _⟩ | ⟨_, hE5, _⟩ | ⟨_, _, rfl⟩⟩
              · exact absurd HE.out hE5
              · rw [Hok2.out] at hE5; exact absurd hE5 (by decide)
              have hbw5 := Below.next hbw4 hb5
              clear x4 Hc3 c0 c1 c2 c3 c4 hb5 hbw4
              rw [Int.toNat_natCast]
              generalize dimS (tblOf P M.toNat mod).ops L k (maskS out) = y2 at *
              have g1 : decide (y1 ≤ y2 + 1) = true := by simp; omega
              have g2 : decide (y2 ≤ y1 + 1) = true := by simp; omega
              have r1 : IntKind.i64.wrap (y1 + 1) = y1 + 1 := IntWalk.i64_in _ (by omega)
              have r2 : IntKind.i64.wrap (y2 + 1) = y2 + 1 := IntWalk.i64_in _ (by omega)
              go_wp2_with fail
              go_ret
              exact ⟨rfl, hbw5⟩
    · have hS2 : okSet m Q = false := by simpa using hS
      rw [hS2]
      clear hS hS2
      go_wp2_with fail
      go_ret
      exact ⟨rfl, hbw3⟩
  · have hE2 : (codeE P M mod N L != 0) = true := by simpa using hE
    clear hE
    go_wp2_with fail
    go_ret
    exact ⟨rfl, hbw2⟩
end

/- OrderingSteps: the statement. -/
section
open Go.ChangeShapes Go.WideShapes Go.ChangeAt Go.RowKit

set_option maxRecDepth 100000 in
theorem steps_lifted (os : Os) (started : os.Started) (H : Type) (enc : TypeId × Value → H) :
    ReturnsInHanded {} Try.checked os 5 .any (Rows.orderingStepsSpec.pre6 enc Try.prog Try.f5 Rows.orderingStepsRow.domain false) (Rows.orderingStepsSpec.post enc Try.prog Try.f5 false true false false) := by
  refine returnsInHanded_of_change (C := Try.checked) Try.own started (by kernel_rfl) Try.func5
    (ChangeSpec.witness6 (enc := enc) (C := Try.checked) false ⟨#[], #[.agg #[.int .i64 0, .int .i64 0, .slice none 0 0, .int .i64 0, .slice none 0 0], .slice none 0 0, .int .i64 0], []⟩ 8 (by kernel_rfl) (by kernel_rfl) (by kernel_rfl) (by kernel_rfl)) ?_
  intro W base args ds gs before hval0 hW hcnd _
  have hval : ∀ (j : Nat) t v, Try.f5.params[j]? = some t → args[j]? = some v → Value.okWide Try.prog W .any base t v := hval0
  have hW' := hW
  obtain ⟨p, q, hA0, hV, rfl, hfz, hnd⟩ := hW
  have hA : DataW.TrodAll enc Try.prog W 0 (fun _ => true) true Try.f5.params.toList args.toList ds p := hA0
  rw [Try.params5] at hA hval
  obtain ⟨v0, vs0, d0, ds0, p0, q0, hargs, rfl, rfl, h0, r0⟩ := trodAll_cons hA
  obtain ⟨v1, vs1, d1, ds1, p1, q1, rfl, rfl, rfl, h1, r1⟩ := trodAll_cons r0
  obtain ⟨v2, vs2, d2, ds2, p2, q2, rfl, rfl, rfl, h2, r2⟩ := trodAll_cons r1
  obtain ⟨rfl, rfl, rfl⟩ := trodAll_nil r2
  obtain rfl : args = #[v0, v1, v2] := by cases args; simp_all
  obtain ⟨rfl, rfl⟩ := trodVars_none hV
  have k0 := h0
  have k1 := h1
  have lt0 : ∀ x ∈ p0, x.block < W.heap.size := by obtain ⟨m, hm⟩ := k0; exact DataW.trod_lt m _ _ _ hm
  have lt1 : ∀ x ∈ p1, x.block < W.heap.size := by obtain ⟨m, hm⟩ := k1; exact DataW.trod_lt m _ _ _ hm
  obtain ⟨P, M, am, mn, cm, mod, N, a, n, c, L, rfl, hI, hM⟩ := arg_code (hval 0 _ v0 rfl rfl) h0
  obtain ⟨ao, no, co, Q, rfl, hQ⟩ := arg_ints (hval 1 _ v1 rfl rfl) h1
  obtain ⟨a2, rfl, rfl, rfl, w2⟩ := open_int Try.underlying3 (hval 2 _ v2 rfl rfl) h2
  clear hA0 hval0
  refine (steps_any P M am mn cm mod N a n c L ao no co Q a2 W hI hM hQ).mono fun e W' ⟨he, bel⟩ => ?_
  subst he
  exact ⟨_, rfl, _, _, _, [], _, [], hW', trodAll_mk1 (shut_bool Try.underlying4 _), (trodAll_cons_mk (Below.trod Try.laid (by kernel_rfl) (of_decide_eq_true (by kernel_rfl)) k0 bel lt0) (trodAll_cons_mk (Below.trod Try.laid (by kernel_rfl) (of_decide_eq_true (by kernel_rfl)) k1 bel lt1) (trodAll_cons_mk (shut_int Try.underlying3 w2) trodAll_mk0))), rfl, bel.frame _, fun h => by cases h⟩

theorem steps_over : Rows.orderingStepsRow.holds Try.pinned (OpenSpec.ofChange Rows.orderingStepsSpec) :=
  OpenClaim.holds_of_wide 5 Try.f5 rfl rfl rfl rfl rfl rfl rfl ⟨rfl, rfl, rfl, rfl, rfl⟩ rfl rfl rfl rfl rfl (by kernel_rfl) Try.func5 (by kernel_rfl)
    (of_decide_eq_true (by kernel_rfl)) (by unfold Func.isWrapper; first | (rw [if_pos (by decide +kernel)]; kernel_rfl) | (rw [if_neg (by decide +kernel)]; exact ⟨rfl, rfl⟩))
    (fun os started H enc _ => steps_lifted os started H enc)

theorem steps_holds : Rows.OrderingStepsSaid := steps_over
#print axioms steps_holds
end

end Go.Proofs.Ytnielheglicbmaa
