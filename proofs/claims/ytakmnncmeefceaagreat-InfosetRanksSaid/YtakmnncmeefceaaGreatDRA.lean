/- InfosetRanks: the statement. -/
import Derived.Test.YtakmnncmeefceaaGreatH3
import Derived.Test.YtakmnncmeefceaaGreatG30
import Derived.Test.YtakmnncmeefceaaGreatG29
import Derived.Test.YtakmnncmeefceaaGreatRows
namespace Go.Proofs.YtakmnncmeefceaaGreat
set_option linter.unusedVariables false
set_option linter.unusedSimpArgs false
set_option linter.unusedSectionVars false

/- The walk of InfosetRanks. -/
section
open Go.RowKit

set_option maxRecDepth 100000 in
set_option maxHeartbeats 8000000 in
theorem infRanks_any (P M : Int) (am : Option Addr) (mn cm : Nat) (mod : List Int) (N : Int) (a : Option Addr) (n c : Nat) (L : List (List Int)) (ao : Option Addr) (no co : Nat) (Q : List Int) (w : World)
    (hmod : Ints w am mn mod) (hi : Mat w a n L) (hq : Ints w ao no Q) :
    Calls Tryz.prog 5 #[.agg #[.int .i64 P, .int .i64 M, .slice am mn cm, .int .i64 N, .slice a n c], .slice ao no co] w fun e w' => e = .returned (.bool true) ∧ Below w.heap.size w w' := by
  have HF : Hid (∀ V, Below w.heap.size w V → Calls Tryz.prog 25 #[.agg #[.int .i64 P, .int .i64 M, .slice am mn cm, .int .i64 N, .slice a n c]] V (SomeBool V)) :=
    fun V hV => few25_any P M am mn cm N a n c L V (hi.keep hV)
  obtain ⟨r, HR1, HR2⟩ : ∃ r : Int, Hid (∀ V, Below w.heap.size w V → Calls Tryz.prog 26 #[.agg #[.int .i64 P, .int .i64 M, .slice am mn cm, .int .i64 N, .slice a n c], .slice ao no co] V fun e w' => e = .returned (.tuple #[.int .i64 r, .int .i64 (rankE P M mod N L Q)]) ∧ Below V.heap.size V w') ∧
      Hid (∀ V, Below w.heap.size w V → Calls Tryz.prog 27 #[.agg #[.int .i64 P, .int .i64 M, .slice am mn cm, .int .i64 N, .slice a n c], .slice ao no co] V fun e w' => e = .returned (.tuple #[.int .i64 r, .int .i64 (rankE P M mod N L Q)]) ∧ Below V.heap.size V w') := by
    by_cases h0 : rankE P M mod N L Q = 0
    · refine ⟨((grS (tblOf P M.toNat mod).ops L Q).length : Int), fun V hV => ?_, fun V hV => ?_⟩
      · refine (rank_any P M am mn cm mod N a n c L ao no co Q V (hmod.keep hV) (hi.keep hV) (hq.keep hV)).mono ?_
        rintro e w' ⟨hb, ⟨h1, _⟩ | ⟨h1, rfl⟩⟩
        · exact absurd h0 h1
        · exact ⟨by rw [h1], hb⟩
      · refine (rRank25_any P M am mn cm mod N a n c L ao no co Q V (hmod.keep hV) (hi.keep hV) (hq.keep hV)).mono ?_
        rintro e w' ⟨hb, ⟨h1, _⟩ | ⟨h1, rfl⟩⟩
        · exact absurd h0 h1
        · exact ⟨by rw [h1], hb⟩
    · refine ⟨0, fun V hV => ?_, fun V hV => ?_⟩
      · refine (rank_any P M am mn cm mod N a n c L ao no co Q V (hmod.keep hV) (hi.keep hV) (hq.keep hV)).mono ?_
        rintro e w' ⟨hb, ⟨h1, rfl⟩ | ⟨h1, rfl⟩⟩
        · exact ⟨rfl, hb⟩
        · exact absurd h1 h0
      · refine (rRank25_any P M am mn cm mod N a n c L ao no co Q V (hmod.keep hV) (hi.keep hV) (hq.keep hV)).mono ?_
        rintro e w' ⟨hb, ⟨h1, rfl⟩ | ⟨h1, rfl⟩⟩
        · exact ⟨rfl, hb⟩
        · exact absurd h1 h0
  have HI1 : Hid (∀ V, Below w.heap.size w V → Calls Tryz.prog 28 #[.agg #[.int .i64 P, .int .i64 M, .slice am mn cm, .int .i64 N, .slice a n c], .slice ao no co] V fun e w' => e = .returned (.tuple #[.bool (isV P M mod N L Q), .int .i64 (rankE P M mod N L Q)]) ∧ Below V.heap.size V w') :=
    fun V hV => infIs_any P M am mn cm mod N a n c L ao no co Q V (hmod.keep hV) (hi.keep hV) (hq.keep hV)
  have HI2 : Hid (∀ V, Below w.heap.size w V → Calls Tryz.prog 29 #[.agg #[.int .i64 P, .int .i64 M, .slice am mn cm, .int .i64 N, .slice a n c], .slice ao no co] V fun e w' => e = .returned (.tuple #[.bool (isV P M mod N L Q), .int .i64 (rankE P M mod N L Q)]) ∧ Below V.heap.size V w') :=
    fun V hV => rIs25_any P M am mn cm mod N a n c L ao no co Q V (hmod.keep hV) (hi.keep hV) (hq.keep hV)
  obtain ⟨l, g, HG1, HG2⟩ : ∃ (l : List Int) (g : Nat), Hid (no ≤ 100 → ∀ V, Below w.heap.size w V → Calls Tryz.prog 30 #[.agg #[.int .i64 P, .int .i64 M, .slice am mn cm, .int .i64 N, .slice a n c], .slice ao no co] V fun e w' => ∃ a1 c1, e = .returned (.tuple #[.slice a1 g c1, .int .i64 (greE P M mod N L Q)]) ∧ Ints w' a1 g l ∧ Below V.heap.size V w') ∧
      Hid (no ≤ 100 → ∀ V, Below w.heap.size w V → Calls Tryz.prog 31 #[.agg #[.int .i64 P, .int .i64 M, .slice am mn cm, .int .i64 N, .slice a n c], .slice ao no co] V fun e w' => ∃ a1 c1, e = .returned (.tuple #[.slice a1 g c1, .int .i64 (greE P M mod N L Q)]) ∧ Ints w' a1 g l ∧ Below V.heap.size V w') := by
    have key : ∃ (l : List Int) (g : Nat), ∀ V e w', GrePost P M mod N L Q V e w' → ∃ a1 c1, e = .returned (.tuple #[.slice a1 g c1, .int .i64 (greE P M mod N L Q)]) ∧ Ints w' a1 g l ∧ Below V.heap.size V w' := by
      by_cases h0 : greE P M mod N L Q = 0
      · refine ⟨sortL (grS (tblOf P M.toNat mod).ops L Q), (grS (tblOf P M.toNat mod).ops L Q).length, ?_⟩
        rintro V e w' ⟨hb, ⟨h1, _⟩ | ⟨h1, a1, c1, rfl, ho⟩⟩
        · exact absurd h0 h1
        · exact ⟨a1, c1, by rw [h1], (Ints.own ho).1, hb⟩
      · refine ⟨[], 0, ?_⟩
        rintro V e w' ⟨hb, ⟨h1, rfl⟩ | ⟨h1, _⟩⟩
        · exact ⟨none, 0, rfl, Ints.nil _ _, hb⟩
        · exact absurd h1 h0
    obtain ⟨l, g, key⟩ := key
    exact ⟨l, g, fun h V hV => (infGreedy_any P M am mn cm mod N a n c L ao no co Q V (hmod.keep hV) (hi.keep hV) (hq.keep hV) (by omega)).mono (key V), fun h V hV => (rGreedy25_any P M am mn cm mod N a n c L ao no co Q V (hmod.keep hV) (hi.keep hV) (hq.keep hV) (by omega)).mono (key V)⟩
  generalize rankE P M mod N L Q = er at *
  generalize isV P M mod N L Q = iz at *
  generalize greE P M mod N L Q = eg at *
  clear hmod hi hq
  go_enter Tryz.func5, Tryz.ntmps5
  go_wp2_with fail
  obtain ⟨W, hW⟩ : ∃ W : World, W = w.alloc (.cells #[.int .i64 P, .int .i64 M, .slice am mn cm, .int .i64 N, .slice a n c] 27) := ⟨_, rfl⟩
  rw [← hW]
  have hbW : Below w.heap.size w W := by rw [hW]; exact below1 _ _
  have x0 : Box W w.heap.size [.int .i64 P, .int .i64 M, .slice am mn cm, .int .i64 N, .slice a n c] := by rw [hW]; exact Box.new _ _ _ rfl
  have HS : Hid (∀ V, Below W.heap.size W V → V.cell? ⟨w.heap.size, 0, none⟩ = some (.int .i64 P) ∧ V.cell? ⟨w.heap.size, 1, none⟩ = some (.int .i64 M) ∧ V.cell? ⟨w.heap.size, 2, none⟩ = some (.slice am mn cm) ∧ V.cell? ⟨w.heap.size, 3, none⟩ = some (.int .i64 N) ∧ V.cell? ⟨w.heap.size, 4, none⟩ = some (.slice a n c)) := fun V hV => by
    have x1 := x0.keep hV
    exact ⟨x1.cell 0 rfl, x1.cell 1 rfl, x1.cell 2 rfl, x1.cell 3 rfl, x1.cell 4 rfl⟩
  have HbW := Lib.hid hbW
  clear hW x0 hbW
  refine (awake_any W).mono ?_
  rintro e w1 ⟨rfl, hb1⟩
  obtain ⟨c0, c1, c2, c3, c4⟩ := HS.out w1 hb1
  go_wp2_with fail
  refine (HF.out w1 (Below.next HbW.out hb1)).mono ?_
  rintro e w2 ⟨z, rfl, hb2⟩
  have hB2 := Below.next hb1 hb2
  clear c0 c1 c2 c3 c4 HF
  cases z
  · go_wp2_with fail
    refine (awake_any w2).mono ?_
    rintro e w3 ⟨rfl, hb3⟩
    have hF := Below.next HbW.out (Below.next hB2 hb3)
    go_wp2_with fail
    go_ret
    exact ⟨rfl, hF⟩
  by_cases hno : 100 < no
  · have hd : decide ((100 : Int) < no) = true := by simp; omega
    clear hno
    go_wp2_with fail
    refine (awake_any w2).mono ?_
    rintro e w3 ⟨rfl, hb3⟩
    have hF := Below.next HbW.out (Below.next hB2 hb3)
    go_wp2_with fail
    go_ret
    exact ⟨rfl, hF⟩
  have hd : decide ((100 : Int) < no) = false := by simp; omega
  have HG1' := Lib.hid (HG1.out (by omega))
  have HG2' := Lib.hid (HG2.out (by omega))
  clear hno HG1 HG2
  obtain ⟨c0, c1, c2, c3, c4⟩ := HS.out w2 hB2
  go_wp2_with fail
  refine (HR1.out w2 (Below.next HbW.out hB2)).mono ?_
  rintro e w3 ⟨rfl, hb3⟩
  have hB3 := Below.next hB2 hb3
  clear c0 c1 c2 c3 c4 HR1 hb1 hb2
  obtain ⟨c0, c1, c2, c3, c4⟩ := HS.out w3 hB3
  go_wp2_with fail
  refine (HR2.out w3 (Below.next HbW.out hB3)).mono ?_
  rintro e w4 ⟨rfl, hb4⟩
  have hB4 := Below.next hB3 hb4
  clear c0 c1 c2 c3 c4 HR2 hb3
  obtain ⟨c0, c1, c2, c3, c4⟩ := HS.out w4 hB4
  go_wp2_with fail
  refine (HI1.out w4 (Below.next HbW.out hB4)).mono ?_
  rintro e w5 ⟨rfl, hb5⟩
  have hB5 := Below.next hB4 hb5
  clear c0 c1 c2 c3 c4 HI1 hb4
  obtain ⟨c0, c1, c2, c3, c4⟩ := HS.out w5 hB5
  go_wp2_with fail
  refine (HI2.out w5 (Below.next HbW.out hB5)).mono ?_
  rintro e w6 ⟨rfl, hb6⟩
  have hB6 := Below.next hB5 hb6
  clear c0 c1 c2 c3 c4 HI2 hb5
  obtain ⟨c0, c1, c2, c3, c4⟩ := HS.out w6 hB6
  go_wp2_with fail
  refine (HG1'.out w6 (Below.next HbW.out hB6)).mono ?_
  rintro e w7 ⟨a1, k1, rfl, hI1, hb7⟩
  have hB7 := Below.next hB6 hb7
  clear c0 c1 c2 c3 c4 HG1' hb6
  obtain ⟨c0, c1, c2, c3, c4⟩ := HS.out w7 hB7
  go_wp2_with fail
  refine (HG2'.out w7 (Below.next HbW.out hB7)).mono ?_
  rintro e w8 ⟨a2, k2, rfl, hI2, hb8⟩
  have hB8 := Below.next hB7 hb8
  have hc := rSameInts_any a1 g k1 l a2 g k2 l (hI1.keep hb8) hI2
  rw [decide_eq_true (rfl : l = l)] at hc
  have Hc := Lib.hid hc
  have e1 : (er == er) = true := by simp
  have e2 : (eg == eg) = true := by simp
  have e3 : (iz == iz) = true := by simp
  have e4 : (r == r) = true := by simp
  clear c0 c1 c2 c3 c4 HG2' hb7 hc hI1 hI2
  go_wp2_with fail
  refine Hc.out.mono ?_
  rintro e w9 ⟨rfl, hd9⟩
  have hF := Below.next HbW.out (Below.next hB8 hd9.below)
  go_wp2_with fail
  go_ret
  exact ⟨rfl, hF⟩
end

/- InfosetRanks: the statement. -/
section
open Go.ChangeShapes Go.WideShapes Go.ChangeAt Go.RowKit

set_option maxRecDepth 100000 in
theorem infRanks_lifted (os : Os) (started : os.Started) (H : Type) (enc : TypeId × Value → H) :
    ReturnsInHanded {} Tryz.checked os 5 .any (Rows.infosetRanksSpec.pre6 enc Tryz.prog Tryz.f5 Rows.infosetRanksRow.domain false) (Rows.infosetRanksSpec.post enc Tryz.prog Tryz.f5 false true false false) := by
  refine returnsInHanded_of_change (C := Tryz.checked) Tryz.own started (by kernel_rfl) Tryz.func5
    (ChangeSpec.witness6 (enc := enc) (C := Tryz.checked) false ⟨#[], #[.agg #[.int .i64 0, .int .i64 0, .slice none 0 0, .int .i64 0, .slice none 0 0], .slice none 0 0], []⟩ 8 (by kernel_rfl) (by kernel_rfl) (by kernel_rfl) (by kernel_rfl)) ?_
  intro W base args ds gs before hval0 hW hcnd _
  have hval : ∀ (j : Nat) t v, Tryz.f5.params[j]? = some t → args[j]? = some v → Value.okWide Tryz.prog W .any base t v := hval0
  have hW' := hW
  obtain ⟨p, q, hA0, hV, rfl, hfz, hnd⟩ := hW
  have hA : DataW.TrodAll enc Tryz.prog W 0 (fun _ => true) true Tryz.f5.params.toList args.toList ds p := hA0
  rw [Tryz.params5] at hA hval
  obtain ⟨v0, vs0, d0, ds0, p0, q0, hargs, rfl, rfl, h0, r0⟩ := trodAll_cons hA
  obtain ⟨v1, vs1, d1, ds1, p1, q1, rfl, rfl, rfl, h1, r1⟩ := trodAll_cons r0
  obtain ⟨rfl, rfl, rfl⟩ := trodAll_nil r1
  obtain rfl : args = #[v0, v1] := by cases args; simp_all
  obtain ⟨rfl, rfl⟩ := trodVars_none hV
  have k0 := h0
  have k1 := h1
  have lt0 : ∀ x ∈ p0, x.block < W.heap.size := by obtain ⟨m, hm⟩ := k0; exact DataW.trod_lt m _ _ _ hm
  have lt1 : ∀ x ∈ p1, x.block < W.heap.size := by obtain ⟨m, hm⟩ := k1; exact DataW.trod_lt m _ _ _ hm
  obtain ⟨P, M, am, mn, cm, mod, N, a, n, c, L, rfl, hI0, hM0⟩ := arg_code (hval 0 _ v0 rfl rfl) h0
  obtain ⟨a1x, n1x, c1x, Q1, rfl, hQ1⟩ := arg_ints (hval 1 _ v1 rfl rfl) h1
  clear hA0 hval0
  refine (infRanks_any P M am mn cm mod N a n c L a1x n1x c1x Q1 W hI0 hM0 hQ1).mono fun e W' ⟨he, bel⟩ => ?_
  subst he
  exact ⟨_, rfl, _, _, _, [], _, [], hW', trodAll_mk1 (shut_bool Tryz.underlying4 _), (trodAll_cons_mk (Below.trod Tryz.laid (by kernel_rfl) (of_decide_eq_true (by kernel_rfl)) k0 bel lt0) (trodAll_cons_mk (Below.trod Tryz.laid (by kernel_rfl) (of_decide_eq_true (by kernel_rfl)) k1 bel lt1) trodAll_mk0)), rfl, bel.frame _, fun h => by cases h⟩

theorem infRanks_over : Rows.infosetRanksRow.holds Tryz.pinned (OpenSpec.ofChange Rows.infosetRanksSpec) :=
  OpenClaim.holds_of_wide 5 Tryz.f5 rfl rfl rfl rfl rfl rfl rfl ⟨rfl, rfl, rfl, rfl, rfl⟩ rfl rfl rfl rfl rfl (by kernel_rfl) Tryz.func5 (by kernel_rfl)
    (of_decide_eq_true (by kernel_rfl)) (by unfold Func.isWrapper; first | (rw [if_pos (by decide +kernel)]; kernel_rfl) | (rw [if_neg (by decide +kernel)]; exact ⟨rfl, rfl⟩))
    (fun os started H enc _ => infRanks_lifted os started H enc)

theorem infRanks_holds : Rows.InfosetRanksSaid := infRanks_over
#print axioms infRanks_holds
end

end Go.Proofs.YtakmnncmeefceaaGreat
