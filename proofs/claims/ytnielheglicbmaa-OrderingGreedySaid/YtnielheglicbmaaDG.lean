/- OrderingGreedy: the statement. -/
import Derived.Test.YtnielheglicbmaaE2
import Derived.Test.YtnielheglicbmaaC7
import Derived.Test.YtnielheglicbmaaRows
namespace Go.Proofs.Ytnielheglicbmaa
set_option linter.unusedVariables false
set_option linter.unusedSimpArgs false
set_option linter.unusedSectionVars false

/- The walk of OrderingGreedy. -/
section
open Go.RowKit

set_option maxRecDepth 100000 in
set_option maxHeartbeats 4000000 in
theorem greedyLaw_any (P M : Int) (am : Option Addr) (mn cm : Nat) (mod : List Int) (N : Int) (a : Option Addr) (n c : Nat) (L : List (List Int)) (w : World)
    (hmod : Ints w am mn mod) (hi : Mat w a n L) :
    Calls Try.prog 6 #[.agg #[.int .i64 P, .int .i64 M, .slice am mn cm, .int .i64 N, .slice a n c]] w fun e w' => e = .returned (.bool true) ∧ Below w.heap.size w w' := by
  go_enter Try.func6, Try.ntmps6
  go_wp2_with fail
  obtain ⟨W, hW⟩ : ∃ W : World, W = w.alloc (.cells #[.int .i64 P, .int .i64 M, .slice am mn cm, .int .i64 N, .slice a n c] 27) := ⟨_, rfl⟩
  rw [← hW]
  have hbW : Below w.heap.size w W := by rw [hW]; exact below1 _ _
  have x0 : Box W w.heap.size [.int .i64 P, .int .i64 M, .slice am mn cm, .int .i64 N, .slice a n c] := by rw [hW]; exact Box.new _ _ _ rfl
  have hS : ∀ V, Below W.heap.size W V → V.cell? ⟨w.heap.size, 0, none⟩ = some (.int .i64 P) ∧ V.cell? ⟨w.heap.size, 1, none⟩ = some (.int .i64 M) ∧ V.cell? ⟨w.heap.size, 2, none⟩ = some (.slice am mn cm) ∧ V.cell? ⟨w.heap.size, 3, none⟩ = some (.int .i64 N) ∧ V.cell? ⟨w.heap.size, 4, none⟩ = some (.slice a n c) := by
    intro V hV
    have x2 := x0.keep hV
    exact ⟨x2.cell 0 rfl, x2.cell 1 rfl, x2.cell 2 rfl, x2.cell 3 rfl, x2.cell 4 rfl⟩
  have HS := Lib.hid hS
  have HC : Hid (∀ V, Below W.heap.size W V → Calls Try.prog 15 #[.agg #[.int .i64 P, .int .i64 M, .slice am mn cm, .int .i64 N, .slice a n c]] V fun e w' => e = .returned (.int .i64 (codeE P M mod N L)) ∧ Below V.heap.size V w') :=
    fun V hV => (rCodeCheck_any P M am mn cm mod N a n c L V (hmod.keep (Below.next hbW hV)) (hi.keep (Below.next hbW hV)) fun h => hinv_all h).mono fun e w' h => by rw [rcodeE_eq] at h; exact h
  have HG : Hid (∀ V, Below W.heap.size W V → Calls Try.prog 17 #[.agg #[.int .i64 P, .int .i64 M, .slice am mn cm, .int .i64 N, .slice a n c]] V (GreedyPost P M mod N L V)) :=
    fun V hV => ordGreedy_any P M am mn cm mod N a n c L V (hmod.keep (Below.next hbW hV)) (hi.keep (Below.next hbW hV))
  have HbW := Lib.hid hbW
  clear hW hS x0
  refine (HC.out W (Below.refl _ _)).mono ?_
  rintro e w1 ⟨rfl, hb1⟩
  have HG1 := Lib.hid (HG.out w1 hb1)
  obtain ⟨c0, c1, c2, c3, c4⟩ := HS.out w1 hb1
  by_cases hE : codeE P M mod N L = 0
  · obtain ⟨m, rfl, hm1, hm64, _⟩ := codeE_fld hE
    have HR : Hid (∀ V, Below W.heap.size W V → Calls Try.prog 19 #[.agg #[.int .i64 P, .int .i64 M, .slice am mn cm, .int .i64 m, .slice a n c]] V (NewInts V (greedyTo (dimS (tblOf P M.toNat mod).ops L m) m m))) :=
      fun V hV => rGreedy_any P M am mn cm mod m a n c L V (hmod.keep (Below.next hbW hV)) (hi.keep (Below.next hbW hV)) hE
    rw [hE] at HC ⊢
    have HE := Lib.hid hE
    clear hE hmod hi HG hbW
    by_cases h12 : 12 < m
    · have h12' : decide ((12 : Int) < m) = true := by simp; omega
      go_wp2_with fail
      refine (alive_any w1).mono ?_
      rintro e w2 ⟨rfl, hb2⟩
      have hF := Below.next HbW.out (Below.next hb1 hb2)
      go_wp2_with fail
      go_ret
      exact ⟨rfl, hF⟩
    · have h12' : decide ((12 : Int) < m) = false := by simp; omega
      go_wp2_with fail
      refine HG1.out.mono ?_
      rintro e w2 ⟨hb2, ⟨h, _⟩ | ⟨_, ao, co, rfl, hN2⟩⟩
      · exact absurd HE.out h
      have hb02 := Below.next hb1 hb2
      rw [Int.toNat_natCast] at hN2 ⊢
      have Hgl := Lib.hid (greedyTo_len (dimS (tblOf P M.toNat mod).ops L m) m m)
      obtain ⟨g, hg⟩ : ∃ g, greedyTo (dimS (tblOf P M.toNat mod).ops L m) m m = g := ⟨_, rfl⟩
      rw [hg] at hN2 HR Hgl
      clear hg HG1 c0 c1 c2 c3 c4
      obtain ⟨c0, c1, c2, c3, c4⟩ := HS.out w2 hb02
      go_wp2_with fail
      refine (HC.out w2 hb02).mono ?_
      rintro e w3 ⟨rfl, hb3⟩
      have hb03 := Below.next hb02 hb3
      have hN3 := hN2.keep hb3
      clear hN2 c0 c1 c2 c3 c4 HC
      go_wp2_with fail
      refine (alive_any w3).mono ?_
      rintro e w4 ⟨rfl, hb4⟩
      have hb04 := Below.next hb03 hb4
      have hN4 := hN3.keep hb4
      clear hN3
      obtain ⟨c0, c1, c2, c3, c4⟩ := HS.out w4 hb04
      go_wp2_with fail
      refine (HR.out w4 hb04).mono ?_
      rintro e w5 ⟨a5, c5, rfl, hown5, hb5⟩
      have hb05 := Below.next hb04 hb5
      have hs := rSame_any ao m co g a5 g.length c5 g w5 (hN4.keep hb5).ints (Ints.own hown5).1
      have hdd : decide (g = g) = true := by simp
      rw [hdd] at hs
      clear c0 c1 c2 c3 c4 HR hN4 hown5 hdd
      go_wp2_with fail
      refine hs.mono ?_
      rintro e w6 ⟨rfl, hd6⟩
      have hF := Below.next HbW.out (Below.next hb05 hd6.below)
      clear hs
      go_wp2_with fail
      go_ret
      exact ⟨rfl, hF⟩
  · have hE2 : (codeE P M mod N L == 0) = false := by simpa using hE
    have hE3 : (codeE P M mod N L != 0) = true := by simpa using hE
    have HE := Lib.hid hE
    clear hE hmod hi HG hbW
    go_wp2_with fail
    refine HG1.out.mono ?_
    rintro e w2 ⟨hb2, ⟨_, rfl⟩ | ⟨h, _⟩⟩
    rotate_left
    · exact absurd h HE.out
    have hb02 := Below.next hb1 hb2
    clear HG1 c0 c1 c2 c3 c4
    obtain ⟨c0, c1, c2, c3, c4⟩ := HS.out w2 hb02
    go_wp2_with fail
    refine (HC.out w2 hb02).mono ?_
    rintro e w3 ⟨rfl, hb3⟩
    have hb03 := Below.next hb02 hb3
    clear c0 c1 c2 c3 c4 HC
    go_wp2_with fail
    refine (alive_any w3).mono ?_
    rintro e w4 ⟨rfl, hb4⟩
    have hF := Below.next HbW.out (Below.next hb03 hb4)
    go_wp2_with fail
    go_ret
    exact ⟨rfl, hF⟩
end

/- OrderingGreedy: the statement. -/
section
open Go.ChangeShapes Go.WideShapes Go.ChangeAt Go.RowKit

set_option maxRecDepth 100000 in
theorem greedyLaw_lifted (os : Os) (started : os.Started) (H : Type) (enc : TypeId × Value → H) :
    ReturnsInHanded {} Try.checked os 6 .any (Rows.orderingGreedySpec.pre6 enc Try.prog Try.f6 Rows.orderingGreedyRow.domain false) (Rows.orderingGreedySpec.post enc Try.prog Try.f6 false true false false) := by
  refine returnsInHanded_of_change (C := Try.checked) Try.own started (by kernel_rfl) Try.func6
    (ChangeSpec.witness6 (enc := enc) (C := Try.checked) false ⟨#[], #[.agg #[.int .i64 0, .int .i64 0, .slice none 0 0, .int .i64 0, .slice none 0 0]], []⟩ 8 (by kernel_rfl) (by kernel_rfl) (by kernel_rfl) (by kernel_rfl)) ?_
  intro W base args ds gs before hval0 hW hcnd _
  have hval : ∀ (j : Nat) t v, Try.f6.params[j]? = some t → args[j]? = some v → Value.okWide Try.prog W .any base t v := hval0
  have hW' := hW
  obtain ⟨p, q, hA0, hV, rfl, hfz, hnd⟩ := hW
  have hA : DataW.TrodAll enc Try.prog W 0 (fun _ => true) true Try.f6.params.toList args.toList ds p := hA0
  rw [Try.params6] at hA hval
  obtain ⟨v0, vs0, d0, ds0, p0, q0, hargs, rfl, rfl, h0, r0⟩ := trodAll_cons hA
  obtain ⟨rfl, rfl, rfl⟩ := trodAll_nil r0
  obtain rfl : args = #[v0] := by cases args; simp_all
  obtain ⟨rfl, rfl⟩ := trodVars_none hV
  have k0 := h0
  have lt0 : ∀ x ∈ p0, x.block < W.heap.size := by obtain ⟨m, hm⟩ := k0; exact DataW.trod_lt m _ _ _ hm
  obtain ⟨P, M, am, mn, cm, mod, N, a, n, c, L, rfl, hI0, hM0⟩ := arg_code (hval 0 _ v0 rfl rfl) h0
  clear hA0 hval0
  refine (greedyLaw_any P M am mn cm mod N a n c L W hI0 hM0).mono fun e W' ⟨he, bel⟩ => ?_
  subst he
  exact ⟨_, rfl, _, _, _, [], _, [], hW', trodAll_mk1 (shut_bool Try.underlying4 _), (trodAll_cons_mk (Below.trod Try.laid (by kernel_rfl) (of_decide_eq_true (by kernel_rfl)) k0 bel lt0) trodAll_mk0), rfl, bel.frame _, fun h => by cases h⟩

theorem greedyLaw_over : Rows.orderingGreedyRow.holds Try.pinned (OpenSpec.ofChange Rows.orderingGreedySpec) :=
  OpenClaim.holds_of_wide 6 Try.f6 rfl rfl rfl rfl rfl rfl rfl ⟨rfl, rfl, rfl, rfl, rfl⟩ rfl rfl rfl rfl rfl (by kernel_rfl) Try.func6 (by kernel_rfl)
    (of_decide_eq_true (by kernel_rfl)) (by unfold Func.isWrapper; first | (rw [if_pos (by decide +kernel)]; kernel_rfl) | (rw [if_neg (by decide +kernel)]; exact ⟨rfl, rfl⟩))
    (fun os started H enc _ => greedyLaw_lifted os started H enc)

theorem greedyLaw_holds : Rows.OrderingGreedySaid := greedyLaw_over
#print axioms greedyLaw_holds
end

end Go.Proofs.Ytnielheglicbmaa
