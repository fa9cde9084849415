/- OrderingBest: the statement. -/
import Derived.Test.YtnielheglicbmaaE6
import Derived.Test.YtnielheglicbmaaE5
import Derived.Test.YtnielheglicbmaaRows
import Derived.Test.YtnielheglicbmaaC7
namespace Go.Proofs.Ytnielheglicbmaa
set_option linter.unusedVariables false
set_option linter.unusedSimpArgs false
set_option linter.unusedSectionVars false

/- The walk of OrderingBest. -/
section
open Go.RowKit

theorem best_check {P M : Int} {mod : List Int} {m : Nat} {L : List (List Int)} (hE : codeE P M mod m L = 0) (hm : m ≤ 12) :
    ordChk P M mod m L (bestQ (gOf (dimS (tblOf P M.toNat mod).ops L m) (nth (tabL (dimS (tblOf P M.toNat mod).ops L m) m (2 ^ m)) (2 ^ m - 1))) m m) (tabL (dimS (tblOf P M.toNat mod).ops L m) m (2 ^ m)) = 0 := by
  have hfl : ∀ y : Nat, dimS (tblOf P M.toNat mod).ops L m y ≤ m := fun y => dim_le hE y
  unfold ordChk
  rw [Int.toNat_natCast, if_pos hE, if_neg (by omega)]
  obtain ⟨f, hf⟩ : ∃ f, dimS (tblOf P M.toNat mod).ops L m = f := ⟨_, rfl⟩
  rw [hf]
  rw [hf] at hfl
  have h2m := Nat.two_pow_pos m
  have hbnn : 0 ≤ nth (tabL f m (2 ^ m)) (2 ^ m - 1) := (tabL_bd hfl (2 ^ m) (2 ^ m - 1) (by omega)).1
  have hE0 : endE (gOf f (nth (tabL f m (2 ^ m)) (2 ^ m - 1))) m 0 = true := ends_ok hfl (by simp [gOf, hbnn]) fun s hs h0 h => by simp [gOf, h0, h]
  have hO := (best_ord hE0).1
  have hw := Int.le_antisymm (tab_sound (f := f) (by omega) hO) (best_width (f := f) (fun s hs h0 hg => by simpa [gOf, h0] using hg) hbnn hE0 m (Nat.le_refl _))
  rw [if_pos hO, if_pos ⟨rfl, hw⟩]

set_option maxRecDepth 100000 in
set_option maxHeartbeats 4000000 in
theorem bestLaw_any (P M : Int) (am : Option Addr) (mn cm : Nat) (mod : List Int) (N : Int) (a : Option Addr) (n c : Nat) (L : List (List Int)) (w : World)
    (hmod : Ints w am mn mod) (hi : Mat w a n L) :
    Calls Try.prog 10 #[.agg #[.int .i64 P, .int .i64 M, .slice am mn cm, .int .i64 N, .slice a n c]] w fun e w' => e = .returned (.bool true) ∧ Below w.heap.size w w' := by
  go_enter Try.func10, Try.ntmps10
  go_wp2_with fail
  obtain ⟨W, hW⟩ : ∃ W : World, W = w.alloc (.cells #[.int .i64 P, .int .i64 M, .slice am mn cm, .int .i64 N, .slice a n c] 27) := ⟨_, rfl⟩
  rw [← hW]
  have hbW : Below w.heap.size w W := by rw [hW]; exact below1 _ _
  have x0 : Box W w.heap.size [.int .i64 P, .int .i64 M, .slice am mn cm, .int .i64 N, .slice a n c] := by rw [hW]; exact Box.new _ _ _ rfl
  have hS : ∀ V, Below W.heap.size W V → V.cell? ⟨w.heap.size, 0, none⟩ = some (.int .i64 P) ∧ V.cell? ⟨w.heap.size, 1, none⟩ = some (.int .i64 M) ∧ V.cell? ⟨w.heap.size, 2, none⟩ = some (.slice am mn cm) ∧ V.cell? ⟨w.heap.size, 3, none⟩ = some (.int .i64 N) ∧ V.cell? ⟨w.heap.size, 4, none⟩ = some (.slice a n c) := by
    intro V hV
    have x2 := x0.keep hV
    exact ⟨x2.cell 0 rfl, x2.cell 1 rfl, x2.cell 2 rfl, x2.cell 3 rfl, x2.cell 4 rfl⟩
  have HS := Lib.hid hS
  have HbW := Lib.hid hbW
  have HC : Hid (∀ V, Below W.heap.size W V → Calls Try.prog 15 #[.agg #[.int .i64 P, .int .i64 M, .slice am mn cm, .int .i64 N, .slice a n c]] V fun e w' => e = .returned (.int .i64 (codeE P M mod N L)) ∧ Below V.heap.size V w') :=
    fun V hV => (rCodeCheck_any P M am mn cm mod N a n c L V (hmod.keep (Below.next hbW hV)) (hi.keep (Below.next hbW hV)) fun h => hinv_all h).mono fun e w' h => by rw [rcodeE_eq] at h; exact h
  have HB : Hid (∀ V, Below W.heap.size W V → Calls Try.prog 26 #[.agg #[.int .i64 P, .int .i64 M, .slice am mn cm, .int .i64 N, .slice a n c]] V (BestPost P M mod N L V)) :=
    fun V hV => ordBest_any P M am mn cm mod N a n c L V (hmod.keep (Below.next hbW hV)) (hi.keep (Below.next hbW hV))
  have HM := Lib.hid (And.intro hmod hi)
  have hsh := Lib.hid (short_any P M am mn cm mod N a n c L W (hmod.keep hbW) (hi.keep hbW))
  obtain ⟨c0, c1, c2, c3, c4⟩ := HS.out W (Below.refl _ _)
  clear hW x0 hS hmod hi hbW
  go_wp2_with fail
  refine hsh.out.mono ?_
  rintro e w1 ⟨rfl, hb1⟩
  clear c0 c1 c2 c3 c4 hsh
  generalize shortB P M mod N L = sb at *
  cases sb
  · go_wp2_with fail
    refine (alive_any w1).mono ?_
    rintro e w2 ⟨rfl, hb2⟩
    have hF := Below.next HbW.out (Below.next hb1 hb2)
    go_wp2_with fail
    go_ret
    exact ⟨rfl, hF⟩
  obtain ⟨c0, c1, c2, c3, c4⟩ := HS.out w1 hb1
  have HB1 := Lib.hid (HB.out w1 hb1)
  by_cases hE : codeE P M mod N L = 0
  rotate_left
  · have HE := Lib.hid hE
    have hE2 : (codeE P M mod N L == 0) = false := by simpa using hE
    have hE3 : (codeE P M mod N L != 0) = true := by simpa using hE
    clear hE
    go_wp2_with fail
    refine HB1.out.mono ?_
    rintro e w2 ⟨hb2, ⟨_, rfl⟩ | ⟨h, _⟩ | ⟨h, _⟩⟩
    rotate_left
    · exact absurd h HE.out
    · exact absurd h HE.out
    have hb02 := Below.next hb1 hb2
    clear c0 c1 c2 c3 c4 HB HB1
    obtain ⟨c0, c1, c2, c3, c4⟩ := HS.out w2 hb02
    go_wp2_with fail
    refine (HC.out w2 hb02).mono ?_
    rintro e w3 ⟨rfl, hb3⟩
    have hb03 := Below.next hb02 hb3
    clear c0 c1 c2 c3 c4 HC
    go_wp2_with fail
    refine (alive_any w3).mono ?_
    rintro e w4 ⟨rfl, hb4⟩
    have hF := Below.next HbW.out (Below.next hb03 hb4)
    go_wp2_with fail
    go_ret
    exact ⟨rfl, hF⟩
  obtain ⟨m, rfl, hm1, hm64, _⟩ := codeE_fld hE
  have HE := Lib.hid hE
  by_cases h12 : 12 < m
  · have h12' : decide ((12 : Int) < m) = true := by simp; omega
    have h12n : Hid ((12 : Int) < m) := by show (12 : Int) < m; omega
    rw [hE] at HC
    clear hE h12
    go_wp2_with fail
    refine HB1.out.mono ?_
    rintro e w2 ⟨hb2, ⟨h, _⟩ | ⟨_, _, rfl⟩ | ⟨_, h, _⟩⟩
    · exact absurd HE.out h
    rotate_left
    · exact absurd h (by have := h12n.out; omega)
    have hb02 := Below.next hb1 hb2
    clear c0 c1 c2 c3 c4 HB HB1
    obtain ⟨c0, c1, c2, c3, c4⟩ := HS.out w2 hb02
    go_wp2_with fail
    refine (HC.out w2 hb02).mono ?_
    rintro e w3 ⟨rfl, hb3⟩
    have hb03 := Below.next hb02 hb3
    clear c0 c1 c2 c3 c4 HC
    obtain ⟨c0, c1, c2, c3, c4⟩ := HS.out w3 hb03
    go_wp2_with fail
    refine (alive_any w3).mono ?_
    rintro e w4 ⟨rfl, hb4⟩
    have hF := Below.next HbW.out (Below.next hb03 hb4)
    go_wp2_with fail
    go_ret
    exact ⟨rfl, hF⟩
  have h12' : decide ((12 : Int) < m) = false := by simp; omega
  have h12n : Hid ((m : Int) ≤ 12) := by show (m : Int) ≤ 12; omega
  have hck := best_check hE (by omega)
  obtain ⟨Q, hQ⟩ : ∃ Q, bestQ (gOf (dimS (tblOf P M.toNat mod).ops L m) (nth (tabL (dimS (tblOf P M.toNat mod).ops L m) m (2 ^ m)) (2 ^ m - 1))) m m = Q := ⟨_, rfl⟩
  obtain ⟨T, hT⟩ : ∃ T, tabL (dimS (tblOf P M.toNat mod).ops L m) m (2 ^ m) = T := ⟨_, rfl⟩
  have hQl : Q.length = m := by rw [← hQ, bestQ_len]
  have hTl : T.length = 2 ^ m := by rw [← hT, tabL_len]
  have HRB : Hid (∀ V, Below W.heap.size W V → Calls Try.prog 27 #[.agg #[.int .i64 P, .int .i64 M, .slice am mn cm, .int .i64 m, .slice a n c]] V (NewInts V Q)) := fun V hV => by
    rw [← hQ]; exact rBest_any P M am mn cm mod m a n c L V (HM.out.1.keep (Below.next HbW.out hV)) (HM.out.2.keep (Below.next HbW.out hV)) hE (by omega)
  have HRT : Hid (∀ V, Below W.heap.size W V → Calls Try.prog 28 #[.agg #[.int .i64 P, .int .i64 M, .slice am mn cm, .int .i64 m, .slice a n c]] V (NewInts V T)) := fun V hV => by
    rw [← hT]; exact rTable_any P M am mn cm mod m a n c L V (HM.out.1.keep (Below.next HbW.out hV)) (HM.out.2.keep (Below.next HbW.out hV)) hE (by omega)
  rw [hQ, hT] at hck
  have HCk : Hid (∀ V a1 c1 a3 c3, Below W.heap.size W V → Ints V a1 m Q → Ints V a3 (2 ^ m) T → Calls Try.prog 21 #[.agg #[.int .i64 P, .int .i64 M, .slice am mn cm, .int .i64 m, .slice a n c], .slice a1 m c1, .slice a3 (2 ^ m) c3] V fun e w' => e = .returned (.int .i64 0) ∧ Below V.heap.size V w') := fun V a1 c1 a3 c3 hV h1 h3 => by
    have h := ordCheck_any P M am mn cm mod m a n c L a1 m c1 Q a3 (2 ^ m) c3 T V (HM.out.1.keep (Below.next HbW.out hV)) (HM.out.2.keep (Below.next HbW.out hV)) h1 h3
    rw [hck] at h
    exact h
  have HBP : Hid (∀ e w', BestPost P M mod m L w1 e w' → Below w1.heap.size w1 w' ∧ ∃ a1 c1 a3, e = .returned (.tuple #[.slice a1 m c1, .slice a3 (2 ^ m) (2 ^ m), .int .i64 0]) ∧ IntsN w1.heap.size w' a1 m Q ∧ IntsN w1.heap.size w' a3 (2 ^ m) T) := by
    rintro e w' ⟨hb, h⟩
    rw [Int.toNat_natCast, hT, ← hT, hQ, hT] at h
    refine ⟨hb, ?_⟩
    rcases h with ⟨h, _⟩ | ⟨_, h, _⟩ | ⟨_, _, h⟩
    · exact absurd HE.out h
    · exact absurd h (by have := h12n.out; omega)
    · exact h
  rw [hE] at HC
  obtain ⟨K, hK⟩ : ∃ K, 2 ^ m = K := ⟨_, rfl⟩
  rw [hK] at HCk HBP hTl
  have HQl := Lib.hid hQl
  have HTl := Lib.hid hTl
  clear hE h12 hck hQ hT hQl hTl hK HE h12n
  go_wp2_with fail
  refine HB1.out.mono ?_
  rintro e w2 hbp
  obtain ⟨hb2, a1, c1', a3, rfl, hN1, hN3⟩ := HBP.out e w2 hbp
  have hb02 := Below.next hb1 hb2
  clear c0 c1 c2 c3 c4 HB HB1 hbp HBP
  obtain ⟨c0, c1, c2, c3, c4⟩ := HS.out w2 hb02
  go_wp2_with fail
  refine (HC.out w2 hb02).mono ?_
  rintro e w3 ⟨rfl, hb3⟩
  have hb03 := Below.next hb02 hb3
  have hN1 := hN1.keep hb3
  have hN3 := hN3.keep hb3
  clear c0 c1 c2 c3 c4 HC
  obtain ⟨c0, c1, c2, c3, c4⟩ := HS.out w3 hb03
  go_wp2_with fail
  refine (alive_any w3).mono ?_
  rintro e w4 ⟨rfl, hb4⟩
  have hb04 := Below.next hb03 hb4
  have hN1 := hN1.keep hb4
  have hN3 := hN3.keep hb4
  clear c0 c1 c2 c3 c4
  obtain ⟨c0, c1, c2, c3, c4⟩ := HS.out w4 hb04
  go_wp2_with fail
  refine (HRB.out w4 hb04).mono ?_
  rintro e w5 ⟨a5, c5, rfl, hown5, hb5⟩
  have hb05 := Below.next hb04 hb5
  have hN1 := hN1.keep hb5
  have hN3 := hN3.keep hb5
  have hs := rSame_any a1 m c1' Q a5 Q.length c5 Q w5 hN1.ints (Ints.own hown5).1
  rw [show decide (Q = Q) = true by simp] at hs
  have Hs := Lib.hid hs
  clear c0 c1 c2 c3 c4 HRB hown5 hs
  go_wp2_with fail
  refine Hs.out.mono ?_
  rintro e w6 ⟨rfl, hd6⟩
  have hb06 := Below.next hb05 hd6.below
  have hN1 := hN1.keep hd6.below
  have hN3 := hN3.keep hd6.below
  obtain ⟨c0, c1, c2, c3, c4⟩ := HS.out w6 hb06
  clear Hs
  go_wp2_with fail
  refine (HRT.out w6 hb06).mono ?_
  rintro e w7 ⟨a7, c7, rfl, hown7, hb7⟩
  have hb07 := Below.next hb06 hb7
  have hN1 := hN1.keep hb7
  have hN3 := hN3.keep hb7
  have hs := rSame_any a3 K K T a7 T.length c7 T w7 hN3.ints (Ints.own hown7).1
  rw [show decide (T = T) = true by simp] at hs
  have Hs := Lib.hid hs
  clear c0 c1 c2 c3 c4 HRT hown7 hs
  go_wp2_with fail
  refine Hs.out.mono ?_
  rintro e w8 ⟨rfl, hd8⟩
  have hb08 := Below.next hb07 hd8.below
  have hN1 := hN1.keep hd8.below
  have hN3 := hN3.keep hd8.below
  obtain ⟨c0, c1, c2, c3, c4⟩ := HS.out w8 hb08
  have Hck2 := Lib.hid (HCk.out w8 a1 c1' a3 K hb08 hN1.ints hN3.ints)
  clear Hs HCk
  go_wp2_with fail
  refine Hck2.out.mono ?_
  rintro e w9 ⟨rfl, hb9⟩
  have hF := Below.next HbW.out (Below.next hb08 hb9)
  clear Hck2
  go_wp2_with fail
  go_ret
  exact ⟨rfl, hF⟩
end

/- OrderingBest: the statement. -/
section
open Go.ChangeShapes Go.WideShapes Go.ChangeAt Go.RowKit

set_option maxRecDepth 100000 in
theorem bestLaw_lifted (os : Os) (started : os.Started) (H : Type) (enc : TypeId × Value → H) :
    ReturnsInHanded {} Try.checked os 10 .any (Rows.orderingBestSpec.pre6 enc Try.prog Try.f10 Rows.orderingBestRow.domain false) (Rows.orderingBestSpec.post enc Try.prog Try.f10 false true false false) := by
  refine returnsInHanded_of_change (C := Try.checked) Try.own started (by kernel_rfl) Try.func10
    (ChangeSpec.witness6 (enc := enc) (C := Try.checked) false ⟨#[], #[.agg #[.int .i64 0, .int .i64 0, .slice none 0 0, .int .i64 0, .slice none 0 0]], []⟩ 8 (by kernel_rfl) (by kernel_rfl) (by kernel_rfl) (by kernel_rfl)) ?_
  intro W base args ds gs before hval0 hW hcnd _
  have hval : ∀ (j : Nat) t v, Try.f10.params[j]? = some t → args[j]? = some v → Value.okWide Try.prog W .any base t v := hval0
  have hW' := hW
  obtain ⟨p, q, hA0, hV, rfl, hfz, hnd⟩ := hW
  have hA : DataW.TrodAll enc Try.prog W 0 (fun _ => true) true Try.f10.params.toList args.toList ds p := hA0
  rw [Try.params10] at hA hval
  obtain ⟨v0, vs0, d0, ds0, p0, q0, hargs, rfl, rfl, h0, r0⟩ := trodAll_cons hA
  obtain ⟨rfl, rfl, rfl⟩ := trodAll_nil r0
  obtain rfl : args = #[v0] := by cases args; simp_all
  obtain ⟨rfl, rfl⟩ := trodVars_none hV
  have k0 := h0
  have lt0 : ∀ x ∈ p0, x.block < W.heap.size := by obtain ⟨m, hm⟩ := k0; exact DataW.trod_lt m _ _ _ hm
  obtain ⟨P, M, am, mn, cm, mod, N, a, n, c, L, rfl, hI0, hM0⟩ := arg_code (hval 0 _ v0 rfl rfl) h0
  clear hA0 hval0
  refine (bestLaw_any P M am mn cm mod N a n c L W hI0 hM0).mono fun e W' ⟨he, bel⟩ => ?_
  subst he
  exact ⟨_, rfl, _, _, _, [], _, [], hW', trodAll_mk1 (shut_bool Try.underlying4 _), (trodAll_cons_mk (Below.trod Try.laid (by kernel_rfl) (of_decide_eq_true (by kernel_rfl)) k0 bel lt0) trodAll_mk0), rfl, bel.frame _, fun h => by cases h⟩

theorem bestLaw_over : Rows.orderingBestRow.holds Try.pinned (OpenSpec.ofChange Rows.orderingBestSpec) :=
  OpenClaim.holds_of_wide 10 Try.f10 rfl rfl rfl rfl rfl rfl rfl ⟨rfl, rfl, rfl, rfl, rfl⟩ rfl rfl rfl rfl rfl (by kernel_rfl) Try.func10 (by kernel_rfl)
    (of_decide_eq_true (by kernel_rfl)) (by unfold Func.isWrapper; first | (rw [if_pos (by decide +kernel)]; kernel_rfl) | (rw [if_neg (by decide +kernel)]; exact ⟨rfl, rfl⟩))
    (fun os started H enc _ => bestLaw_lifted os started H enc)

theorem bestLaw_holds : Rows.OrderingBestSaid := bestLaw_over
#print axioms bestLaw_holds
end

end Go.Proofs.Ytnielheglicbmaa
