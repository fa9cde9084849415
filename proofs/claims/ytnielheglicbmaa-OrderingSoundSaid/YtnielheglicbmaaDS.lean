/- OrderingSound: the statement. -/
import Derived.Test.YtnielheglicbmaaE5
import Derived.Test.YtnielheglicbmaaRows
import Derived.Test.YtnielheglicbmaaC7
namespace Go.Proofs.Ytnielheglicbmaa
set_option linter.unusedVariables false
set_option linter.unusedSimpArgs false
set_option linter.unusedSectionVars false

/- The walk of OrderingSound. -/
section
open Go.RowKit

theorem ordChk_zero {P M : Int} {mod : List Int} {N : Int} {L : List (List Int)} {Q T : List Int} (h : ordChk P M mod N L Q T = 0) :
    codeE P M mod N L = 0 ∧ ordB N Q = true ∧ T = tabL (dimS (tblOf P M.toNat mod).ops L N.toNat) N.toNat (2 ^ N.toNat) ∧ nth T (2 ^ N.toNat - 1) = wdTo (dimS (tblOf P M.toNat mod).ops L N.toNat) Q N.toNat := by
  unfold ordChk at h
  split at h
  · rename_i h1
    split at h
    · exact absurd h (by omega)
    · split at h
      · rename_i h3
        split at h
        · rename_i h4; exact ⟨h1, h3, h4.1, h4.2⟩
        · exact absurd h (by omega)
      · exact absurd h (by omega)
  · rename_i h1; exact absurd h h1
theorem widV_ok {P M : Int} {mod : List Int} {N : Int} {L : List (List Int)} {Q : List Int} (h : ordE P M mod N L Q = 0) : widV P M mod N L Q = (wdTo (dimS (tblOf P M.toNat mod).ops L N.toNat) Q N.toNat, 0) := by
  rw [widV, if_pos h]
theorem ordE_of {P M : Int} {mod : List Int} {N : Int} {L : List (List Int)} {Q : List Int} (h1 : codeE P M mod N L = 0) (h2 : ordB N Q = true) : ordE P M mod N L Q = 0 := by
  rw [ordE, if_pos h1, if_pos h2]
theorem sound_law {P M : Int} {mod : List Int} {N : Int} {L : List (List Int)} {Q T X : List Int} (h : ordChk P M mod N L Q T = 0) (hX : ordE P M mod N L X = 0) :
    (widV P M mod N L Q).2 = 0 ∧ (widV P M mod N L X).2 = 0 ∧ (widV P M mod N L Q).1 ≤ (widV P M mod N L X).1 := by
  obtain ⟨h1, h2, h3, h4⟩ := ordChk_zero h
  obtain ⟨_, h5⟩ := ordE_zero hX
  obtain ⟨m, rfl, hm1, hm64, _⟩ := codeE_fld h1
  rw [widV_ok (ordE_of h1 h2), widV_ok hX]
  rw [Int.toNat_natCast] at h3 h4 ⊢
  refine ⟨rfl, rfl, ?_⟩
  show wdTo _ Q m ≤ wdTo _ X m
  rw [← h4, h3]
  exact tab_sound hm64 h5

set_option maxRecDepth 100000 in
set_option maxHeartbeats 4000000 in
theorem sound_any (P M : Int) (am : Option Addr) (mn cm : Nat) (mod : List Int) (N : Int) (a : Option Addr) (n c : Nat) (L : List (List Int)) (ao : Option Addr) (no co : Nat) (Q : List Int) (at' : Option Addr) (nt ct : Nat) (T : List Int) (ax : Option Addr) (nx cx : Nat) (X : List Int) (w : World)
    (hmod : Ints w am mn mod) (hi : Mat w a n L) (hq : Ints w ao no Q) (hco : no ≤ co) (ht : Ints w at' nt T) (hx : Ints w ax nx X) :
    Calls Try.prog 8 #[.agg #[.int .i64 P, .int .i64 M, .slice am mn cm, .int .i64 N, .slice a n c, .slice ao no co, .slice at' nt ct, .slice ax nx cx]] w
      fun e w' => e = .returned (.bool true) ∧ Below w.heap.size w w' := by
  have Hsh : Hid (∀ V, Below w.heap.size w V → Calls Try.prog 20 #[.agg #[.int .i64 P, .int .i64 M, .slice am mn cm, .int .i64 N, .slice a n c]] V fun e w' => e = .returned (.bool (shortB P M mod N L)) ∧ Below V.heap.size V w') := fun V hV => short_any P M am mn cm mod N a n c L V (hmod.keep hV) (hi.keep hV)
  have H1 : Hid (∀ V, Below w.heap.size w V → Calls Try.prog 21 #[.agg #[.int .i64 P, .int .i64 M, .slice am mn cm, .int .i64 N, .slice a n c], .slice ao no co, .slice at' nt ct] V fun e w' => e = .returned (.int .i64 (ordChk P M mod N L Q T)) ∧ Below V.heap.size V w') :=
    fun V hV => ordCheck_any P M am mn cm mod N a n c L ao no co Q at' nt ct T V (hmod.keep hV) (hi.keep hV) (hq.keep hV) (ht.keep hV)
  have H2 : Hid (∀ V, Below w.heap.size w V → Calls Try.prog 23 #[.agg #[.int .i64 P, .int .i64 M, .slice am mn cm, .int .i64 N, .slice a n c], .slice ax nx cx] V fun e w' => e = .returned (.int .i64 (ordE P M mod N L X)) ∧ Below V.heap.size V w') :=
    fun V hV => rOrder48_any P M am mn cm mod N a n c L ax nx cx X V (hmod.keep hV) (hi.keep hV) (hx.keep hV)
  have H3 : Hid (∀ V, Below w.heap.size w V → Calls Try.prog 24 #[.agg #[.int .i64 P, .int .i64 M, .slice am mn cm, .int .i64 N, .slice a n c], .slice ao no co] V fun e w' => e = .returned (.tuple #[.int .i64 (widV P M mod N L Q).1, .int .i64 (widV P M mod N L Q).2]) ∧ Below V.heap.size V w') :=
    fun V hV => ordWidthE_any P M am mn cm mod N a n c L ao no co Q V (hmod.keep hV) (hi.keep hV) (hq.keep hV)
  have H4 : Hid (∀ V, Below w.heap.size w V → Calls Try.prog 24 #[.agg #[.int .i64 P, .int .i64 M, .slice am mn cm, .int .i64 N, .slice a n c], .slice ax nx cx] V fun e w' => e = .returned (.tuple #[.int .i64 (widV P M mod N L X).1, .int .i64 (widV P M mod N L X).2]) ∧ Below V.heap.size V w') :=
    fun V hV => ordWidthE_any P M am mn cm mod N a n c L ax nx cx X V (hmod.keep hV) (hi.keep hV) (hx.keep hV)
  have HL : Hid (ordChk P M mod N L Q T = 0 → ordE P M mod N L X = 0 → (widV P M mod N L Q).2 = 0 ∧ (widV P M mod N L X).2 = 0 ∧ (widV P M mod N L Q).1 ≤ (widV P M mod N L X).1) := sound_law
  generalize ordChk P M mod N L Q T = k9 at *
  generalize shortB P M mod N L = sb at *
  generalize ordE P M mod N L X = k8 at *
  generalize widV P M mod N L Q = v1 at *
  generalize widV P M mod N L X = v2 at *
  clear hmod hi hq hco ht hx
  go_enter Try.func8, Try.ntmps8
  go_wp2_with fail
  obtain ⟨W, hW⟩ : ∃ W : World, W = w.alloc (.cells #[.int .i64 P, .int .i64 M, .slice am mn cm, .int .i64 N, .slice a n c, .slice ao no co, .slice at' nt ct, .slice ax nx cx] 44) := ⟨_, rfl⟩
  rw [← hW]
  have hbW : Below w.heap.size w W := by rw [hW]; exact below1 _ _
  have x0 : Box W w.heap.size [.int .i64 P, .int .i64 M, .slice am mn cm, .int .i64 N, .slice a n c, .slice ao no co, .slice at' nt ct, .slice ax nx cx] := by rw [hW]; exact Box.new _ _ _ rfl
  have hS : ∀ V, Below W.heap.size W V → V.cell? ⟨w.heap.size, 0, none⟩ = some (.int .i64 P) ∧ V.cell? ⟨w.heap.size, 1, none⟩ = some (.int .i64 M) ∧ V.cell? ⟨w.heap.size, 2, none⟩ = some (.slice am mn cm) ∧ V.cell? ⟨w.heap.size, 3, none⟩ = some (.int .i64 N) ∧ V.cell? ⟨w.heap.size, 4, none⟩ = some (.slice a n c) ∧
      V.cell? ⟨w.heap.size, 5, none⟩ = some (.slice ao no co) ∧ V.cell? ⟨w.heap.size, 6, none⟩ = some (.slice at' nt ct) ∧ V.cell? ⟨w.heap.size, 7, none⟩ = some (.slice ax nx cx) := by
    intro V hV
    have x2 := x0.keep hV
    exact ⟨x2.cell 0 rfl, x2.cell 1 rfl, x2.cell 2 rfl, x2.cell 3 rfl, x2.cell 4 rfl, x2.cell 5 rfl, x2.cell 6 rfl, x2.cell 7 rfl⟩
  have HS := Lib.hid hS
  have HbW := Lib.hid hbW
  clear hW x0 hS
  refine (alive_any W).mono ?_
  rintro e w1 ⟨rfl, hb1⟩
  obtain ⟨c0, c1, c2, c3, c4, c5, c6, c7⟩ := HS.out w1 hb1
  go_wp2_with fail
  refine (Hsh.out w1 (Below.next hbW hb1)).mono ?_
  rintro e w2 ⟨rfl, hb2⟩
  have hb02 := Below.next hb1 hb2
  clear c0 c1 c2 c3 c4 c5 c6 c7 Hsh hbW
  cases sb
  · have hF := Below.next HbW.out hb02
    go_wp2_with fail
    go_ret
    exact ⟨rfl, hF⟩
  obtain ⟨c0, c1, c2, c3, c4, c5, c6, c7⟩ := HS.out w2 hb02
  go_wp2_with fail
  refine (H1.out w2 (Below.next HbW.out hb02)).mono ?_
  rintro e w3 ⟨rfl, hb3⟩
  have hb03 := Below.next hb02 hb3
  clear c0 c1 c2 c3 c4 c5 c6 c7 H1 hb1 hb2
  by_cases h9 : k9 = 0
  rotate_left
  · have h9' : (k9 != 0) = true := by simpa using h9
    have hF := Below.next HbW.out hb03
    clear h9
    go_wp2_with fail
    go_ret
    exact ⟨rfl, hF⟩
  subst h9
  obtain ⟨c0, c1, c2, c3, c4, c5, c6, c7⟩ := HS.out w3 hb03
  go_wp2_with fail
  refine (H2.out w3 (Below.next HbW.out hb03)).mono ?_
  rintro e w4 ⟨rfl, hb4⟩
  have hb04 := Below.next hb03 hb4
  clear c0 c1 c2 c3 c4 c5 c6 c7 H2 hb3 hb02
  by_cases h8 : k8 = 0
  rotate_left
  · have h8' : (k8 != 0) = true := by simpa using h8
    have hF := Below.next HbW.out hb04
    clear h8
    go_wp2_with fail
    go_ret
    exact ⟨rfl, hF⟩
  subst h8
  obtain ⟨l1, l2, l3⟩ := HL.out (by simp) (by simp)
  obtain ⟨d1, x1⟩ := v1
  obtain ⟨d2, x2⟩ := v2
  have e1 : x1 = 0 := l1
  have e2 : x2 = 0 := l2
  have e3 : d1 ≤ d2 := l3
  subst e1 e2
  have e3' : decide (d1 ≤ d2) = true := by simpa using e3
  obtain ⟨c0, c1, c2, c3, c4, c5, c6, c7⟩ := HS.out w4 hb04
  clear l1 l2 l3 HL e3
  go_wp2_with fail
  refine (H3.out w4 (Below.next HbW.out hb04)).mono ?_
  rintro e w5 ⟨rfl, hb5⟩
  have hb05 := Below.next hb04 hb5
  clear c0 c1 c2 c3 c4 c5 c6 c7 H3
  obtain ⟨c0, c1, c2, c3, c4, c5, c6, c7⟩ := HS.out w5 hb05
  go_wp2_with fail
  refine (H4.out w5 (Below.next HbW.out hb05)).mono ?_
  rintro e w6 ⟨rfl, hb6⟩
  have hF := Below.next HbW.out (Below.next hb05 hb6)
  clear c0 c1 c2 c3 c4 c5 c6 c7 H4
  go_wp2_with fail
  go_ret
  exact ⟨rfl, hF⟩
end

/- OrderingSound: the statement. -/
section
open Go.ChangeShapes Go.WideShapes Go.ChangeAt Go.RowKit

set_option maxRecDepth 100000 in
theorem sound_lifted (os : Os) (started : os.Started) (H : Type) (enc : TypeId × Value → H) :
    ReturnsInHanded {} Try.checked os 8 .any (Rows.orderingSoundSpec.pre6 enc Try.prog Try.f8 Rows.orderingSoundRow.domain false) (Rows.orderingSoundSpec.post enc Try.prog Try.f8 false true false false) := by
  refine returnsInHanded_of_change (C := Try.checked) Try.own started (by kernel_rfl) Try.func8
    (ChangeSpec.witness6 (enc := enc) (C := Try.checked) false ⟨#[], #[.agg #[.int .i64 0, .int .i64 0, .slice none 0 0, .int .i64 0, .slice none 0 0, .slice none 0 0, .slice none 0 0, .slice none 0 0]], []⟩ 8 (by kernel_rfl) (by kernel_rfl) (by kernel_rfl) (by kernel_rfl)) ?_
  intro W base args ds gs before hval0 hW hcnd _
  have hval : ∀ (j : Nat) t v, Try.f8.params[j]? = some t → args[j]? = some v → Value.okWide Try.prog W .any base t v := hval0
  have hW' := hW
  obtain ⟨p, q, hA0, hV, rfl, hfz, hnd⟩ := hW
  have hA : DataW.TrodAll enc Try.prog W 0 (fun _ => true) true Try.f8.params.toList args.toList ds p := hA0
  rw [Try.params8] at hA hval
  obtain ⟨v0, vs0, d0, ds0, p0, q0, hargs, rfl, rfl, h0, r0⟩ := trodAll_cons hA
  obtain ⟨rfl, rfl, rfl⟩ := trodAll_nil r0
  obtain rfl : args = #[v0] := by cases args; simp_all
  obtain ⟨rfl, rfl⟩ := trodVars_none hV
  have k0 := h0
  have lt0 : ∀ x ∈ p0, x.block < W.heap.size := by obtain ⟨m, hm⟩ := k0; exact DataW.trod_lt m _ _ _ hm
  obtain ⟨P, M, am, mn, cm, mod, N, a, n, c, L, ao, no, co, Q, at1, nt, ct, T, ax, nx, cx, X, rfl, hI0, hM0, hQ0, hC0, hT0, hX0⟩ := arg_claim (hval 0 _ v0 rfl rfl) h0
  clear hA0 hval0
  refine (sound_any P M am mn cm mod N a n c L ao no co Q at1 nt ct T ax nx cx X W hI0 hM0 hQ0 hC0 hT0 hX0).mono fun e W' ⟨he, bel⟩ => ?_
  subst he
  exact ⟨_, rfl, _, _, _, [], _, [], hW', trodAll_mk1 (shut_bool Try.underlying4 _), (trodAll_cons_mk (Below.trod Try.laid (by kernel_rfl) (of_decide_eq_true (by kernel_rfl)) k0 bel lt0) trodAll_mk0), rfl, bel.frame _, fun h => by cases h⟩

theorem sound_over : Rows.orderingSoundRow.holds Try.pinned (OpenSpec.ofChange Rows.orderingSoundSpec) :=
  OpenClaim.holds_of_wide 8 Try.f8 rfl rfl rfl rfl rfl rfl rfl ⟨rfl, rfl, rfl, rfl, rfl⟩ rfl rfl rfl rfl rfl (by kernel_rfl) Try.func8 (by kernel_rfl)
    (of_decide_eq_true (by kernel_rfl)) (by unfold Func.isWrapper; first | (rw [if_pos (by decide +kernel)]; kernel_rfl) | (rw [if_neg (by decide +kernel)]; exact ⟨rfl, rfl⟩))
    (fun os started H enc _ => sound_lifted os started H enc)

theorem sound_holds : Rows.OrderingSoundSaid := sound_over
#print axioms sound_holds
end

end Go.Proofs.Ytnielheglicbmaa
