/- InfosetFloor: the statement. -/
import Derived.Test.YtapjcccpokhhhaaG18
import Derived.Test.YtapjcccpokhhhaaG23
import Derived.Test.YtapjcccpokhhhaaRows
import Derived.Test.YtapjcccpokhhhaaG24
namespace Go.Proofs.Ytapjcccpokhhhaa
set_option linter.unusedVariables false
set_option linter.unusedSimpArgs false
set_option linter.unusedSectionVars false

/- The walk of the reference's Floor, and of InfosetFloor. -/
section
open Go.RowKit

set_option maxRecDepth 100000 in
set_option maxHeartbeats 4000000 in
theorem rFloor25_any (K : Int) (a : Option Addr) (n c : Nat) (Q : List Int) (X : Int) (w : World) (hi : Ints w a n Q) :
    Calls Try.prog 6 #[.int .i64 K, .slice a n c, .int .i64 X] w fun e w' => e = .returned (.tuple #[.int .i64 (flV K Q X).1, .int .i64 (flV K Q X).2]) ∧ w' = w := by
  have Hl := Lib.hid hi.len
  have hpl := hi.pl
  have hmax := hi.max
  unfold maxLen at hmax
  go_enter Try.func6, Try.ntmps6
  go_upto_region 1 with fail
  have bad : flB K Q X = false → flV K Q X = (0, 6) := fun h => by rw [flV, if_neg (by rw [h]; simp)]
  have Hbad := Lib.hid bad
  clear bad
  have hfl : flB K Q X = (decide (0 ≤ K) && decide (K ≤ 64) && decide (0 ≤ X) && decide (X ≤ K) && decide (n ≤ 64)) := by rw [flB, Hl.out]
  by_cases h1 : K < 0
  · have d1 : decide (K < 0) = true := by simpa using h1
    have HV := Lib.hid (Hbad.out (by rw [hfl]; simp; omega))
    clear h1 hfl
    go_wp2_with fail
    go_ret2
    exact ⟨by rw [HV.out]; rfl, rfl⟩
  have d1 : decide (K < 0) = false := by simpa using h1
  by_cases h2 : 64 < K
  · have d2 : decide (64 < K) = true := by simpa using h2
    have HV := Lib.hid (Hbad.out (by rw [hfl]; simp; omega))
    clear h1 h2 hfl
    go_wp2_with fail
    go_ret2
    exact ⟨by rw [HV.out]; rfl, rfl⟩
  have d2 : decide (64 < K) = false := by simpa using h2
  by_cases h3 : X < 0
  · have d3 : decide (X < 0) = true := by simpa using h3
    have HV := Lib.hid (Hbad.out (by rw [hfl]; simp; omega))
    clear h1 h2 h3 hfl
    go_wp2_with fail
    go_ret2
    exact ⟨by rw [HV.out]; rfl, rfl⟩
  have d3 : decide (X < 0) = false := by simpa using h3
  by_cases h4 : K < X
  · have d4 : decide (K < X) = true := by simpa using h4
    have HV := Lib.hid (Hbad.out (by rw [hfl]; simp; omega))
    clear h1 h2 h3 h4 hfl
    go_wp2_with fail
    go_ret2
    exact ⟨by rw [HV.out]; rfl, rfl⟩
  have d4 : decide (K < X) = false := by simpa using h4
  by_cases h5 : 64 < n
  · have d5 : decide ((64 : Int) < n) = true := by simp; omega
    have HV := Lib.hid (Hbad.out (by rw [hfl]; simp; omega))
    clear h1 h2 h3 h4 h5 hfl
    go_wp2_with fail
    go_ret2
    exact ⟨by rw [HV.out]; rfl, rfl⟩
  have d5 : decide ((64 : Int) < n) = false := by simp; omega
  have HB : Hid (flB K Q X = true) := by show _ = _; rw [hfl]; simp; omega
  have HV2 : Hid (flV K Q X = if Q.all (flQ K) = true then (flTo K X Q n, 0) else (0, 6)) := by
    show _ = _
    rw [flV, HB.out, Hl.out]
    simp
  clear hfl
  go_wp2_with fail
  go_loop [8] (fun iv => ∃ k : Nat, k ≤ n ∧ iv = .int .i64 k ∧ Hid (∀ j, j < k → flQ K (nth Q j) = true)) (fun iv => n - (intOf iv).toNat)
  case atStart => exact ⟨0, Nat.zero_le _, rfl, fun j hj => by omega⟩
  case round =>
    obtain ⟨k, hk, rfl, hall⟩ := hrel
    by_cases hlt : k < n
    · have ck := hi.cell k hlt
      have Hx : Hid (∀ y, nth Q k = y → flQ K y = true → ∀ j, j < k + 1 → flQ K (nth Q j) = true) := fun y hy h j hj => by
        by_cases e : j = k
        · subst e; rw [hy]; exact h
        · exact hall.out j (by omega)
      have Hno : Hid (flQ K (nth Q k) = false → flV K Q X = (0, 6)) := fun h => by
        rw [HV2.out, if_neg]
        intro h2
        have := List.all_eq_true.1 h2 _ (nth_mem (i := k) (by rw [Hl.out]; exact hlt))
        rw [h] at this
        exact absurd this (by decide)
      obtain ⟨y, hy⟩ : ∃ y, nth Q k = y := ⟨_, rfl⟩
      have Hx2 := fun h => Hx.out y hy h
      rw [hy] at ck Hno
      clear hy Hx
      by_cases q1 : y < 0
      · have e1 : decide (y < 0) = true := by simpa using q1
        have HV := Lib.hid (Hno.out (by unfold flQ; simp; omega))
        clear q1 Hx2
        go_wp2_with fail
        go_ret2
        exact ⟨by rw [HV.out]; rfl, rfl⟩
      have e1 : decide (y < 0) = false := by simpa using q1
      by_cases q2 : K < y
      · have e2 : decide (K < y) = true := by simpa using q2
        have HV := Lib.hid (Hno.out (by unfold flQ; simp; omega))
        clear q1 q2 Hx2
        go_wp2_with fail
        go_ret2
        exact ⟨by rw [HV.out]; rfl, rfl⟩
      have e2 : decide (K < y) = false := by simpa using q2
      have Hx3 := Lib.hid (Hx2 (by unfold flQ; simp; omega))
      clear Hx2
      go_wp2_with fail
      go_round
      case rel => exact ⟨k + 1, by omega, by go_num, Hx3.out⟩
      case measure => simp [intOf] <;> omega
    · have hkn : k = n := by omega
      subst hkn
      have Hall := Lib.hid hall.out
      have HV : Hid (flV K Q X = (flTo K X Q k, 0)) := by
        show _ = _
        rw [HV2.out, if_pos]
        rw [List.all_eq_true]
        intro x hx
        obtain ⟨j, hj, rfl⟩ := List.mem_iff_getElem.1 hx
        have := hall.out j (by have := Hl.out; omega)
        rwa [nth_getElem hj] at this
      go_wp2_with fail
      go_loop [9, 10] (fun sv iv => ∃ q : Nat, q ≤ k ∧ iv = .int .i64 q ∧ sv = .int .i64 (flTo K X Q q)) (fun _ iv => k - (intOf iv).toNat)
      case atStart => exact ⟨0, Nat.zero_le _, rfl, rfl⟩
      case round =>
        obtain ⟨q, hq, rfl, rfl⟩ := hrel
        have hbd : 0 ≤ flTo K X Q q ∧ flTo K X Q q ≤ 200 * q := flTo_bd (K := K) (W := X) (Q := Q) (by omega) (by omega) (by
          rw [List.all_eq_true]
          intro x hx
          obtain ⟨j, hj, rfl⟩ := List.mem_iff_getElem.1 hx
          have := Hall.out j (by have := Hl.out; omega)
          rwa [nth_getElem hj] at this) q (by rw [Hl.out]; exact hq)
        by_cases hlt2 : q < k
        · have ck := hi.cell q hlt2
          have hfq := Hall.out q hlt2
          have Hst : Hid (flTo K X Q (q + 1) = flTo K X Q q + max 0 (X + 1 - (K - nth Q q))) := rfl
          obtain ⟨y, hy⟩ : ∃ y, nth Q q = y := ⟨_, rfl⟩
          rw [hy] at ck Hst hfq
          have hyb : 0 ≤ y ∧ y ≤ K := by simpa [flQ] using hfq
          clear hy hfq
          have k1 : IntKind.i64.wrap (X + 1) = X + 1 := IntWalk.i64_in _ (by omega)
          have k2 : IntKind.i64.wrap (K - y) = K - y := IntWalk.i64_in _ (by omega)
          have k3 : IntKind.i64.wrap (X + 1 - (K - y)) = X + 1 - (K - y) := IntWalk.i64_in _ (by omega)
          have k4 : IntKind.i64.wrap (flTo K X Q q + max 0 (X + 1 - (K - y))) = flTo K X Q q + max 0 (X + 1 - (K - y)) := IntWalk.i64_in _ (by omega)
          clear hbd hyb
          generalize flTo K X Q q = t at *
          go_wp2_with fail
          go_round
          case rel => exact ⟨q + 1, by omega, by go_num, by rw [Hst.out]; first | done | exact congrArg (Value.int .i64) ((IntWalk.i64_left _).symm.trans k4)⟩
          case measure => simp [intOf] <;> omega
        · have hqk : q = k := by omega
          subst hqk
          clear hbd
          go_wp2_with fail
          go_ret2
          exact ⟨by rw [HV.out]; rfl, rfl⟩

set_option maxRecDepth 100000 in
set_option maxHeartbeats 1600000 in
theorem infFloor_any (K : Int) (a : Option Addr) (n c : Nat) (Q : List Int) (X : Int) (w : World) (hi : Ints w a n Q) :
    Calls Try.prog 3 #[.int .i64 K, .slice a n c, .int .i64 X] w fun e w' => e = .returned (.bool true) ∧ Below w.heap.size w w' := by
  obtain ⟨x, hx⟩ : ∃ x, (flV K Q X).1 = x := ⟨_, rfl⟩
  obtain ⟨er, her⟩ : ∃ er, (flV K Q X).2 = er := ⟨_, rfl⟩
  have HF1 : Hid (∀ V, Below w.heap.size w V → Calls Try.prog 5 #[.int .i64 K, .slice a n c, .int .i64 X] V fun e w' => e = .returned (.tuple #[.int .i64 x, .int .i64 er]) ∧ w' = V) := fun V hV => by
    rw [← hx, ← her]; exact floor_any K a n c Q X V (hi.keep hV)
  have HF2 : Hid (∀ V, Below w.heap.size w V → Calls Try.prog 6 #[.int .i64 K, .slice a n c, .int .i64 X] V fun e w' => e = .returned (.tuple #[.int .i64 x, .int .i64 er]) ∧ w' = V) := fun V hV => by
    rw [← hx, ← her]; exact rFloor25_any K a n c Q X V (hi.keep hV)
  clear hi hx her
  go_enter Try.func3, Try.ntmps3
  go_wp2_with fail
  refine (awake_any w).mono ?_
  rintro e w1 ⟨rfl, hb1⟩
  by_cases hno : 100 < n
  · have hd : decide ((100 : Int) < n) = true := by simp; omega
    clear hno
    go_wp2_with fail
    refine (awake_any w1).mono ?_
    rintro e w3 ⟨rfl, hb3⟩
    have hF := Below.next hb1 hb3
    go_wp2_with fail
    go_ret
    exact ⟨rfl, hF⟩
  have hd : decide ((100 : Int) < n) = false := by simp; omega
  clear hno
  go_wp2_with fail
  refine (HF1.out w1 hb1).mono ?_
  rintro e w2 ⟨rfl, rfl⟩
  go_wp2_with fail
  refine (HF2.out _ hb1).mono ?_
  rintro e w3 ⟨rfl, rfl⟩
  have e1 : (er == er) = true := by simp
  have e4 : (x == x) = true := by simp
  go_wp2_with fail
  go_ret
  exact ⟨rfl, hb1⟩
end

/- InfosetFloor: the statement. -/
section
open Go.ChangeShapes Go.WideShapes Go.ChangeAt Go.RowKit

set_option maxRecDepth 100000 in
theorem infFloor_lifted (os : Os) (started : os.Started) (H : Type) (enc : TypeId × Value → H) :
    ReturnsInHanded {} Try.checked os 3 .any (Rows.infosetFloorSpec.pre6 enc Try.prog Try.f3 Rows.infosetFloorRow.domain false) (Rows.infosetFloorSpec.post enc Try.prog Try.f3 false true false false) := by
  refine returnsInHanded_of_change (C := Try.checked) Try.own started (by kernel_rfl) Try.func3
    (ChangeSpec.witness6 (enc := enc) (C := Try.checked) false ⟨#[], #[.int .i64 0, .slice none 0 0, .int .i64 0], []⟩ 8 (by kernel_rfl) (by kernel_rfl) (by kernel_rfl) (by kernel_rfl)) ?_
  intro W base args ds gs before hval0 hW hcnd _
  have hval : ∀ (j : Nat) t v, Try.f3.params[j]? = some t → args[j]? = some v → Value.okWide Try.prog W .any base t v := hval0
  have hW' := hW
  obtain ⟨p, q, hA0, hV, rfl, hfz, hnd⟩ := hW
  have hA : DataW.TrodAll enc Try.prog W 0 (fun _ => true) true Try.f3.params.toList args.toList ds p := hA0
  rw [Try.params3] at hA hval
  obtain ⟨v0, vs0, d0, ds0, p0, q0, hargs, rfl, rfl, h0, r0⟩ := trodAll_cons hA
  obtain ⟨v1, vs1, d1, ds1, p1, q1, rfl, rfl, rfl, h1, r1⟩ := trodAll_cons r0
  obtain ⟨v2, vs2, d2, ds2, p2, q2, rfl, rfl, rfl, h2, r2⟩ := trodAll_cons r1
  obtain ⟨rfl, rfl, rfl⟩ := trodAll_nil r2
  obtain rfl : args = #[v0, v1, v2] := by cases args; simp_all
  obtain ⟨rfl, rfl⟩ := trodVars_none hV
  have k1 := h1
  have lt1 : ∀ x ∈ p1, x.block < W.heap.size := by obtain ⟨m, hm⟩ := k1; exact DataW.trod_lt m _ _ _ hm
  obtain ⟨z0, rfl, rfl, rfl, w0⟩ := open_int Try.underlying3 (hval 0 _ v0 rfl rfl) h0
  obtain ⟨a1x, n1x, c1x, Q1, rfl, hQ1⟩ := arg_ints (hval 1 _ v1 rfl rfl) h1
  obtain ⟨z2, rfl, rfl, rfl, w2⟩ := open_int Try.underlying3 (hval 2 _ v2 rfl rfl) h2
  clear hA0 hval0
  refine (infFloor_any z0 a1x n1x c1x Q1 z2 W hQ1).mono fun e W' ⟨he, bel⟩ => ?_
  subst he
  exact ⟨_, rfl, _, _, _, [], _, [], hW', trodAll_mk1 (shut_bool Try.underlying4 _), (trodAll_cons_mk (shut_int Try.underlying3 w0) (trodAll_cons_mk (Below.trod Try.laid (by kernel_rfl) (of_decide_eq_true (by kernel_rfl)) k1 bel lt1) (trodAll_cons_mk (shut_int Try.underlying3 w2) trodAll_mk0))), rfl, bel.frame _, fun h => by cases h⟩

theorem infFloor_over : Rows.infosetFloorRow.holds Try.pinned (OpenSpec.ofChange Rows.infosetFloorSpec) :=
  OpenClaim.holds_of_wide 3 Try.f3 rfl rfl rfl rfl rfl rfl rfl ⟨rfl, rfl, rfl, rfl, rfl⟩ rfl rfl rfl rfl rfl (by kernel_rfl) Try.func3 (by kernel_rfl)
    (of_decide_eq_true (by kernel_rfl)) (by unfold Func.isWrapper; first | (rw [if_pos (by decide +kernel)]; kernel_rfl) | (rw [if_neg (by decide +kernel)]; exact ⟨rfl, rfl⟩))
    (fun os started H enc _ => infFloor_lifted os started H enc)

theorem infFloor_holds : Rows.InfosetFloorSaid := infFloor_over
#print axioms infFloor_holds
end

end Go.Proofs.Ytapjcccpokhhhaa
