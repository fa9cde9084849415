/- The walk of field.New. -/
import Derived.Test.YtcflcogbpnmjeaaGreatK3
import Derived.Deep.RegionLaw
namespace Go.Proofs.YtcflcogbpnmjeaaGreat
set_option linter.unusedVariables false
set_option linter.unusedSimpArgs false
set_option linter.unusedSectionVars false

/- Sums and negatives of residues, as plain Lean functions. -/
section
/-- the sum of two residues of m digits -/
def fsum (P : Int) : Nat → Int → Int → Int
  | 0, _, _ => 0
  | m + 1, x, y => (x + y) % P + P * fsum P m (x / P) (y / P)
/-- the negative -/
def fneg (P : Int) : Nat → Int → Int
  | 0, _ => 0
  | m + 1, x => (P - x % P) % P + P * fneg P m (x / P)

theorem fsum_zero (P : Int) : ∀ m, fsum P m 0 0 = 0
  | 0 => rfl
  | m + 1 => by simp [fsum, fsum_zero P m]
theorem fneg_zero (P : Int) : ∀ m, fneg P m 0 = 0
  | 0 => rfl
  | m + 1 => by simp [fneg, fneg_zero P m]
theorem fsum_bd {P : Int} (hP : 0 < P) : ∀ (m : Nat) (x y : Int), 0 ≤ fsum P m x y ∧ fsum P m x y < P ^ m
  | 0, x, y => by simp [fsum]
  | m + 1, x, y => by
    have ih := fsum_bd hP m (x / P) (y / P)
    have h1 := Int.emod_nonneg (x + y) (show P ≠ 0 by omega)
    have h2 := Int.emod_lt_of_pos (x + y) hP
    have h3 : 0 ≤ P * fsum P m (x / P) (y / P) := Int.mul_nonneg (by omega) ih.1
    have h4 := Int.mul_le_mul_of_nonneg_left (show fsum P m (x / P) (y / P) + 1 ≤ P ^ m by omega) (show 0 ≤ P by omega)
    rw [Int.mul_add] at h4
    simp only [fsum, Int.pow_succ]
    rw [Int.mul_comm (P ^ m)]
    omega
theorem fneg_bd {P : Int} (hP : 0 < P) : ∀ (m : Nat) (x : Int), 0 ≤ fneg P m x ∧ fneg P m x < P ^ m
  | 0, x => by simp [fneg]
  | m + 1, x => by
    have ih := fneg_bd hP m (x / P)
    have h1 := Int.emod_nonneg (P - x % P) (show P ≠ 0 by omega)
    have h2 := Int.emod_lt_of_pos (P - x % P) hP
    have h3 : 0 ≤ P * fneg P m (x / P) := Int.mul_nonneg (by omega) ih.1
    have h4 := Int.mul_le_mul_of_nonneg_left (show fneg P m (x / P) + 1 ≤ P ^ m by omega) (show 0 ≤ P by omega)
    rw [Int.mul_add] at h4
    simp only [fneg, Int.pow_succ]
    rw [Int.mul_comm (P ^ m)]
    omega
/-- x has at most m digits -/
theorem dquo_end (P : Int) (hP : 0 < P) : ∀ (m : Nat) (x : Int), 0 ≤ x → x < P ^ m → dquo x P m = 0
  | 0, x, h0, h1 => by simp at h1; simp [dquo]; omega
  | m + 1, x, h0, h1 => by
    rw [dquo_succ]
    refine dquo_end P hP m (x / P) (Int.ediv_nonneg h0 (by omega)) ?_
    rw [Int.pow_succ] at h1
    exact Int.ediv_lt_of_lt_mul hP h1

theorem xor_mod2 (x y : Nat) : (x ^^^ y) % 2 = (x + y) % 2 := by
  have h := Nat.testBit_xor x y 0
  simp only [Nat.testBit_zero] at h
  have hx := Nat.mod_two_eq_zero_or_one x
  have hy := Nat.mod_two_eq_zero_or_one y
  have hz := Nat.mod_two_eq_zero_or_one (x ^^^ y)
  rcases hx with hx | hx <;> rcases hy with hy | hy <;> rcases hz with hz | hz <;> simp [hx, hy, hz] at h <;> omega

/-- 'x ^ y' is the sum in the binary fields -/
theorem xor_fsum : ∀ (m : Nat) (x y : Nat), x < 2 ^ m → y < 2 ^ m → ((x ^^^ y : Nat) : Int) = fsum 2 m x y
  | 0, x, y, hx, hy => by
    have h1 : x = 0 := by simp at hx; omega
    have h2 : y = 0 := by simp at hy; omega
    subst h1; subst h2; rfl
  | m + 1, x, y, hx, hy => by
    have ih := xor_fsum m (x / 2) (y / 2) (by rw [Nat.pow_succ] at hx; omega) (by rw [Nat.pow_succ] at hy; omega)
    simp only [fsum]
    have e1 : ((x : Int) / 2) = ((x / 2 : Nat) : Int) := by omega
    have e2 : ((y : Int) / 2) = ((y / 2 : Nat) : Int) := by omega
    rw [e1, e2, ← ih, ← Nat.xor_div_two]
    have h3 : (x ^^^ y) % 2 = (x + y) % 2 := xor_mod2 x y
    omega
end

/- The walks of the methods of a field: Add, Neg, Sub, Scale. -/
section
open Go.RowKit

theorem bits_xor_i64_small (a b : Nat) (ha : a < 256) (hb : b < 256) : bits .xor .i64 (a : Int) (b : Int) = ((a ^^^ b : Nat) : Int) := by
  have hx : a ^^^ b < 2 ^ 8 := Nat.xor_lt_two_pow (by omega) (by omega)
  have h1 : (BitVec.ofInt 64 (a : Int)).toNat = a := by
    rw [BitVec.ofInt_natCast, BitVec.toNat_ofNat]; exact Nat.mod_eq_of_lt (by omega)
  have h2 : (BitVec.ofInt 64 (b : Int)).toNat = b := by
    rw [BitVec.ofInt_natCast, BitVec.toNat_ofNat]; exact Nat.mod_eq_of_lt (by omega)
  show IntKind.i64.wrap ((BitVec.ofInt 64 (a : Int) ^^^ BitVec.ofInt 64 (b : Int)).toNat : Int) = _
  rw [BitVec.toNat_xor, h1, h2]
  exact IntWalk.i64_in _ (by omega)

variable {w : World} {b : Nat} {P : Int} {M q : Nat} {ex lg : List Int}

def QuietInt (w : World) (z : Int) (e : Ending) (w' : World) : Prop := ∃ n, e = .returned (.int .i64 z) ∧ w' = w.drewN n

theorem exists_drewN {w wr : World} {n : Nat} (h : wr = w.drewN n) (m : Nat) : ∃ k, wr.drewN m = w.drewN k := ⟨n + m, by rw [h, World.drewN_drewN]⟩

theorem step_eq (P s t D r : Int) (k : Nat) : s + P ^ k * (t + P * r) = s + t * P ^ k + P ^ (k + 1) * r := by
  rw [Int.pow_succ, Int.mul_add, Int.mul_comm (P ^ k) t, Int.mul_assoc, Int.add_assoc]

set_option maxRecDepth 100000 in
set_option maxHeartbeats 1600000 in
theorem gfAdd_any (x y : Int) (h : GFm w b P M q ex lg) (hx0 : 0 ≤ x) (hx1 : x < q) (hy0 : 0 ≤ y) (hy1 : y < q) :
    Calls Tryz.prog 111 #[.pointer (some ⟨b, 0, none⟩), .int .i64 x, .int .i64 y] w (QuietInt w (fsum P M x y)) := by
  have hcp := h.cp
  have hp2 := h.p2
  have hp256 := h.p256
  have hq256 := h.q256
  by_cases hP : P = 2
  · obtain ⟨xn, rfl⟩ : ∃ n : Nat, x = n := ⟨x.toNat, by omega⟩
    obtain ⟨yn, rfl⟩ : ∃ n : Nat, y = n := ⟨y.toNat, by omega⟩
    subst hP
    have hpw := h.pw
    have hq2 : q = 2 ^ M := by exact_mod_cast hpw
    have hxor : bits .xor .i64 (xn : Int) (yn : Int) = fsum 2 M xn yn := by
      rw [bits_xor_i64_small _ _ (by omega) (by omega), xor_fsum M xn yn (by omega) (by omega)]
    clear hpw hq2
    go_enter Tryz.func111, Tryz.ntmps111
    go_wp2_with (first | (go_at_call 159; (with_reducible refine (gfIn_any xn h hx0 hx1).mono ?_); rintro e w' ⟨rfl, rfl⟩) | (go_at_call 159; (with_reducible refine (gfIn_any yn h hy0 hy1).mono ?_); rintro e w' ⟨rfl, rfl⟩))
    go_ret
    exact ⟨0, rfl, rfl⟩
  · have hP' : (P == 2) = false := by simpa using hP
    have HPw := Lib.hid h.pw
    clear hP
    go_enter Tryz.func111, Tryz.ntmps111
    go_wp2_with (first | (go_at_call 159; (with_reducible refine (gfIn_any x h hx0 hx1).mono ?_); rintro e w' ⟨rfl, rfl⟩) | (go_at_call 159; (with_reducible refine (gfIn_any y h hy0 hy1).mono ?_); rintro e w' ⟨rfl, rfl⟩))
    go_loopw [1, 2, 7, 8] (fun xv yv sv pv wr => ∃ (k : Nat) (X Y s p : Int), k ≤ M ∧ xv = .int .i64 X ∧ yv = .int .i64 Y ∧ sv = .int .i64 s ∧ pv = .int .i64 p ∧ Hid (p = P ^ k) ∧ 1 ≤ p ∧ p ≤ 256 ∧
        0 ≤ X ∧ X ≤ 256 ∧ 0 ≤ Y ∧ Y ≤ 256 ∧ 0 ≤ s ∧ s < p ∧ Hid (X = dquo x P k) ∧ Hid (Y = dquo y P k) ∧ Hid (s + P ^ k * fsum P (M - k) X Y = fsum P M x y) ∧ ∃ n, wr = w.drewN n)
      (fun xv yv _ _ _ => (intOf xv + intOf yv).toNat)
    case atStart =>
      exact ⟨0, x, y, 0, 1, by omega, rfl, rfl, rfl, rfl, by show (1 : Int) = P ^ 0; simp, by omega, by omega, hx0, by omega, hy0, by omega, by omega, by omega, rfl, rfl, by show 0 + P ^ 0 * fsum P (M - 0) x y = _; simp, 0, rfl⟩
    case round =>
      obtain ⟨k, X, Y, s, p, hkM, rfl, rfl, rfl, rfl, hp, hp1, hp2', hX0, hX1, hY0, hY1, hs0, hs1, hX, hY, hinv, n, hwr⟩ := hrel
      have hcpr : wr.cell? ⟨b, 0, none⟩ = some (.int .i64 P) := by rw [hwr]; exact hcp
      have Hwr := Lib.hid hwr
      clear hwr
      by_cases hz : X = 0 ∧ Y = 0
      · obtain ⟨rfl, rfl⟩ := hz
        have hfin : s = fsum P M x y := by
          have := hinv.out
          rw [fsum_zero] at this
          omega
        have Hfin := Lib.hid hfin
        clear hfin
        go_wp2
        go_ret
        exact ⟨n, ret_int Hfin.out, Hwr.out⟩
      · have hkM' : k < M := by
          rcases Nat.lt_or_ge k M with h1 | h1
          · exact h1
          · exfalso
            obtain rfl : k = M := by omega
            have e1 := dquo_end P (by omega) k x hx0 (by rw [← HPw.out]; exact hx1)
            have e2 := dquo_end P (by omega) k y hy0 (by rw [← HPw.out]; exact hy1)
            exact hz ⟨by rw [hX.out]; exact e1, by rw [hY.out]; exact e2⟩
        have hmeas : X / P + Y / P < X + Y := by
          have h1 := Int.ediv_le_self P hX0
          have h2 := Int.ediv_le_self P hY0
          rcases (show 0 < X ∨ 0 < Y by omega) with h3 | h3
          · have : X / P < X := Int.ediv_lt_of_lt_mul (by omega) (by have := Int.mul_le_mul_of_nonneg_left hp2 hX0; omega)
            omega
          · have : Y / P < Y := Int.ediv_lt_of_lt_mul (by omega) (by have := Int.mul_le_mul_of_nonneg_left hp2 hY0; omega)
            omega
        have hXd := Int.ediv_nonneg hX0 (show 0 ≤ P by omega)
        have hYd := Int.ediv_nonneg hY0 (show 0 ≤ P by omega)
        have hXd2 := Int.ediv_le_self P hX0
        have hYd2 := Int.ediv_le_self P hY0
        have m1 := Int.emod_nonneg X (show P ≠ 0 by omega)
        have m2 := Int.emod_lt_of_pos X (show 0 < P by omega)
        have m3 := Int.emod_nonneg Y (show P ≠ 0 by omega)
        have m4 := Int.emod_lt_of_pos Y (show 0 < P by omega)
        have m5 := Int.emod_nonneg (X + Y) (show P ≠ 0 by omega)
        have m6 := Int.emod_lt_of_pos (X + Y) (show 0 < P by omega)
        have hpp : p * P = P ^ (k + 1) := by rw [hp.out, Int.pow_succ]
        have hpM : P ^ (k + 1) ≤ 256 := by have h1 := pow_mono (show 1 ≤ P by omega) (show k + 1 ≤ M by omega); have h2 := HPw.out; omega
        have m7 : 0 ≤ (X + Y) % P * p := Int.mul_nonneg m5 (by omega)
        have m8 : (X + Y) % P * p + p ≤ p * P := by
          have := Int.mul_le_mul_of_nonneg_left (show (X + Y) % P + 1 ≤ P by omega) (show 0 ≤ p by omega)
          rw [Int.mul_add] at this
          rw [Int.mul_comm _ p]
          omega
        have m9 : p * 1 ≤ p * P := Int.mul_le_mul_of_nonneg_left (by omega) (by omega)
        have hinv2 : s + (X + Y) % P * p + P ^ (k + 1) * fsum P (M - (k + 1)) (X / P) (Y / P) = fsum P M x y := by
          rw [← hinv.out, show M - k = (M - (k + 1)) + 1 from by omega, fsum, step_eq P s _ 0, hp.out]
        have hP0 : P ≠ 0 := by omega
        have r1 : X.tmod P = X % P := IntWalk.rem_in _ _ hX0
        have r2 : Y.tmod P = Y % P := IntWalk.rem_in _ _ hY0
        have r3 : IntKind.i64.wrap (X % P + Y % P) = X % P + Y % P := IntWalk.i64_in _ (by omega)
        have r4 : (X % P + Y % P).tmod P = (X + Y) % P := by rw [IntWalk.rem_in _ _ (by omega), Int.emod_add_emod, Int.add_emod_emod]
        have r5 : IntKind.i64.wrap ((X + Y) % P * p) = (X + Y) % P * p := IntWalk.i64_in _ (by omega)
        have r6 : IntKind.i64.wrap (s + (X + Y) % P * p) = s + (X + Y) % P * p := IntWalk.i64_in _ (by omega)
        have hpl : p * P ≤ 256 := by rw [hpp]; exact hpM
        have Hinv2 := Lib.hid hinv2
        have Hpp := Lib.hid hpp
        have Hmeas := Lib.hid hmeas
        clear hinv2 hpp hmeas
        rcases (show 0 < X ∨ (decide (0 < X) = false ∧ 0 < Y) by simp; omega) with hg | ⟨hgx, hg⟩
        all_goals
          go_wp2_with fail
          go_quiet (fail)
          clear r1 r2 r3 r4 r5 r6
          go_wp2
          go_roundw
          case rel =>
            refine ⟨k + 1, _, _, _, _, by omega, rfl, rfl, rfl, rfl, Hpp.out, by omega, by have := Hpp.out; omega, by omega, by omega, by omega, by omega, by omega, by omega, ?_, ?_, Hinv2.out, exists_drewN Hwr.out _⟩
            · show _ = dquo x P (k + 1); rw [dquo, ← hX.out]
            · show _ = dquo y P (k + 1); rw [dquo, ← hY.out]
          case measure => have := Hmeas.out; simp [intOf] <;> omega
end

/- The walks of the methods of a field: Neg, Sub, Inv, Scale. -/
section
open Go.RowKit

variable {w : World} {b : Nat} {P : Int} {M q : Nat} {ex lg : List Int}

theorem GFm.drewN (h : GFm w b P M q ex lg) (n : Nat) : GFm (w.drewN n) b P M q ex lg := h.keep (below_drewN (Below.refl _ _) n)

set_option maxRecDepth 100000 in
set_option maxHeartbeats 1600000 in
theorem gfNeg_any (x : Int) (h : GFm w b P M q ex lg) (hx0 : 0 ≤ x) (hx1 : x < q) :
    Calls Tryz.prog 146 #[.pointer (some ⟨b, 0, none⟩), .int .i64 x] w (QuietInt w (fneg P M x)) := by
  have hcp := h.cp
  have hp2 := h.p2
  have hp256 := h.p256
  have hq256 := h.q256
  have HPw := Lib.hid h.pw
  go_enter Tryz.func146, Tryz.ntmps146
  go_wp2_with (go_at_call 159; (with_reducible refine (gfIn_any x h hx0 hx1).mono ?_); rintro e w' ⟨rfl, rfl⟩)
  go_loopw [1, 5, 6] (fun xv sv pv wr => ∃ (k : Nat) (X s p : Int), k ≤ M ∧ xv = .int .i64 X ∧ sv = .int .i64 s ∧ pv = .int .i64 p ∧ Hid (p = P ^ k) ∧ 1 ≤ p ∧ p ≤ 256 ∧
      0 ≤ X ∧ X ≤ 256 ∧ 0 ≤ s ∧ s < p ∧ Hid (X = dquo x P k) ∧ Hid (s + P ^ k * fneg P (M - k) X = fneg P M x) ∧ ∃ n, wr = w.drewN n)
    (fun xv _ _ _ => (intOf xv).toNat)
  case atStart =>
    exact ⟨0, x, 0, 1, by omega, rfl, rfl, rfl, by show (1 : Int) = P ^ 0; simp, by omega, by omega, hx0, by omega, by omega, by omega, rfl, by show 0 + P ^ 0 * fneg P (M - 0) x = _; simp, 0, rfl⟩
  case round =>
    obtain ⟨k, X, s, p, hkM, rfl, rfl, rfl, hp, hp1, hp2', hX0, hX1, hs0, hs1, hX, hinv, n, hwr⟩ := hrel
    have hcpr : wr.cell? ⟨b, 0, none⟩ = some (.int .i64 P) := by rw [hwr]; exact hcp
    have Hwr := Lib.hid hwr
    clear hwr
    by_cases hz : X = 0
    · subst hz
      have hfin : s = fneg P M x := by
        have := hinv.out
        rw [fneg_zero] at this
        omega
      have Hfin := Lib.hid hfin
      clear hfin
      go_wp2
      go_ret
      exact ⟨n, ret_int Hfin.out, Hwr.out⟩
    · have hkM' : k < M := by
        rcases Nat.lt_or_ge k M with h1 | h1
        · exact h1
        · exfalso
          obtain rfl : k = M := by omega
          have e1 := dquo_end P (by omega) k x hx0 (by rw [← HPw.out]; exact hx1)
          exact hz (by rw [hX.out]; exact e1)
      have hmeas : X / P < X := Int.ediv_lt_of_lt_mul (by omega) (by have := Int.mul_le_mul_of_nonneg_left hp2 hX0; omega)
      have hXd := Int.ediv_nonneg hX0 (show 0 ≤ P by omega)
      have m1 := Int.emod_nonneg X (show P ≠ 0 by omega)
      have m2 := Int.emod_lt_of_pos X (show 0 < P by omega)
      have m5 := Int.emod_nonneg (P - X % P) (show P ≠ 0 by omega)
      have m6 := Int.emod_lt_of_pos (P - X % P) (show 0 < P by omega)
      have hpp : p * P = P ^ (k + 1) := by rw [hp.out, Int.pow_succ]
      have hpM : P ^ (k + 1) ≤ 256 := by have h1 := pow_mono (show 1 ≤ P by omega) (show k + 1 ≤ M by omega); have h2 := HPw.out; omega
      have m7 : 0 ≤ (P - X % P) % P * p := Int.mul_nonneg m5 (by omega)
      have m8 : (P - X % P) % P * p + p ≤ p * P := by
        have := Int.mul_le_mul_of_nonneg_left (show (P - X % P) % P + 1 ≤ P by omega) (show 0 ≤ p by omega)
        rw [Int.mul_add] at this
        rw [Int.mul_comm _ p]
        omega
      have m9 : p * 1 ≤ p * P := Int.mul_le_mul_of_nonneg_left (by omega) (by omega)
      have hinv2 : s + (P - X % P) % P * p + P ^ (k + 1) * fneg P (M - (k + 1)) (X / P) = fneg P M x := by
        rw [← hinv.out, show M - k = (M - (k + 1)) + 1 from by omega, fneg, step_eq P s _ 0, hp.out]
      have hP0 : P ≠ 0 := by omega
      have hg : 0 < X := by omega
      obtain ⟨D, hD⟩ : ∃ D, D = (P - X % P) % P := ⟨_, rfl⟩
      rw [← hD] at m5 m6 m7 m8 hinv2
      have r1 : X.tmod P = X % P := IntWalk.rem_in _ _ hX0
      have r3 : IntKind.i64.wrap (P - X % P) = P - X % P := IntWalk.i64_in _ (by omega)
      have r4 : (P - X % P).tmod P = D := by rw [IntWalk.rem_in _ _ (by omega), hD]
      have r5 : IntKind.i64.wrap (D * p) = D * p := IntWalk.i64_in _ (by omega)
      have r6 : IntKind.i64.wrap (s + D * p) = s + D * p := IntWalk.i64_in _ (by omega)
      have hpl : p * P ≤ 256 := by rw [hpp]; exact hpM
      have Hinv2 := Lib.hid hinv2
      have Hpp := Lib.hid hpp
      have Hmeas := Lib.hid hmeas
      clear hinv2 hpp hmeas hD
      go_wp2_with fail
      go_quiet (fail)
      clear r1 r3 r4 r5 r6
      go_wp2
      go_roundw
      case rel =>
        refine ⟨k + 1, _, _, _, by omega, rfl, rfl, rfl, Hpp.out, by omega, by omega, by omega, by have := Hmeas.out; omega, by omega, by omega, ?_, Hinv2.out, exists_drewN Hwr.out _⟩
        show _ = dquo x P (k + 1); rw [dquo, ← hX.out]
      case measure => have := Hmeas.out; simp [intOf] <;> omega

def fsub (P : Int) (M : Nat) (x y : Int) : Int := fsum P M x (fneg P M y)

set_option maxHeartbeats 400000 in
theorem gfSub_any (x y : Int) (h : GFm w b P M q ex lg) (hx0 : 0 ≤ x) (hx1 : x < q) (hy0 : 0 ≤ y) (hy1 : y < q) :
    Calls Tryz.prog 170 #[.pointer (some ⟨b, 0, none⟩), .int .i64 x, .int .i64 y] w (QuietInt w (fsub P M x y)) := by
  have hn := fneg_bd (show 0 < P by have := h.p2; omega) M y
  have hn2 : fneg P M y < q := by rw [h.pw]; exact hn.2
  have hn1 := hn.1
  clear hn
  go_enter Tryz.func170, Tryz.ntmps170
  go_wp2_with fail
  refine (gfNeg_any y h hy0 hy1).mono ?_
  rintro e w1 ⟨n, rfl, rfl⟩
  go_wp2_with fail
  refine (gfAdd_any x _ (h.drewN n) hx0 hx1 hn1 hn2).mono ?_
  rintro e w1 ⟨n2, rfl, rfl⟩
  go_wp2_with fail
  go_ret
  exact ⟨_, rfl, rfl⟩

set_option maxHeartbeats 800000 in
theorem gfInv_any (x : Int) (h : GFm w b P M q ex lg) (hx0 : 0 < x) (hx1 : x < q) :
    Calls Tryz.prog 185 #[.pointer (some ⟨b, 0, none⟩), .int .i64 x] w fun e w' => ∃ n, e = .returned (.tuple #[.int .i64 (invT q ex lg x), .int .i64 0]) ∧ w' = w.drewN n := by
  obtain ⟨ae, ce, hce, hie⟩ := h.ce
  obtain ⟨al, cl, hcl, hil⟩ := h.cl
  have hcq := h.cq
  have hx' : (x == 0) = false := by rw [beq_eq_false_iff_ne]; omega
  obtain ⟨xn, rfl⟩ : ∃ n : Nat, x = n := ⟨x.toNat, by omega⟩
  have lx := h.lb xn (by omega)
  have cx := hil.cell xn (by omega)
  have hpe := hie.pl
  have hpl := hil.pl
  have hq2 := h.q2
  have hq256 := h.q256
  have hm0 := Int.emod_nonneg ((q : Int) - 1 - nth lg xn) (show (q : Int) - 1 ≠ 0 by omega)
  have hm1 := Int.emod_lt_of_pos ((q : Int) - 1 - nth lg xn) (show 0 < (q : Int) - 1 by omega)
  obtain ⟨k, hk⟩ : ∃ k : Nat, ((q : Int) - 1 - nth lg xn) % ((q : Int) - 1) = k := ⟨(((q : Int) - 1 - nth lg xn) % ((q : Int) - 1)).toNat, by omega⟩
  have hf : invT q ex lg xn = nth ex k := by
    unfold invT
    simp only [Int.toNat_natCast, hk]
  have ck := hie.cell k (by omega)
  have r2 : IntKind.i64.wrap ((q : Int) - 1) = (q : Int) - 1 := IntWalk.i64_in _ (by omega)
  have r1 : IntKind.i64.wrap ((q : Int) - 1 - nth lg xn) = (q : Int) - 1 - nth lg xn := IntWalk.i64_in _ (by omega)
  have r3 : ((q : Int) - 1 - nth lg xn).tmod ((q : Int) - 1) = k := by rw [IntWalk.rem_in _ _ (by omega), hk]
  have r4 : ¬ (q : Int) - 1 = 0 := by omega
  have r5 : (k : Int) < ((q - 1 : Nat) : Int) := by omega
  have r6 : (xn : Int) < q := by omega
  have Hf := Lib.hid hf
  clear hf hk hm0 hm1
  go_enter Tryz.func185, Tryz.ntmps185
  go_wp2_with (first | (go_at_call 159; (with_reducible refine (gfIn_any xn h (by omega) hx1).mono ?_); rintro e w' ⟨rfl, rfl⟩))
  go_quiet (fail)
  go_wp2
  go_ret2
  exact ⟨_, by rw [Hf.out]; rfl, rfl⟩

/-- a field's tables, and its operations -/
structure Tbl where
  P : Int
  M : Nat
  q : Nat
  ex : List Int
  lg : List Int
def Tbl.add (G : Tbl) (x y : Int) : Int := fsum G.P G.M x y
def Tbl.neg (G : Tbl) (x : Int) : Int := fneg G.P G.M x
def Tbl.sub (G : Tbl) (x y : Int) : Int := fsub G.P G.M x y
def Tbl.mul (G : Tbl) (x y : Int) : Int := mulT G.q G.ex G.lg x y
def Tbl.inv (G : Tbl) (x : Int) : Int := invT G.q G.ex G.lg x
/-- an element -/
def Tbl.El (G : Tbl) (x : Int) : Prop := 0 ≤ x ∧ x < G.q
def GFw (w : World) (b : Nat) (G : Tbl) : Prop := GFm w b G.P G.M G.q G.ex G.lg
theorem GFw.keep {w w' : World} {b : Nat} {G : Tbl} (h : GFw w b G) (hb : Below w.heap.size w w') : GFw w' b G := GFm.keep h hb
theorem GFw.drewN {w : World} {b : Nat} {G : Tbl} (h : GFw w b G) (n : Nat) : GFw (w.drewN n) b G := GFm.drewN h n
theorem GFw.lt {w : World} {b : Nat} {G : Tbl} (h : GFw w b G) : b < w.heap.size := GFm.lt h

variable {G : Tbl}
theorem Tbl.add_el (h : GFw w b G) (x y : Int) : G.El (G.add x y) := by
  have := fsum_bd (show 0 < G.P by have := h.p2; omega) G.M x y
  exact ⟨this.1, by rw [h.pw]; exact this.2⟩
theorem Tbl.neg_el (h : GFw w b G) (x : Int) : G.El (G.neg x) := by
  have := fneg_bd (show 0 < G.P by have := h.p2; omega) G.M x
  exact ⟨this.1, by rw [h.pw]; exact this.2⟩
theorem Tbl.sub_el (h : GFw w b G) (x y : Int) : G.El (G.sub x y) := Tbl.add_el h x _
theorem Tbl.ex_el (h : GFw w b G) (k : Int) (h0 : 0 ≤ k) (h1 : k < (G.q : Int) - 1) : G.El (nth G.ex k.toNat) := h.eb _ (by omega)
theorem Tbl.mul_el (h : GFw w b G) (x y : Int) : G.El (G.mul x y) := by
  unfold Tbl.mul mulT
  have hq := h.q2
  split
  · exact ⟨Int.le_refl _, by omega⟩
  · exact Tbl.ex_el h _ (Int.emod_nonneg _ (by omega)) (Int.emod_lt_of_pos _ (by omega))
theorem Tbl.inv_el (h : GFw w b G) (x : Int) : G.El (G.inv x) := by
  have hq := h.q2
  exact Tbl.ex_el h _ (Int.emod_nonneg _ (by omega)) (Int.emod_lt_of_pos _ (by omega))

theorem gAdd (x y : Int) (h : GFw w b G) (hx : G.El x) (hy : G.El y) :
    Calls Tryz.prog 111 #[.pointer (some ⟨b, 0, none⟩), .int .i64 x, .int .i64 y] w (QuietInt w (G.add x y)) := gfAdd_any x y h hx.1 hx.2 hy.1 hy.2
theorem gNeg (x : Int) (h : GFw w b G) (hx : G.El x) :
    Calls Tryz.prog 146 #[.pointer (some ⟨b, 0, none⟩), .int .i64 x] w (QuietInt w (G.neg x)) := gfNeg_any x h hx.1 hx.2
theorem gSub (x y : Int) (h : GFw w b G) (hx : G.El x) (hy : G.El y) :
    Calls Tryz.prog 170 #[.pointer (some ⟨b, 0, none⟩), .int .i64 x, .int .i64 y] w (QuietInt w (G.sub x y)) := gfSub_any x y h hx.1 hx.2 hy.1 hy.2
theorem gMul (x y : Int) (h : GFw w b G) (hx : G.El x) (hy : G.El y) :
    Calls Tryz.prog 112 #[.pointer (some ⟨b, 0, none⟩), .int .i64 x, .int .i64 y] w (QuietInt w (G.mul x y)) :=
  (gfMul_any x y h hx.1 hx.2 hy.1 hy.2).mono fun _ _ ⟨n, h1, h2⟩ => ⟨n, h1, h2⟩
theorem gInv (x : Int) (h : GFw w b G) (hx : G.El x) (hx0 : x ≠ 0) :
    Calls Tryz.prog 185 #[.pointer (some ⟨b, 0, none⟩), .int .i64 x] w fun e w' => ∃ n, e = .returned (.tuple #[.int .i64 (G.inv x), .int .i64 0]) ∧ w' = w.drewN n :=
  gfInv_any x h (by have := hx.1; omega) hx.2
theorem gIs (x : Int) (h : GFw w b G) :
    Calls Tryz.prog 119 #[.pointer (some ⟨b, 0, none⟩), .int .i64 x] w fun e w' => e = .returned (.bool (decide (0 ≤ x) && decide (x < G.q))) ∧ w = w' := gfIs_any x h

/-- all entries are elements -/
def Tbl.Els (G : Tbl) (l : List Int) : Prop := ∀ x ∈ l, G.El x
theorem Tbl.Els.nth {l : List Int} (h : G.Els l) {i : Nat} (hi : i < l.length) : G.El (nth l i) := h _ (nth_mem hi)

/-- a result: a new slice of ints -/
def NewInts (w : World) (l : List Int) (e : Ending) (w' : World) : Prop :=
  ∃ a c, e = .returned (.slice a l.length c) ∧ w'.ownsRow w.heap.size 3 1 (.slice a l.length c) l.length (l.map (Value.int .i64)) ∧ Below w.heap.size w w'

set_option maxHeartbeats 800000 in
theorem gScale (s : Int) (a : Option Addr) (n c : Nat) (l : List Int) (h : GFw w b G) (hs : G.El s) (hi : Ints w a n l) (hl : G.Els l) (hn : n ≤ 1000000) :
    Calls Tryz.prog 186 #[.pointer (some ⟨b, 0, none⟩), .int .i64 s, .slice a n c] w (NewInts w (l.map (G.mul s))) := by
  have hlen := hi.len
  have hpl := hi.pl
  go_enter Tryz.func186, Tryz.ntmps186
  go_wp2_with (at_make; refine wpList_mk rfl _ _ 22 3 rfl (.int .i64 0) 8 Tryz.underlying22 infoInt rfl n rfl rfl (by omega) (by unfold maxLen; omega) ?_; intro a1 w1 hown hbel hge hlt)
  go_loopw [15] (fun iv wr => ∃ k : Nat, k ≤ n ∧ iv = .int .i64 k ∧
      wr.ownsRow w.heap.size 3 1 (.slice a1 n n) n ((fillTo ((l.take k).map (G.mul s)) k n).map (Value.int .i64)) ∧ Below w.heap.size w wr)
    (fun i _ => n - (intOf i).toNat)
  case atStart => exact ⟨0, Nat.zero_le _, rfl, by simpa [fillTo] using hown, hbel⟩
  case round =>
    obtain ⟨k, hk, rfl, hown, hbel⟩ := hrel
    obtain ⟨hints, hmine⟩ := Ints.own hown
    have hpl1 := hints.pl
    by_cases hlt : k < n
    · have hc := (hi.keep hbel).cell k hlt
      have hel := hl.nth (i := k) (by omega)
      have hf := (hmine (by omega)).2 k hlt
      have hc2 := hints.cell k hlt
      have hB := (hmine (by omega)).1
      go_wp2_with fail
      refine (gMul s (nth l k) (h.keep hbel) hs hel).mono ?_
      rintro e w2 ⟨m, rfl, rfl⟩
      go_wp2_with fail
      go_roundw
      case rel =>
        refine ⟨k + 1, by omega, by go_num, ?_, (below_drewN hbel m).setCell hB _⟩
        have h := own_set (w := wr.drewN m) hown k hlt (.int .i64 (G.mul s (nth l k)))
        rw [← List.map_set, fillTo_set _ _ _ _ (by simp; omega) hlt] at h
        rw [List.take_succ_eq_append_getElem (by omega), List.map_append]
        rw [nth_getElem (by omega)] at h ⊢
        exact h
      case measure => simp [intOf] <;> omega
    · obtain rfl : k = n := by omega
      have hfin : fillTo ((l.take k).map (G.mul s)) k k = l.map (G.mul s) := by
        rw [fillTo_all, List.take_of_length_le (by omega)]
      rw [hfin] at hown
      have hl2 : (l.map (G.mul s)).length = k := by simp [hlen]
      have Hl2 := Lib.hid hl2
      clear hl2 hfin
      go_wp2_with fail
      go_ret
      exact ⟨a1, k, by rw [Hl2.out]; rfl, by rw [Hl2.out]; exact hown, hbel⟩
end

/- append of a whole slice; make and append as steps of a region that draws its order. -/
section
open Go.RowKit

theorem run_append_zero {P : Program} (w : World) (t ty e : TypeId) (i : TypeInfo) (ht : P.underlying t = some (.slice e)) (hi : P.info? e = some i) (a ao : Option Addr) (n c cs : Nat) (hn : n ≤ c) :
    (Builtin.append_ #[t, t] ty #[.slice a n c, .slice ao 0 cs]).run P w = .ok (.slice a n c) w := by
  cases a <;> cases ao <;> simp [Builtin.append_, run_underlying ht, sizeOf, typeInfo, hi, Builtin.lenOf, Builtin.firstCells, hn, storeCells, loadCells, loadCellsFrom]

theorem own_cap {w : World} {B : Nat} {e : TypeId} {a : Option Addr} {c n : Nat} {xs : List Value} (h : w.ownsRow B e 1 (.slice a n c) n xs) : n ≤ c := by
  rcases h.2 with ⟨hv, h0⟩ | ⟨g, cap, cur, hv, hg, hh, hle, _⟩
  · omega
  · cases hv; exact hle

theorem run_appAll {P : Program} {w : World} (t ty e : TypeId) (z : Value) (bytes : Nat)
    (h1 : P.underlying t = some (.slice e)) (h2 : (P.info? e).map (fun i => (i.zero, i.size, i.bytes)) = some (some z, 1, bytes)) (hz : z.cells = #[z])
    (B : Nat) (a : Option Addr) (n c : Nat) (xs : List Value) (hown : w.ownsRow B e 1 (.slice a n c) n xs)
    (ao : Option Addr) (m cc : Nat) (news : List Value) (hp : Pl ao m) (hl : news.length = m) (hc : ∀ j, j < m → w.cell? ⟨ablk ao, aoff ao + j, none⟩ = news[j]?) (h1c : ∀ u ∈ news, u.oneCell' = true)
    (b2 : (n + m) * bytes ≤ 140737488355328) (b3 : n + m ≤ maxLen) (hB : B ≤ w.heap.size) :
    ∃ a' c' w', (Builtin.append_ #[t, t] ty #[.slice a n c, .slice ao m cc]).run P w = .ok (.slice a' (n + m) c') w' ∧ w'.ownsRow B e 1 (.slice a' (n + m) c') (n + m) (xs ++ news) ∧
      w.grownBy w' (Value.slice a n c).ownBlock ∧ (∀ b, b < w.heap.size → Apt a b → Apt a' b) := by
  obtain ⟨i, hi, hz0, hz1, hz2⟩ := info_parts h2
  by_cases hm : m = 0
  · subst hm
    obtain rfl : news = [] := List.eq_nil_of_length_eq_zero hl
    exact ⟨a, c, w, run_append_zero w t ty e i h1 hi a ao n c cc (own_cap hown), by simpa using hown, World.grownBy.refl _ _, fun b _ h => h⟩
  · have hao := hp (by omega)
    obtain ⟨v', w', hr, h3, h4, _, h6⟩ := run_append_own_at (P := P) w B t ty e i z 1 bytes h1 hi hz0 hz1 hz2 (by rw [hz]; rfl) (by decide) _ n xs hown ⟨ablk ao, aoff ao, none⟩ m cc news (by omega)
      (fun j u hu => by
        have hj := (List.getElem?_eq_some_iff.1 hu).1
        rw [Addr.add_lit, hc j (by omega)]; exact hu) h1c b3 b2 hB
    obtain ⟨a', c', rfl, _⟩ := Pl.own h3
    refine ⟨a', c', w', by rw [hao]; exact hr, h3, h4, fun b hb hapt => ?_⟩
    have h := hapt.own n c
    rcases h6 with h6 | h6
    · exact Apt.of_own (n := n + m) (c := c') (by rw [h6]; exact h)
    · exact Apt.of_own (n := n + m) (c := c') (by rw [h6]; intro h7; cases h7; omega)

/-- 'append(out, xs...)' -/
theorem wpList_appAll {P : Program} {w : World} {ops : Array Oper} {rest : List Oper} {o : Oper} {ac : Act} {Q : Exit → Act → World → Prop}
    (hg : o.guard = none) (s x : Operand) (t e : TypeId) (hop : o.op = .call { callee := .builtin .append, args := #[s, x], argTypes := #[t, t] }) (z : Value) (bytes : Nat)
    (h1 : P.underlying t = some (.slice e)) (h2 : (P.info? e).map (fun i => (i.zero, i.size, i.bytes)) = some (some z, 1, bytes)) (hz : z.cells = #[z])
    (B : Nat) (a : Option Addr) (n c : Nat) (xs : List Value) (hs : ac.eval s = .slice a n c) (hown : w.ownsRow B e 1 (.slice a n c) n xs)
    (ao : Option Addr) (m cc : Nat) (news : List Value) (hx : ac.eval x = .slice ao m cc) (hp : Pl ao m) (hl : news.length = m) (hc : ∀ j, j < m → w.cell? ⟨ablk ao, aoff ao + j, none⟩ = news[j]?) (h1c : ∀ u ∈ news, u.oneCell' = true)
    (b2 : (n + m) * bytes ≤ 140737488355328) (b3 : n + m ≤ maxLen) (hB : B ≤ w.heap.size)
    (hK : ∀ a' c' w', w'.ownsRow B e 1 (.slice a' (n + m) c') (n + m) (xs ++ news) → w.grownBy w' (Value.slice a n c).ownBlock → (∀ b, b < w.heap.size → Apt a b → Apt a' b) → wpList P ops Q rest (ac.put o.dst (.slice a' (n + m) c')) w') :
    wpList P ops Q (o :: rest) ac w := by
  refine wpList_plain hg fun K hK' => ?_
  obtain ⟨a', c', w', hr, h3, h4, h5⟩ := run_appAll (P := P) t o.type e z bytes h1 h2 hz B a n c xs hown ao m cc news hp hl hc h1c b2 b3 hB
  unfold Oper.wp execOp
  simp only [hop, resolve, invoke, builtin, Sem.run_bind, Sem.run_pure, Result.andThen_ok, List.map_toArray, List.map_cons, List.map_nil, hs, hx, hr]
  exact hK' _ _ (hK a' c' w' h3 h4 h5)

theorem step_appAll {P : Program} {w : World} {ops : Array Oper} {o : Oper} {ac : Act} {K : Act → World → Prop} {Q : Exit → Act → World → Prop} {E : Prop}
    (hg : o.guard = none) (s x : Operand) (t e : TypeId) (hop : o.op = .call { callee := .builtin .append, args := #[s, x], argTypes := #[t, t] }) (z : Value) (bytes : Nat)
    (h1 : P.underlying t = some (.slice e)) (h2 : (P.info? e).map (fun i => (i.zero, i.size, i.bytes)) = some (some z, 1, bytes)) (hz : z.cells = #[z])
    (B : Nat) (a : Option Addr) (n c : Nat) (xs : List Value) (hs : ac.eval s = .slice a n c) (hown : w.ownsRow B e 1 (.slice a n c) n xs)
    (ao : Option Addr) (m cc : Nat) (news : List Value) (hx : ac.eval x = .slice ao m cc) (hp : Pl ao m) (hl : news.length = m) (hc : ∀ j, j < m → w.cell? ⟨ablk ao, aoff ao + j, none⟩ = news[j]?) (h1c : ∀ u ∈ news, u.oneCell' = true)
    (b2 : (n + m) * bytes ≤ 140737488355328) (b3 : n + m ≤ maxLen) (hB : B ≤ w.heap.size)
    (hK : ∀ a' c' w', w'.ownsRow B e 1 (.slice a' (n + m) c') (n + m) (xs ++ news) → w.grownBy w' (Value.slice a n c).ownBlock → (∀ b, b < w.heap.size → Apt a b → Apt a' b) → K (ac.put o.dst (.slice a' (n + m) c')) w') :
    if Region.wanted o (yielded ops ac.tmps) = true then Oper.wp P o ac w K Q else E := by
  have hw : Region.wanted o (yielded ops ac.tmps) = true := by simp [Region.wanted, hg]
  rw [if_pos hw]
  obtain ⟨a', c', w', hr, h3, h4, h5⟩ := run_appAll (P := P) t o.type e z bytes h1 h2 hz B a n c xs hown ao m cc news hp hl hc h1c b2 b3 hB
  unfold Oper.wp execOp
  simp only [hop, resolve, invoke, builtin, Sem.run_bind, Sem.run_pure, Result.andThen_ok, List.map_toArray, List.map_cons, List.map_nil, hs, hx, hr]
  exact hK a' c' w' h3 h4 h5

/-- 'make([]T, n)', the run itself -/
theorem run_mk {P : Program} (t e : TypeId) (z : Value) (bytes : Nat) (h1 : P.underlying t = some (.slice e)) (h2 : (P.info? e).map (fun i => (i.zero, i.size, i.bytes)) = some (some z, 1, bytes)) (hz : z.cells = #[z])
    (n : Nat) (b2 : bytes * n ≤ 281474976710656) (b3 : n ≤ 9223372036854775807) (w : World) :
    (Instr.makeSlice t (.int .i64 n) (.int .i64 n)).run P w = .ok (.slice (some ⟨w.heap.size, 0, none⟩) n n) (w.alloc (.cells (List.replicate n z).toArray e)) := by
  obtain ⟨i, hi, hz0, hz1, hz2⟩ := info_parts h2
  have h := run_make (P := P) w t e i z h1 hi hz0 .i64 .i64 n n (by omega) (Int.le_refl _) (by rw [hz2]; omega) (by omega)
  rw [hz1, Nat.mul_one, hz, Int.toNat_natCast] at h
  rw [h]
  congr 3
  rw [← toList_madeCells_one]

theorem own_mk (w : World) (e : TypeId) (z : Value) (n : Nat) {B : Nat} (hB : B ≤ w.heap.size) (hn : n ≤ maxLen) :
    (w.alloc (.cells (List.replicate n z).toArray e)).ownsRow B e 1 (.slice (some ⟨w.heap.size, 0, none⟩) n n) n (List.replicate n z) := by
  simpa using World.ownsRow_lit w (List.replicate n z).toArray n hB hn (by simp)

theorem Ints.news {w : World} {a : Option Addr} {n : Nat} {l : List Int} (h : Ints w a n l) : ∀ j, j < n → w.cell? ⟨ablk a, aoff a + j, none⟩ = (l.map (Value.int .i64))[j]? := by
  intro j hj
  rw [h.cell j hj, List.getElem?_map, List.getElem?_eq_getElem (by rw [h.len]; exact hj), nth_getElem (by rw [h.len]; exact hj)]
  rfl

theorem Below.allocN {w0 w : World} (h : Below w0.heap.size w0 w) (o : Obj) : Below w0.heap.size w0 (w.alloc o) := h.alloc h.size o
/-- an empty row that has just been made -/
theorem own_emp (w : World) (e : TypeId) : (w.alloc (.cells #[] e)).ownsRow w.heap.size e 1 (.slice (some ⟨w.heap.size, 0, none⟩) 0 0) 0 [] :=
  World.ownsRow_made w #[] 0 (Nat.le_refl _) (Nat.zero_le _) rfl

theorem cell_alloc_at (w : World) (cs : Array Value) (e : TypeId) {g : Nat} (hg : g = w.heap.size) (i : Nat) : (w.alloc (.cells cs e)).cell? ⟨g, i, none⟩ = cs[i]? := by
  subst hg; exact World.cell?_alloc_new ..
theorem own_mkArr (w : World) (e : TypeId) (z : Value) (n : Nat) {B g : Nat} (hg : g = w.heap.size) (hB : B ≤ w.heap.size) (hn : n ≤ maxLen) :
    (w.alloc (.cells (Array.replicate n z) e)).ownsRow B e 1 (.slice (some ⟨g, 0, none⟩) n n) n (List.replicate n z) := by
  subst hg; simpa using own_mk w e z n hB hn

theorem grown_undrew {w w' : World} {row : Option Nat} (h : w.drew.grownBy w' row) : w.grownBy w' row := ⟨h.os, h.tape, h.output, h.size, h.block⟩
end

/- The walk of field.New. -/
section
open Go.RowKit

def logTo (q : Nat) (ex : List Int) : Nat → List Int
  | 0 => List.replicate q 0
  | k + 1 => (logTo q ex k).set (nth ex k).toNat k
theorem logTo_length (q : Nat) (ex : List Int) : ∀ k, (logTo q ex k).length = q
  | 0 => by simp [logTo]
  | k + 1 => by simp [logTo, logTo_length q ex k]
theorem logTo_bd (q : Nat) (ex : List Int) (hq : 2 ≤ q) : ∀ k, k ≤ q - 1 → ∀ i, 0 ≤ nth (logTo q ex k) i ∧ nth (logTo q ex k) i < (q : Int) - 1
  | 0, _, i => by
    have : nth (logTo q ex 0) i = 0 := by
      simp only [logTo, nth, List.getD_eq_getElem?_getD, List.getElem?_replicate]; split <;> rfl
    omega
  | k + 1, hk, i => by
    have ih := logTo_bd q ex hq k (by omega) i
    by_cases h : (nth ex k).toNat < q
    · rw [logTo, nth_set _ _ _ _ (by rw [logTo_length]; exact h)]
      split <;> omega
    · rw [logTo, List.set_eq_of_length_le (by rw [logTo_length]; omega)]
      exact ih

theorem genTo_spec (P : Int) (M : Nat) (mod : List Int) (q : Nat) : ∀ (n x : Nat), genTo P M mod q n x ≠ [] → ∃ y : Nat, x ≤ y ∧ y < x + n ∧ isGen P M mod q y = true ∧ genTo P M mod q n x = powS P M mod q y
  | 0, x, h => absurd rfl h
  | n + 1, x, h => by
    rw [genTo] at h ⊢
    by_cases hg : isGen P M mod q x = true
    · rw [if_pos hg]
      exact ⟨x, Nat.le_refl _, by omega, hg, rfl⟩
    · rw [if_neg hg] at h ⊢
      obtain ⟨y, h1, h2, h3, h4⟩ := genTo_spec P M mod q n (x + 1) h
      exact ⟨y, by omega, by omega, h3, h4⟩
theorem genS_spec {P : Int} {M : Nat} {mod : List Int} {q : Nat} (h : genS P M mod q ≠ []) : ∃ y : Nat, 1 ≤ y ∧ y < q ∧ isGen P M mod q y = true ∧ genS P M mod q = powS P M mod q y := by
  obtain ⟨y, h1, h2, h3, h4⟩ := genTo_spec P M mod q (q - 1) 1 h
  exact ⟨y, h1, by omega, h3, h4⟩

/-- the tables of the field that a description means -/
def tblOf (P : Int) (M : Nat) (mod : List Int) : Tbl :=
  { P := P, M := M, q := (orderS P M).toNat, ex := genS P M mod (orderS P M).toNat, lg := logTo (orderS P M).toNat (genS P M mod (orderS P M).toNat) ((orderS P M).toNat - 1) }

theorem shapeB_mn {w : World} {P M : Int} {am : Option Addr} {mn : Nat} {mod : List Int} (hm : Ints w am mn mod) (h : shapeB P M mod = true) : mn ≤ 8 := by
  simp only [shapeB, Bool.and_eq_true, bne_iff_ne, ne_eq] at h
  obtain ⟨⟨h0, h1⟩, h2⟩ := h
  obtain ⟨b1, b2, b3, b4, b5, b6⟩ := orderS_ne h0
  have hl := hm.len
  by_cases hM : M = 1
  · rw [if_pos hM] at h2
    have h3 : mod.length = 0 := by simpa using h2
    omega
  · rw [if_neg hM] at h2
    simp only [Bool.and_eq_true, decide_eq_true_eq] at h2
    omega

/-- a field in memory that stays as long as the blocks from B on stay -/
def GFs (B : Nat) (w : World) (b : Nat) (G : Tbl) : Prop := ∀ V : World, (∀ k, B ≤ k → k < w.heap.size → V.heap[k]? = w.heap[k]?) → GFw V b G
theorem GFs.gf {B : Nat} {w : World} {b : Nat} {G : Tbl} (h : GFs B w b G) : GFw w b G := h w fun _ _ _ => rfl
theorem GFs.mono {B B' : Nat} {w : World} {b : Nat} {G : Tbl} (h : GFs B w b G) (hB : B' ≤ B) : GFs B' w b G := fun V hV => h V fun k h1 h2 => hV k (Nat.le_trans hB h1) h2
theorem GFs.keep {B : Nat} {w w' : World} {b : Nat} {G : Tbl} (h : GFs B w b G) (hb : Below w.heap.size w w') : GFs B w' b G := fun V hV => h V fun k h1 h2 => (hV k h1 (Nat.lt_of_lt_of_le h2 hb.size)).trans (hb.block k h2)
theorem GFs.setCell {B : Nat} {w : World} {b : Nat} {G : Tbl} (h : GFs B w b G) {p : Addr} (hp : p.block < B) (v : Value) : GFs B (w.setCell p v) b G := fun V hV => h V fun k h1 h2 =>
  (hV k h1 (by have := ((Below.refl 0 w).setCell (p := p) (Nat.zero_le _) v).size; omega)).trans (Below.heap_setCell _ _ _ _ (by omega))

def NewPost (P M : Int) (mod : List Int) (w : World) (e : Ending) (w' : World) : Prop :=
  (fieldB P M mod = false ∧ e = .returned (.tuple #[.pointer none, .int .i64 1]) ∧ Below w.heap.size w w') ∨
  (fieldB P M mod = true ∧ ∃ b, e = .returned (.tuple #[.pointer (some ⟨b, 0, none⟩), .int .i64 0]) ∧ GFs w.heap.size w' b (tblOf P M.toNat mod) ∧ w.heap.size ≤ b ∧ Below w.heap.size w w')

set_option maxRecDepth 100000 in
set_option maxHeartbeats 1600000 in
theorem fieldNew_any (P M : Int) (am : Option Addr) (mn cm : Nat) (mod : List Int) (w : World) (hmod : Ints w am mn mod) :
    Calls Tryz.prog 105 #[.agg #[.int .i64 P, .int .i64 M, .slice am mn cm]] w (NewPost P M mod w) := by
  have hbox : ∀ w' : World, Below (w.heap.size + 1) (w.alloc (.cells #[.int .i64 P, .int .i64 M, .slice am mn cm] 24)) w' →
      w'.cell? ⟨w.heap.size, 0, none⟩ = some (.int .i64 P) ∧ w'.cell? ⟨w.heap.size, 1, none⟩ = some (.int .i64 M) ∧ w'.cell? ⟨w.heap.size, 2, none⟩ = some (.slice am mn cm) ∧ Below w.heap.size w w' := by
    intro w' h
    refine ⟨(h.cell (by simp)).trans (by simp), (h.cell (by simp)).trans (by simp), (h.cell (by simp)).trans (by simp), ((Below.refl _ _).alloc (Nat.le_refl _) _).trans (h.mono (by omega))⟩
  have Hbox := Lib.hid hbox
  clear hbox
  go_enter Tryz.func105, Tryz.ntmps105
  go_wp2_with fail
  generalize hW0 : w.alloc (.cells #[.int .i64 P, .int .i64 M, .slice am mn cm] 24) = W0 at *
  have hW0s : W0.heap.size = w.heap.size + 1 := by rw [← hW0]; simp
  obtain ⟨q0, q1, q2, hbw⟩ := Hbox.out W0 (Below.refl _ _)
  clear hW0
  refine (shape_any P M am mn cm mod W0 (hmod.keep hbw)).mono ?_
  rintro e w1 ⟨rfl, hb1⟩
  have hB1 : Below (w.heap.size + 1) W0 w1 := hb1.mono (by omega)
  obtain ⟨q0, q1, q2, hbw⟩ := Hbox.out w1 hB1
  by_cases hs : shapeB P M mod = true
  case neg =>
    have hs' : shapeB P M mod = false := by simpa using hs
    have Hf := Lib.hid (show fieldB P M mod = false by simp [fieldB, hs'])
    clear hs
    go_wp2_with fail
    go_ret2
    exact .inl ⟨Hf.out, rfl, hbw⟩
  have hmn := shapeB_mn hmod hs
  obtain ⟨m, rfl, hd, ho, hq⟩ := shapeB_desc hmod hs
  go_wp2_with fail
  refine (order_any _ _ _).mono ?_
  rintro e w2 ⟨rfl, rfl⟩
  have hoq : orderS P m = ((orderS P m).toNat : Int) := by rw [hq, ho]
  have hfB : fieldB P m mod = !(genS P m mod (orderS P m).toNat).isEmpty := by simp [fieldB, hs]
  have hT : tblOf P ((m : Int).toNat) mod = { P := P, M := m, q := (orderS P m).toNat, ex := genS P m mod (orderS P m).toNat, lg := logTo (orderS P m).toNat (genS P m mod (orderS P m).toNat) ((orderS P m).toNat - 1) } := rfl
  have HT := Lib.hid hT
  have HfB := Lib.hid hfB
  rw [hoq]
  generalize (orderS P m).toNat = q at *
  have Hq := Lib.hid hq
  clear hoq hfB ho hT hq hs
  go_wp2_with fail
  refine (generator_any P m am mn cm mod q w1 (hd.keep hbw) Hq.out).mono ?_
  rintro e w2 ⟨a2, c2, rfl, hown2, hnil2, hb2⟩
  have hin2 := GenPost.isNone hown2 hnil2
  have hB2 : Below (w.heap.size + 1) W0 w2 := hB1.trans (hb2.mono (by have := hB1.size; omega))
  obtain ⟨r0, r1, r2, hbw2⟩ := Hbox.out w2 hB2
  have heq := fun (w : World) (a : Option Addr) (l c : Nat) => Go.run_eql_slice_nil (P := Tryz.prog) w 22 3 a l c Tryz.underlying22
  by_cases hge : genS P m mod q = []
  · have hf : fieldB P m mod = false := by rw [HfB.out, hge]; rfl
    rw [hge] at hin2
    have hin3 : a2.isNone = true := hin2
    have Hf := Lib.hid hf
    clear hf hge hin2
    go_wp2_with fail
    go_ret2
    exact .inl ⟨Hf.out, rfl, hbw2⟩
  · have hin3 : a2.isNone = false := by
      rw [hin2]; cases h : genS P m mod q with
      | nil => exact absurd h hge
      | cons x l => rfl
    obtain ⟨y, hy1, hy2, hgy, hpy⟩ := genS_spec hge
    have hP0 : 0 < P := by have := hd.p2; omega
    have hq2 : 2 ≤ q := by omega
    have hq256 : q ≤ 256 := by have := hd.pw; have := Hq.out; omega
    have hlen : (genS P m mod q).length = q - 1 := by
      rw [hpy]
      simp only [isGen, Bool.and_eq_true, beq_iff_eq] at hgy
      exact hgy.1
    have hexb : ∀ i, 0 ≤ nth (genS P m mod q) i ∧ nth (genS P m mod q) i < q := by
      intro i
      rw [hpy]
      exact powS_nth_bd hP0 m mod q y Hq.out hq2 (by omega) (by omega) i
    have hf : fieldB P m mod = true := by
      rw [HfB.out]; cases h : genS P m mod q with
      | nil => exact absurd h hge
      | cons x l => rfl
    have Hf := Lib.hid hf
    have Hexb := Lib.hid hexb
    rw [hlen] at hown2
    rw [hlen]
    have HLn := Lib.hid hlen
    have hi2 := (Ints.own hown2).1
    have hmod2 := hmod.keep hbw2
    clear hin2 hge hf hexb hlen hpy hgy hnil2
    generalize genS P m mod q = ex at *
    have hmk := run_mk (P := Tryz.prog) 22 3 (.int .i64 0) 8 Tryz.underlying22 infoInt rfl q (by omega) (by omega)
    go_upto_region 7 with fail
    go_cut [6] (fun v wx => ∃ (gb : Nat) (al : Option Addr), v = .pointer (some ⟨gb, 0, none⟩) ∧ w2.heap.size ≤ gb ∧ w2.heap.size ≤ ablk al ∧ ablk al ≠ gb ∧
      wx.cell? ⟨gb, 0, none⟩ = some (.int .i64 P) ∧ wx.cell? ⟨gb, 3, none⟩ = some (.int .i64 q) ∧ wx.cell? ⟨gb, 4, none⟩ = some (.slice a2 (q - 1) c2) ∧ wx.cell? ⟨gb, 5, none⟩ = some (.slice al q q) ∧
      wx.ownsRow w2.heap.size 3 1 (.slice al q q) q (List.replicate q (.int .i64 0)) ∧ Below w2.heap.size w2 wx)
    case first =>
      have hO := own_emp w2 3
      have hO2 : ((w2.alloc (.cells (Array.replicate q (.int .i64 0)) 3)).alloc (.cells #[] 3)).ownsRow w2.heap.size 3 1 (.slice (some ⟨w2.heap.size + 1, 0, none⟩) 0 0) 0 [] := by
        have h := own_mono (own_emp (w2.alloc (.cells (Array.replicate q (.int .i64 0)) 3)) 3) (B' := w2.heap.size) (by simp)
        rwa [World.size_alloc] at h
      have hS : ∀ W, Below w2.heap.size w2 W → W.cell? ⟨w.heap.size, 0, none⟩ = some (.int .i64 P) ∧ W.cell? ⟨w.heap.size, 1, none⟩ = some (.int .i64 m) ∧ W.cell? ⟨w.heap.size, 2, none⟩ = some (.slice am mn cm) ∧ Ints W am mn mod ∧ Below w2.heap.size w2 W :=
        fun W hb => ⟨cell_keep hb r0, cell_keep hb r1, cell_keep hb r2, hmod2.keep hb, hb⟩
      have HS := Lib.hid hS
      clear hS
      go_region_held3 (fun w' => w'.cell? ⟨w.heap.size, 0, none⟩ = some (.int .i64 P) ∧ w'.cell? ⟨w.heap.size, 1, none⟩ = some (.int .i64 m) ∧ w'.cell? ⟨w.heap.size, 2, none⟩ = some (.slice am mn cm) ∧ Ints w' am mn mod ∧ Below w2.heap.size w2 w')
        ((refine HS.out _ ?_; first | exact (Below.refl _ _).drew | exact ((Below.refl _ _).alloc (Nat.le_refl _) _).drew | exact hbA3 | (go_split_ands; exact Below.allocN (by assumption) _)))
        (first | (obtain ⟨_, _, _, hI9, hB9⟩ := (by assumption : _ ∧ _ ∧ _ ∧ Ints _ am mn mod ∧ Below w2.heap.size w2 _); refine step_appAll (by rfl) (.tmp 26) (.tmp 28) 22 3 (by rfl) (.int .i64 0) 8 Tryz.underlying22 infoInt (by rfl) w2.heap.size _ 0 0 [] (by rfl) (by first | exact hO | exact hO.alloc _ | exact hO2) am mn cm (mod.map (Value.int .i64)) (by rfl) hmod2.pl (by simp [hmod2.len]) (Ints.news hI9) (ints_oneCell _ _) (by omega) (by unfold maxLen; omega) (Below.size hB9) ?_; intro a3 c3 w3 hown3 hgr3 hap3; have hbA3 : Below w2.heap.size w2 w3 := Below.app (B := w2.heap.size) (e := 3) (xs := []) hB9 (by first | exact hO | exact hO.alloc _ | exact hO2) hgr3 (Nat.le_refl _) (Below.size hB9)))
      all_goals (go_step; go_step; go_meet)
      · have hsz := hbA3.size
        refine ⟨w3.heap.size + 1, some ⟨w3.heap.size, 0, none⟩, rfl, by omega, hsz, by simp, cell_alloc_at _ _ _ (by simp) 0, cell_alloc_at _ _ _ (by simp) 3, cell_alloc_at _ _ _ (by simp) 4, cell_alloc_at _ _ _ (by simp) 5, ?_, Below.allocN (Below.allocN hbA3 _) _⟩
        exact World.ownsRow.alloc (own_mkArr w3 3 (.int .i64 0) q rfl hsz (by unfold maxLen; omega)) _
      · have hsz := hbA3.size
        have hsz2 := hgr3.size
        simp at hsz2
        refine ⟨w3.heap.size, some ⟨w2.heap.size + 1, 0, none⟩, rfl, hsz, by simp, by simp; omega, cell_alloc_at _ _ _ rfl 0, cell_alloc_at _ _ _ rfl 3, cell_alloc_at _ _ _ rfl 4, cell_alloc_at _ _ _ rfl 5, ?_, Below.allocN hbA3 _⟩
        exact World.ownsRow.alloc (own_grownApt (own_mkArr (w2.alloc (.cells #[] 3)) 3 (.int .i64 0) q (by simp) (by simp) (by unfold maxLen; omega)) (grown_undrew hgr3) (.inr (by simp))) _
      · have hsz := hbA3.size
        have hsz2 := hgr3.size
        simp at hsz2
        refine ⟨w3.heap.size, some ⟨w2.heap.size, 0, none⟩, rfl, hsz, by simp, by simp; omega, cell_alloc_at _ _ _ rfl 0, cell_alloc_at _ _ _ rfl 3, cell_alloc_at _ _ _ rfl 4, cell_alloc_at _ _ _ rfl 5, ?_, Below.allocN hbA3 _⟩
        exact World.ownsRow.alloc (own_grownApt ((own_mkArr w2 3 (.int .i64 0) q rfl (Nat.le_refl _) (by unfold maxLen; omega)).alloc _) (grown_undrew hgr3) (.inr (by simp))) _
    obtain ⟨gb, al, rfl, hgb, hal, hne, g0, g3, g4, g5, hownL, hbc⟩ := hcut
    have hi2c := hi2.keep hbc
    have hpe := hi2.pl
    have HLt : Hid (List.replicate q (Value.int .i64 0) = (logTo q ex 0).map (Value.int .i64)) := by show _ = _; simp [logTo]
    go_wp2_with fail
    go_loopw [39] (fun iv wr => ∃ k : Nat, k ≤ q - 1 ∧ iv = .int .i64 k ∧ wr.ownsRow w2.heap.size 3 1 (.slice al q q) q ((logTo q ex k).map (Value.int .i64)) ∧
        (∀ b, b ≠ ablk al → b < wc.heap.size → wr.heap[b]? = wc.heap[b]?) ∧ Below w2.heap.size w2 wr)
      (fun iv _ => q - (intOf iv).toNat)
    case atStart => exact ⟨0, Nat.zero_le _, rfl, by rw [← HLt.out]; exact hownL, fun _ _ _ => rfl, hbc⟩
    case round =>
      obtain ⟨k, hk, rfl, hownL, hsame, hbr⟩ := hrel
      have HS := Lib.hid hsame
      have hgl : gb < wc.heap.size := World.block_lt_of_cell? wc _ g0
      have hblk := hsame gb (fun h => hne h.symm) hgl
      have g0r : wr.cell? ⟨gb, 0, none⟩ = some (.int .i64 P) := (World.cell?_of_block (w := wc) hblk).trans g0
      have g3r : wr.cell? ⟨gb, 3, none⟩ = some (.int .i64 q) := (World.cell?_of_block (w := wc) hblk).trans g3
      have g4r : wr.cell? ⟨gb, 4, none⟩ = some (.slice a2 (q - 1) c2) := (World.cell?_of_block (w := wc) hblk).trans g4
      have g5r : wr.cell? ⟨gb, 5, none⟩ = some (.slice al q q) := (World.cell?_of_block (w := wc) hblk).trans g5
      have hi2r := hi2.keep hbr
      obtain ⟨hiL, hmL⟩ := Ints.own hownL
      have hpL := hiL.pl
      clear hsame hblk
      by_cases hlt : k < q - 1
      · have ck := hi2r.cell k hlt
        have hb := Hexb.out k
        obtain ⟨xn, hxn⟩ : ∃ xn : Nat, nth ex k = xn := ⟨(nth ex k).toNat, by omega⟩
        have hnx : logTo q ex (k + 1) = (logTo q ex k).set xn k := by rw [logTo, hxn]; rfl
        rw [hxn] at ck hb
        have cL := hiL.cell xn (by omega)
        have fL := (hmL (by omega)).2 xn (by omega)
        have BL := (hmL (by omega)).1
        have Hnx := Lib.hid hnx
        clear hnx hxn
        go_wp2_with fail
        go_roundw
        case rel =>
          refine ⟨k + 1, by omega, by go_num, ?_, fun b hb hl => ?_, hbr.setCell BL _⟩
          · rw [Hnx.out, List.map_set]; exact own_set hownL xn (by omega) _
          · rw [Below.heap_setCell _ _ _ _ hb]; exact HS.out b hb hl
        case measure => simp [intOf] <;> omega
      · obtain rfl : k = q - 1 := by omega
        go_wp2_with fail
        go_ret2
        refine .inr ⟨Hf.out, gb, rfl, ?_, by have := hbw2.size; omega, Below.next hbw2 hbr⟩
        rw [HT.out]
        intro V hV
        have hB := hbw2.size
        have hB2 := hb2.size
        have hB1 := hbw.size
        have cV : ∀ i v, wr.cell? ⟨gb, i, none⟩ = some v → V.cell? ⟨gb, i, none⟩ = some v := fun i v hv => (World.cell?_of_block (w := wr) (a := ⟨gb, i, none⟩) (hV gb (by omega) (World.block_lt_of_cell? wr _ g0r))).trans hv
        refine ⟨hd.p2, hd.m1, hd.m8, Hq.out, hd.p256, hq2, hq256, cV _ _ g0r, cV _ _ g3r, ⟨a2, c2, cV _ _ g4r, ?_⟩, ⟨al, q, cV _ _ g5r, ?_⟩, fun i _ => Hexb.out i, fun i _ => logTo_bd q ex hq2 _ (Nat.le_refl _) i⟩
        · refine hi2r.of_block fun hn => hV _ ?_ (hi2r.lt hn)
          have := (own_lt_pos hown2 hn).1
          omega
        · refine hiL.of_block fun hn => hV _ ?_ (hiL.lt hn)
          have := (own_lt_pos hownL hn).1
          omega
end

end Go.Proofs.YtcflcogbpnmjeaaGreat
