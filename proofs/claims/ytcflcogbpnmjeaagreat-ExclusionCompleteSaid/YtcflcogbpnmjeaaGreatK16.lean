/- The reference's product is the program's. -/
import Derived.Test.YtcflcogbpnmjeaaGreatK14
import Derived.Test.YtcflcogbpnmjeaaGreatK15
import Derived.Test.YtcflcogbpnmjeaaGreatK12
import Derived.Test.YtcflcogbpnmjeaaGreatK9
import Derived.Laws.Bits64
import Derived.Laws.Bits64b
import Derived.Test.YtcflcogbpnmjeaaGreatK8
namespace Go.Proofs.YtcflcogbpnmjeaaGreat
set_option linter.unusedVariables false
set_option linter.unusedSimpArgs false
set_option linter.unusedSectionVars false

/- The tables of all descriptions of fields. -/
section
theorem tab5_2_0 : chkC 5 2 25 cert5_2 0 25 = true := by decide +kernel
theorem tab5_2 : chkAll 5 2 25 cert5_2 := chkAll_add (chkAll_nil 5 2 25 cert5_2) tab5_2_0
theorem tab5_3_0 : chkC 5 3 125 cert5_3 0 32 = true := by decide +kernel
theorem tab5_3_32 : chkC 5 3 125 cert5_3 32 32 = true := by decide +kernel
theorem tab5_3_64 : chkC 5 3 125 cert5_3 64 32 = true := by decide +kernel
theorem tab5_3_96 : chkC 5 3 125 cert5_3 96 29 = true := by decide +kernel
theorem tab5_3 : chkAll 5 3 125 cert5_3 := chkAll_add (chkAll_add (chkAll_add (chkAll_add (chkAll_nil 5 3 125 cert5_3) tab5_3_0) tab5_3_32) tab5_3_64) tab5_3_96
theorem tab7_2_0 : chkC 7 2 49 cert7_2 0 49 = true := by decide +kernel
theorem tab7_2 : chkAll 7 2 49 cert7_2 := chkAll_add (chkAll_nil 7 2 49 cert7_2) tab7_2_0
theorem tab11_2_0 : chkC 11 2 121 cert11_2 0 32 = true := by decide +kernel
theorem tab11_2_32 : chkC 11 2 121 cert11_2 32 32 = true := by decide +kernel
theorem tab11_2_64 : chkC 11 2 121 cert11_2 64 32 = true := by decide +kernel
theorem tab11_2_96 : chkC 11 2 121 cert11_2 96 25 = true := by decide +kernel
theorem tab11_2 : chkAll 11 2 121 cert11_2 := chkAll_add (chkAll_add (chkAll_add (chkAll_add (chkAll_nil 11 2 121 cert11_2) tab11_2_0) tab11_2_32) tab11_2_64) tab11_2_96
theorem tab13_2_0 : chkC 13 2 169 cert13_2 0 32 = true := by decide +kernel
theorem tab13_2_32 : chkC 13 2 169 cert13_2 32 32 = true := by decide +kernel
theorem tab13_2_64 : chkC 13 2 169 cert13_2 64 32 = true := by decide +kernel
theorem tab13_2_96 : chkC 13 2 169 cert13_2 96 32 = true := by decide +kernel
theorem tab13_2_128 : chkC 13 2 169 cert13_2 128 32 = true := by decide +kernel
theorem tab13_2_160 : chkC 13 2 169 cert13_2 160 9 = true := by decide +kernel
theorem tab13_2 : chkAll 13 2 169 cert13_2 := chkAll_add (chkAll_add (chkAll_add (chkAll_add (chkAll_add (chkAll_add (chkAll_nil 13 2 169 cert13_2) tab13_2_0) tab13_2_32) tab13_2_64) tab13_2_96) tab13_2_128) tab13_2_160

/-- the fields of prime order -/
def chkP (c : Nat × Nat) : Bool := ordOk (mulS c.1 1 []) c.1 c.2 && decide (0 < c.2) && decide (c.2 < c.1)
theorem tabP : roots.all chkP = true := by decide +kernel
theorem rootsAll : ((List.range 257).all fun p => p < 2 || !primeB p || roots.any fun c => c.1 == p) = true := by decide +kernel
end

/- The walk of the reference of layer 4: Check. -/
section
open Go.RowKit

/-- what the reference takes for a field -/
def fieldRB (P M : Int) (mod : List Int) : Bool := shapeB P M mod && (M == 1 || irrB P mod)

theorem shapeB_no0 {P M : Int} {mod : List Int} (h : orderS P M = 0) : shapeB P M mod = false := by simp [shapeB, h]
theorem shapeB_noP {P M : Int} {mod : List Int} (h : primeB P.toNat = false) : shapeB P M mod = false := by simp [shapeB, h]

set_option maxRecDepth 100000 in
set_option maxHeartbeats 4000000 in
theorem rFieldCheck_any (P M : Int) (am : Option Addr) (mn cm : Nat) (mod : List Int) (w : World) (hmod : Ints w am mn mod) :
    Calls Tryz.prog 89 #[.agg #[.int .i64 P, .int .i64 M, .slice am mn cm]] w fun e w' => e = .returned (.int .i64 (errField (fieldRB P M mod))) ∧ Below w.heap.size w w' := by
  have Hml := Lib.hid hmod.len
  have hplm := hmod.pl
  have hmax := hmod.max
  unfold maxLen at hmax
  go_enter Tryz.func89, Tryz.ntmps89
  go_wp2_with fail
  obtain ⟨W, hW⟩ : ∃ W : World, W = w.alloc (.cells #[.int .i64 P, .int .i64 M, .slice am mn cm] 24) := ⟨_, rfl⟩
  rw [← hW]
  have hbW : Below w.heap.size w W := by rw [hW]; exact below1 _ _
  have x0 : Box W w.heap.size [.int .i64 P, .int .i64 M, .slice am mn cm] := by rw [hW]; exact Box.new _ _ _ rfl
  have HX := Lib.hid x0
  clear hW x0
  refine (rOrder_any P M am mn cm W).mono ?_
  rintro e w1 ⟨rfl, hb1⟩
  have hbw1 := Below.next hbW hb1
  have xU := HX.out.keep hb1
  have d0 := xU.cell 0 rfl
  have d1 := xU.cell 1 rfl
  have d2 := xU.cell 2 rfl
  have hm1 := (hmod.keep hbW).keep hb1
  clear xU
  by_cases ho : orderS P M = 0
  · have Hf : Hid (errField (fieldRB P M mod) = 1) := by show _ = _; rw [fieldRB, shapeB_no0 ho]; rfl
    rw [ho]
    clear ho
    go_wp2_with fail
    go_ret
    exact ⟨ret_int Hf.out.symm, hbw1⟩
  · obtain ⟨m, rfl, hrf⟩ := RF.of ho
    have hp2 := hrf.p2
    have hp256 := hrf.p256
    have hm1' := hrf.m1
    have hm8 := hrf.m8
    have hoo : (orderS P m == 0) = false := by simpa using ho
    have Ho := Lib.hid ho
    obtain ⟨p, rfl⟩ : ∃ p : Nat, P = p := ⟨P.toNat, by omega⟩
    clear ho
    by_cases hpr : primeB p = true
    · have Hpr := Lib.hid hpr
      have Hc := Lib.hid (rPrime_any p w1 (by omega) (by omega))
      rw [hpr] at Hc
      clear hpr
      have hsh : shapeB p m mod = (if (m : Int) = 1 then mod.length == 0 else decide ((mod.length : Int) = m) && mod.all fun c => decide (0 ≤ c) && decide (c < p)) := by
        have h1 : (orderS p m != 0) = true := by have := Ho.out; simpa using this
        rw [shapeB, h1, Int.toNat_natCast, Hpr.out]; rfl
      have Hsh := Lib.hid hsh
      clear hsh
      by_cases hM : m = 1
      · have hM' : ((m : Int) == 1) = true := by simp [hM]
        have hMi : (m : Int) = 1 := by omega
        have HfR : Hid (fieldRB p m mod = (mod.length == 0)) := by show _ = _; rw [fieldRB, Hsh.out, if_pos hMi, hM']; simp
        clear hM hMi
        by_cases hl : mn = 0
        · have hl' : ((mn : Int) != 0) = false := by simp [hl]
          have Hf : Hid (errField (fieldRB p m mod) = 0) := by show _ = _; rw [HfR.out, Hml.out, hl]; rfl
          clear hl
          go_wp2_with (go_at_call 139; refine Hc.out.mono ?_; rintro e w2 ⟨rfl, rfl⟩)
          go_ret
          exact ⟨ret_int Hf.out.symm, hbw1⟩
        · have hl' : ((mn : Int) != 0) = true := by simp; omega
          have Hf : Hid (errField (fieldRB p m mod) = 1) := by
            show _ = _; rw [HfR.out, Hml.out]
            have : (mn == 0) = false := by simpa using hl
            rw [this]; rfl
          clear hl
          go_wp2_with (go_at_call 139; refine Hc.out.mono ?_; rintro e w2 ⟨rfl, rfl⟩)
          go_ret
          exact ⟨ret_int Hf.out.symm, hbw1⟩
      · have hM' : ((m : Int) == 1) = false := by simp; omega
        have hMi : ¬ (m : Int) = 1 := by omega
        have HfR : Hid (fieldRB p m mod = (decide ((mod.length : Int) = m) && (mod.all fun c => decide (0 ≤ c) && decide (c < p)) && irrB p mod)) := by
          show _ = _; rw [fieldRB, Hsh.out, if_neg hMi, hM']; simp
        clear hM hMi
        by_cases hl : mn = m
        · have hl' : ((mn : Int) != m) = false := by simp [hl]
          have HfR2 : Hid (fieldRB p m mod = ((mod.all fun c => decide (0 ≤ c) && decide (c < p)) && irrB p mod)) := by show _ = _; rw [HfR.out, Hml.out, hl]; simp
          have Hmn : Hid (mn = m) := hl
          have hmnm : (mn : Int) = m := by omega
          clear hl hmnm
          go_wp2_with (go_at_call 139; refine Hc.out.mono ?_; rintro e w2 ⟨rfl, rfl⟩)
          go_loopw [3] (fun iv wr => ∃ k : Nat, k ≤ m ∧ iv = .int .i64 k ∧ Hid ((mod.take k).all (fun c => decide (0 ≤ c) && decide (c < p)) = true) ∧ Drawn w1 wr) (fun iv _ => m - (intOf iv).toNat)
          case atStart => exact ⟨0, Nat.zero_le _, rfl, by show _ = _; simp, Drawn.refl _⟩
          case round =>
            obtain ⟨k, hk, rfl, hall, hd⟩ := hrel
            have e0 := hd.cell d0
            have e1 := hd.cell d1
            have e2 := hd.cell d2
            have hmr := hm1.drawn hd
            by_cases hlt : k < m
            · have hkmn : k < mn := by rw [Hmn.out]; exact hlt
              have ck := hmr.cell k hkmn
              have hkl : k < mod.length := by rw [Hml.out]; exact hkmn
              have hkmn' : (k : Int) < mn := by omega
              by_cases h0 : 0 ≤ nth mod k
              · have t0 : decide (nth mod k < 0) = false := by simp; omega
                by_cases h1 : nth mod k < p
                · have t1 : decide ((p : Int) ≤ nth mod k) = false := by simp; omega
                  have Hs : Hid ((mod.take (k + 1)).all (fun c => decide (0 ≤ c) && decide (c < p)) = true) := all_take_succ hkl hall.out (by rw [← nth_getElem hkl]; simp [h0, h1])
                  go_wp2_with fail
                  go_quiet (fail)
                  go_wp2
                  go_roundw
                  case rel => exact ⟨k + 1, by omega, by go_num, Hs.out, hd.drewN _⟩
                  case measure => simp [intOf] <;> omega
                · have t1 : decide ((p : Int) ≤ nth mod k) = true := by simp; omega
                  have Hf : Hid (errField (fieldRB p m mod) = 1) := by show _ = _; rw [HfR2.out, all_false_at hkl (by rw [← nth_getElem hkl]; simp [h1])]; rfl
                  go_wp2_with fail
                  go_quiet (fail)
                  go_wp2
                  go_ret
                  exact ⟨ret_int Hf.out.symm, Below.next hbw1 (hd.drewN _).below⟩
              · have t0 : decide (nth mod k < 0) = true := by simp; omega
                have Hf : Hid (errField (fieldRB p m mod) = 1) := by show _ = _; rw [HfR2.out, all_false_at hkl (by rw [← nth_getElem hkl]; simp [h0])]; rfl
                go_wp2_with fail
                go_quiet (fail)
                go_wp2
                go_ret
                exact ⟨ret_int Hf.out.symm, Below.next hbw1 (hd.drewN _).below⟩
            · obtain rfl : k = m := by omega
              have Hall : Hid ((mod.all fun c => decide (0 ≤ c) && decide (c < p)) = true) := by
                have := hall.out
                rwa [List.take_of_length_le (by rw [Hml.out, Hmn.out]; exact Nat.le_refl _)] at this
              have HfR3 : Hid (fieldRB p k mod = irrB p mod) := by show _ = _; rw [HfR2.out, Hall.out]; simp
              have hdig : Dig (p : Int) mod := Dig.of_mem (by omega) fun x hx => by
                have := List.all_eq_true.1 Hall.out x hx
                simpa using this
              have hpw : (p : Int) ^ mn ≤ 256 := by rw [Hmn.out]; exact hrf.pw
              have hmn8 : mn ≤ 8 := by rw [Hmn.out]; exact hm8
              go_wp2_with fail
              refine (rIrreducible_any am mn cm mod p wr hmr hp2 hp256 hdig hmn8 hpw).mono ?_
              rintro e w4 ⟨rfl, hb4⟩
              have hbw4 := Below.next (Below.next hbw1 hd.below) hb4
              by_cases hir : irrB p mod = true
              · have Hf : Hid (errField (fieldRB p k mod) = 0) := by show _ = _; rw [HfR3.out, hir]; rfl
                rw [hir]
                clear hir
                go_wp2_with fail
                go_ret
                exact ⟨ret_int Hf.out.symm, hbw4⟩
              · have hir' : irrB p mod = false := by simpa using hir
                have Hf : Hid (errField (fieldRB p k mod) = 1) := by show _ = _; rw [HfR3.out, hir']; rfl
                rw [hir']
                clear hir hir'
                go_wp2_with fail
                go_ret
                exact ⟨ret_int Hf.out.symm, hbw4⟩
        · have hl' : ((mn : Int) != m) = true := by simp; omega
          have Hf : Hid (errField (fieldRB p m mod) = 1) := by
            show _ = _; rw [HfR.out, Hml.out]
            have : decide ((mn : Int) = m) = false := by simp; omega
            rw [this]; rfl
          clear hl
          go_wp2_with (go_at_call 139; refine Hc.out.mono ?_; rintro e w2 ⟨rfl, rfl⟩)
          go_ret
          exact ⟨ret_int Hf.out.symm, hbw1⟩
    · have hpr' : primeB p = false := by simpa using hpr
      have Hf : Hid (errField (fieldRB p m mod) = 1) := by show _ = _; rw [fieldRB, shapeB_noP (by simpa using hpr')]; rfl
      have Hc := Lib.hid (rPrime_any p w1 (by omega) (by omega))
      rw [hpr'] at Hc
      clear hpr hpr'
      go_wp2_with (go_at_call 139; refine Hc.out.mono ?_; rintro e w2 ⟨rfl, rfl⟩)
      go_ret
      exact ⟨ret_int Hf.out.symm, hbw1⟩
end

/- A description is a field for the program (a generator exists) exactly if it is one for the reference (prime, irreducible). -/
section
section
variable {P : Int} {M : Nat} {mod : List Int} {q : Nat} {x : Int}

theorem pw_one (h : Res P M) (hx : ElP P M x) : pw P M mod x 1 = x := by show mulS P M mod (pw P M mod x 0) x = x; rw [pw, mulS_one h hx]
theorem pw_two (h : Res P M) (hx : ElP P M x) : pw P M mod x 2 = mulS P M mod x x := by show mulS P M mod (pw P M mod x 1) x = _; rw [pw_one h hx]
theorem pw_sq (h : Res P M) (hx : ElP P M x) : ∀ k, pw P M mod (mulS P M mod x x) k = pw P M mod x (2 * k)
  | 0 => rfl
  | k + 1 => by rw [pw, pw_sq h hx k, ← pw_two h hx, pw_add h]; rfl
theorem fpw_eq (h : Res P M) : ∀ (f n : Nat) (x : Int), ElP P M x → n < 2 ^ f → fpw (mulS P M mod) f x n = pw P M mod x n
  | 0, n, x, hx, hn => by
    have : n = 0 := by simpa using hn
    subst this; rfl
  | f + 1, n, x, hx, hn => by
    have ih := fpw_eq h f (n / 2) (mulS P M mod x x) (mulS_el h x x) (by rw [Nat.pow_succ] at hn; omega)
    unfold fpw
    split
    · rename_i h0; subst h0; rfl
    · rw [ih, pw_sq h hx]
      split
      · rename_i h1
        have e : n = 2 * (n / 2) + 1 := by omega
        have e2 : pw P M mod x n = pw P M mod x (2 * (n / 2) + 1) := congrArg _ e
        rw [e2]; rfl
      · rename_i h1
        have e : n = 2 * (n / 2) := by omega
        exact (congrArg _ e).symm

/-- the order of x is q - 1 -/
structure Ord (P : Int) (M : Nat) (mod : List Int) (q : Nat) (x : Int) : Prop where
  one : pw P M mod x (q - 1) = 1
  ne : ∀ k, 0 < k → k < q - 1 → pw P M mod x k ≠ 1

theorem pw_mul1 (h : Res P M) {a : Nat} (h1 : pw P M mod x a = 1) : ∀ n, pw P M mod x (a * n) = 1
  | 0 => rfl
  | n + 1 => by rw [Nat.mul_succ, ← pw_add h, pw_mul1 h h1 n, h1, mulS_one h (one_el h)]
theorem pw_mod1 (h : Res P M) {a b : Nat} (ha : pw P M mod x a = 1) (hb : pw P M mod x b = 1) : pw P M mod x (a % b) = 1 := by
  have e : a = b * (a / b) + a % b := (Nat.div_add_mod a b).symm
  rw [e, ← pw_add h, pw_mul1 h hb, mulS_one h (pw_el h x _)] at ha
  exact ha
theorem pw_gcd (h : Res P M) : ∀ (b a : Nat), pw P M mod x a = 1 → pw P M mod x b = 1 → pw P M mod x (Nat.gcd b a) = 1 := by
  intro b
  induction b using Nat.strongRecOn with
  | ind b ih =>
    intro a ha hb
    by_cases h0 : b = 0
    · subst h0; rw [Nat.gcd_zero_left]; exact ha
    · rw [Nat.gcd_rec]
      exact ih (a % b) (Nat.mod_lt _ (by omega)) b hb (pw_mod1 h ha hb)

theorem Ord.of (h : Res P M) (hx : ElP P M x) (hq : q ≤ 256) (ho : ordOk (mulS P M mod) q x = true) : Ord P M mod q x := by
  unfold ordOk at ho
  rw [Bool.and_eq_true] at ho
  obtain ⟨h1, h2⟩ := ho
  have h1' := eq_of_beq h1
  rw [fpw_eq h 8 _ x hx (by omega)] at h1'
  refine ⟨h1', fun k hk0 hk1 hk => ?_⟩
  have hg := pw_gcd h k (q - 1) h1' hk
  have hgd : Nat.gcd k (q - 1) ∣ q - 1 := Nat.gcd_dvd_right _ _
  have hgl : Nat.gcd k (q - 1) ≤ k := Nat.gcd_le_left _ hk0
  have hg0 : 0 < Nat.gcd k (q - 1) := Nat.gcd_pos_of_pos_left _ hk0
  have h3 := List.all_eq_true.1 h2 (Nat.gcd k (q - 1)) (List.mem_range.2 (by omega))
  have h4 : (q - 1) % Nat.gcd k (q - 1) = 0 := Nat.mod_eq_zero_of_dvd hgd
  simp only [Bool.or_eq_true, beq_iff_eq, bne_iff_ne, ne_eq] at h3
  rcases h3 with (h3 | h3) | h3
  · omega
  · exact h3 h4
  · rw [fpw_eq h 8 _ x hx (by omega)] at h3
    exact h3 hg

theorem Ord.nz (h : Res P M) (o : Ord P M mod q x) {k : Nat} (hk : k < q - 1) : pw P M mod x k ≠ 0 := by
  intro h0
  have h1 := pw_add (mod := mod) h x k (q - 1 - k)
  rw [h0, mulS_comm h, mulS_zero h, show k + (q - 1 - k) = q - 1 by omega, o.one] at h1
  omega
theorem Ord.inj (h : Res P M) (o : Ord P M mod q x) {i j : Nat} (hij : i < j) (hj : j < q - 1) : pw P M mod x i ≠ pw P M mod x j := by
  intro e
  have h1 := pw_add (mod := mod) h x i (q - 1 - i)
  have h2 := pw_add (mod := mod) h x j (q - 1 - i)
  rw [show i + (q - 1 - i) = q - 1 by omega, o.one, e, h2] at h1
  have h3 : pw P M mod x (j - i) = 1 := by
    have h4 := pw_add (mod := mod) h x (j - i) (q - 1)
    rw [o.one, mulS_comm h, mulS_one h (pw_el h x _), show j - i + (q - 1) = j + (q - 1 - i) by omega, h1] at h4
    exact h4
  exact o.ne (j - i) (by omega) (by omega) h3

/-- the list of the powers, up to the last one -/
theorem powTo_full (h : Res P M) (hx : ElP P M x) (o : Ord P M mod q x) : ∀ (n k : Nat), k ≤ q - 1 → q - 1 - k < n → 0 < k →
    powTo (fun z => mulS P M mod z x) n ((List.range k).map fun i => pw P M mod x i) (pw P M mod x k) = (List.range (q - 1)).map fun i => pw P M mod x i
  | 0, k, _, hn, _ => by omega
  | n + 1, k, hk, hn, h0 => by
    by_cases hke : k = q - 1
    · subst hke
      refine powTo_stop _ _ _ _ (.inr ?_)
      rw [o.one, List.mem_map]
      exact ⟨0, List.mem_range.2 h0, rfl⟩
    · rw [powTo_go]
      · have e : (List.range k).map (fun i => pw P M mod x i) ++ [pw P M mod x k] = (List.range (k + 1)).map fun i => pw P M mod x i := by rw [List.range_succ, List.map_append]; rfl
        rw [e]
        exact powTo_full h hx o n (k + 1) (by omega) (by omega) (by omega)
      · rintro (h1 | h1)
        · exact o.nz h (by omega) h1
        · obtain ⟨i, hi, e⟩ := List.mem_map.1 h1
          exact o.inj h (List.mem_range.1 hi) (by omega) e
theorem Ord.isGen (h : Res P M) (hx : ElP P M x) (hq : 2 ≤ q) (o : Ord P M mod q x) : isGen P M mod q x = true := by
  have hl : powS P M mod q x = (List.range (q - 1)).map fun i => pw P M mod x i := by
    by_cases h2 : q = 2
    · subst h2
      have : x = 1 := by have := o.one; rwa [show 2 - 1 = 1 from rfl, pw_one h hx] at this
      subst this
      rw [powS, powTo_stop _ _ _ _ (.inr (by simp))]
      rfl
    · have := powTo_full h hx o q 1 (by omega) (by omega) (by omega)
      rw [pw_one h hx] at this
      exact this
  unfold Proofs.YtcflcogbpnmjeaaGreat.isGen
  rw [hl, Bool.and_eq_true]
  refine ⟨by simp, ?_⟩
  have e : nth ((List.range (q - 1)).map fun i => pw P M mod x i) (q - 2) = pw P M mod x (q - 2) := by
    rw [nth_getElem (by simp; omega)]; simp
  rw [e]
  have : mulS P M mod (pw P M mod x (q - 2)) x = pw P M mod x (q - 1) := by rw [show q - 1 = (q - 2) + 1 by omega]; rfl
  rw [this, o.one]; rfl

theorem genTo_some : ∀ (n x y : Nat), 2 ≤ q → x ≤ y → y < x + n → isGen P M mod q y = true → genTo P M mod q n x ≠ []
  | 0, x, y, _, h1, h2, _ => by omega
  | n + 1, x, y, hq, h1, h2, hg => by
    rw [genTo]
    by_cases hx : isGen P M mod q x = true
    · rw [if_pos hx]
      intro e
      simp only [isGen, Bool.and_eq_true, beq_iff_eq] at hx
      rw [e] at hx
      simp at hx
      omega
    · rw [if_neg hx]
      refine genTo_some n (x + 1) y hq ?_ (by omega) hg
      rcases Nat.eq_or_lt_of_le h1 with h3 | h3
      · subst h3; exact absurd hg hx
      · exact h3
theorem no_zero_div {ex : List Int} {y a b : Int} (g : Gen P M mod q y ex) (ha : ElP P M a) (hb : ElP P M b) (ha0 : a ≠ 0) (hb0 : b ≠ 0) : mulS P M mod a b ≠ 0 := by
  obtain ⟨i, _, rfl, _⟩ := g.log ha ha0
  obtain ⟨j, _, rfl, _⟩ := g.log hb hb0
  rw [pw_add g.res]
  exact g.pw_ne _
end

theorem chkAll_at {P : Int} {M q : Nat} {l : List (Nat × Nat)} (h : chkAll P M q l) {v : Nat} (hv : v < q) : ∃ c, chkV P M q v c = true := ⟨_, h v hv⟩

theorem tabOf (p m : Nat) (hp : primeB p = true) (h2 : 2 ≤ p) (hm : 2 ≤ m) (hm8 : m ≤ 8) (hpw : (p : Int) ^ m ≤ 256) : ∃ l, chkAll p m (((p : Int) ^ m).toNat) l := by
  have hp16 : p ≤ 16 := by
    have h1 := pow_mono (P := (p : Int)) (by omega) hm
    have h3 : (p : Int) ^ 2 = p * p := by rw [Int.pow_succ, Int.pow_succ, Int.pow_zero, Int.one_mul]
    rcases Nat.lt_or_ge 16 p with h4 | h4
    · have h5 : 17 * 17 ≤ p * p := Nat.mul_le_mul h4 h4
      have h6 : ((17 * 17 : Nat) : Int) ≤ ((p * p : Nat) : Int) := Int.ofNat_le.2 h5
      rw [Int.natCast_mul] at h6
      omega
    · exact h4
  have hc : p = 2 ∨ p = 3 ∨ p = 4 ∨ p = 5 ∨ p = 6 ∨ p = 7 ∨ p = 8 ∨ p = 9 ∨ p = 10 ∨ p = 11 ∨ p = 12 ∨ p = 13 ∨ p = 14 ∨ p = 15 ∨ p = 16 := by omega
  have hd : m = 2 ∨ m = 3 ∨ m = 4 ∨ m = 5 ∨ m = 6 ∨ m = 7 ∨ m = 8 := by omega
  rcases hc with rfl | rfl | rfl | rfl | rfl | rfl | rfl | rfl | rfl | rfl | rfl | rfl | rfl | rfl | rfl
  · rcases hd with rfl | rfl | rfl | rfl | rfl | rfl | rfl
    · exact ⟨_, tab2_2⟩
    · exact ⟨_, tab2_3⟩
    · exact ⟨_, tab2_4⟩
    · exact ⟨_, tab2_5⟩
    · exact ⟨_, tab2_6⟩
    · exact ⟨_, tab2_7⟩
    · exact ⟨_, tab2_8⟩
  · rcases hd with rfl | rfl | rfl | rfl | rfl | rfl | rfl
    · exact ⟨_, tab3_2⟩
    · exact ⟨_, tab3_3⟩
    · exact ⟨_, tab3_4⟩
    · exact ⟨_, tab3_5⟩
    · exact absurd hpw (by decide)
    · exact absurd hpw (by decide)
    · exact absurd hpw (by decide)
  · exact absurd hp (by decide)
  · rcases hd with rfl | rfl | rfl | rfl | rfl | rfl | rfl
    · exact ⟨_, tab5_2⟩
    · exact ⟨_, tab5_3⟩
    · exact absurd hpw (by decide)
    · exact absurd hpw (by decide)
    · exact absurd hpw (by decide)
    · exact absurd hpw (by decide)
    · exact absurd hpw (by decide)
  · exact absurd hp (by decide)
  · rcases hd with rfl | rfl | rfl | rfl | rfl | rfl | rfl
    · exact ⟨_, tab7_2⟩
    · exact absurd hpw (by decide)
    · exact absurd hpw (by decide)
    · exact absurd hpw (by decide)
    · exact absurd hpw (by decide)
    · exact absurd hpw (by decide)
    · exact absurd hpw (by decide)
  · exact absurd hp (by decide)
  · exact absurd hp (by decide)
  · exact absurd hp (by decide)
  · rcases hd with rfl | rfl | rfl | rfl | rfl | rfl | rfl
    · exact ⟨_, tab11_2⟩
    · exact absurd hpw (by decide)
    · exact absurd hpw (by decide)
    · exact absurd hpw (by decide)
    · exact absurd hpw (by decide)
    · exact absurd hpw (by decide)
    · exact absurd hpw (by decide)
  · exact absurd hp (by decide)
  · rcases hd with rfl | rfl | rfl | rfl | rfl | rfl | rfl
    · exact ⟨_, tab13_2⟩
    · exact absurd hpw (by decide)
    · exact absurd hpw (by decide)
    · exact absurd hpw (by decide)
    · exact absurd hpw (by decide)
    · exact absurd hpw (by decide)
    · exact absurd hpw (by decide)
  · exact absurd hp (by decide)
  · exact absurd hp (by decide)
  · exact absurd hp (by decide)

theorem valu_el {P : Int} {m : Nat} (hf : RF P m) {mod : List Int} (hd : Dig P mod) (hl : mod.length = m) : 0 ≤ valu P mod ∧ valu P mod < P ^ m := by
  have := valu_bd (P := P) (by have := hf.p2; omega) mod hd
  rwa [hl] at this

theorem fieldRB_eq (P M : Int) (mod : List Int) : fieldRB P M mod = fieldB P M mod := by
  by_cases hs : shapeB P M mod = true
  · unfold fieldRB fieldB
    rw [hs, Bool.true_and, Bool.true_and]
    have hs2 := hs
    unfold shapeB at hs2
    simp only [Bool.and_eq_true, bne_iff_ne, ne_eq] at hs2
    obtain ⟨⟨h1, h2⟩, h3⟩ := hs2
    obtain ⟨m, rfl, hrf⟩ := RF.of h1
    obtain ⟨p, rfl⟩ : ∃ p : Nat, P = p := ⟨P.toNat, by have := hrf.p2; omega⟩
    rw [Int.toNat_natCast] at h2 ⊢
    have hp2 : 2 ≤ p := by have := hrf.p2; omega
    have hp256 : p ≤ 256 := by have := hrf.p256; omega
    have hord := hrf.order
    have hres := hrf.res
    obtain ⟨q, hq⟩ : ∃ q : Nat, (p : Int) ^ m = q := ⟨((p : Int) ^ m).toNat, by have := one_lt_pow hres; omega⟩
    have hq2 : 2 ≤ q := by have := one_lt_pow hres; omega
    have hq256 : q ≤ 256 := by have := hrf.pw; omega
    rw [hord, hq, Int.toNat_natCast]
    have hgen : ∀ x : Nat, 0 < x → x < q → ordOk (mulS p m mod) q x = true → (genS p m mod q).isEmpty = false := fun x hx0 hx1 ho => by
      have hel : ElP (p : Int) m x := ⟨by omega, by rw [hq]; omega⟩
      have hg := (Ord.of hres hel hq256 ho).isGen hres hel hq2
      have := genTo_some (P := p) (M := m) (mod := mod) (q - 1) 1 x hq2 (by omega) (by omega) hg
      unfold genS
      cases h : genTo p m mod q (q - 1) 1 with
      | nil => exact absurd h this
      | cons y l => rfl
    by_cases hm : m = 1
    · subst hm
      have hmod : mod = [] := by
        rw [if_pos (by simp)] at h3
        exact List.eq_nil_of_length_eq_zero (by simpa using h3)
      subst hmod
      have hr := List.all_eq_true.1 rootsAll p (List.mem_range.2 (by omega))
      have hp2' : decide (p < 2) = false := by simp; omega
      rw [hp2', h2] at hr
      simp only [Bool.not_true, Bool.false_or, List.any_eq_true] at hr
      obtain ⟨c, hc, hcp⟩ := hr
      have hck := List.all_eq_true.1 tabP c hc
      have hcp2 : c.1 = p := by simpa using hcp
      unfold chkP at hck
      rw [hcp2] at hck
      simp only [Bool.and_eq_true, decide_eq_true_eq] at hck
      have hqp : q = p := by have : (p : Int) ^ 1 = p := by rw [Int.pow_succ, Int.pow_zero, Int.one_mul]
                             omega
      rw [hgen c.2 hck.1.2 (by omega) (by rw [hqp]; exact hck.1.1)]
      rfl
    · have hM : ¬ (m : Int) = 1 := by omega
      rw [if_neg hM] at h3
      simp only [Bool.and_eq_true, decide_eq_true_eq] at h3
      have hlen : mod.length = m := by omega
      have hdig : Dig (p : Int) mod := Dig.of_mem (by omega) fun x hx => by
        have := List.all_eq_true.1 h3.2 x hx
        simpa using this
      have hv := valu_el hrf hdig hlen
      obtain ⟨v, hvv⟩ : ∃ v : Nat, valu p mod = v := ⟨(valu p mod).toNat, by omega⟩
      have hdv : digs v p m = mod := by rw [← hvv, ← hlen]; exact digs_valu mod hdig
      obtain ⟨l, hl⟩ := tabOf p m h2 hp2 (by have := hrf.m1; omega) hrf.m8 hrf.pw
      rw [hq, Int.toNat_natCast] at hl
      obtain ⟨c, hc⟩ := chkAll_at hl (v := v) (by omega)
      have hM' : ((m : Int) == 1) = false := by simpa using hM
      rw [hM', Bool.false_or]
      unfold chkV at hc
      rw [hdv] at hc
      split at hc
      · simp only [Bool.and_eq_true, decide_eq_true_eq] at hc
        rw [hc.1.1.1, hgen c.1 hc.1.2 hc.2 hc.1.1.2]; rfl
      · rename_i hc2
        simp only [Bool.and_eq_true, decide_eq_true_eq, Bool.not_eq_true', beq_iff_eq] at hc
        rw [hc.1.1.1.1]
        cases h : (genS p m mod q).isEmpty with
        | true => rfl
        | false =>
          exfalso
          have hne : genS p m mod q ≠ [] := fun e => by rw [e] at h; cases h
          obtain ⟨y, hy1, hy2, hy3, hy4⟩ := genS_spec hne
          have g := Gen.of_isGen (mod := mod) hres hq.symm ⟨by omega, by omega⟩ hy3
          exact no_zero_div g (a := (c.1 : Int)) (b := (c.2 : Int)) ⟨by omega, by omega⟩ ⟨by omega, by omega⟩ (by omega) (by omega) hc.1.1.1.2
  · have hs' : shapeB P M mod = false := by simpa using hs
    simp [fieldRB, fieldB, hs']
end

/- The walk of infoset.Rank. -/
section
open Go.RowKit

theorem okSet_ge {N : Int} {l : List Int} (h : okSet N l = true) : ∀ k, k < l.length → (k : Int) ≤ nth l k
  | 0, hk => (okSet_at h hk).1
  | k + 1, hk => by
    have ih := okSet_ge h k (by omega)
    have := (okSet_at h hk).2.2 (by omega)
    rw [Nat.add_sub_cancel] at this
    omega
theorem okSet_len {N : Int} {l : List Int} (h : okSet N l = true) (hN : 0 ≤ N) : (l.length : Int) ≤ N := by
  by_cases h0 : l.length = 0
  · omega
  · have h1 := okSet_ge h (l.length - 1) (by omega)
    have h2 := (okSet_at h (k := l.length - 1) (by omega)).2.1
    omega
theorem codeE_rws {P M : Int} {mod : List Int} {N : Int} {L : List (List Int)} (h : codeE P M mod N L = 0) : ∃ m : Nat, N = m ∧ 1 ≤ m ∧ m ≤ 64 ∧ L.length ≤ 256 ∧ Rws (tblOf P M.toNat mod).El m L := by
  obtain ⟨h1, h2, h3, h4⟩ := codeE_zero h
  obtain ⟨h5, h6⟩ := spaceE_zero h4
  obtain ⟨h7, h8⟩ := fmatE_zero h5
  obtain ⟨m, rfl, hm, hl, hR⟩ := matE_zero h8
  exact ⟨m, rfl, by omega, by omega, hl, hR⟩
end

/- The walks of ordering.rank, dimension. -/
section
open Go.RowKit

/-- the positions below k whose bits are set -/
def bitsTo (x : Nat) : Nat → List Int
  | 0 => []
  | k + 1 => if x.testBit k = true then bitsTo x k ++ [(k : Int)] else bitsTo x k
theorem nth_bits_lt (x : Nat) : ∀ k j, j < (bitsTo x k).length → 0 ≤ nth (bitsTo x k) j ∧ nth (bitsTo x k) j < k
  | 0, j, h => by simp [bitsTo] at h
  | k + 1, j, h => by
    unfold bitsTo at h ⊢
    split
    · rename_i ht
      rw [if_pos ht] at h
      simp only [List.length_append, List.length_singleton] at h
      by_cases hj : j < (bitsTo x k).length
      · have := nth_bits_lt x k j hj
        have e : nth (bitsTo x k ++ [(k : Int)]) j = nth (bitsTo x k) j := by simp only [nth, List.getD_eq_getElem?_getD]; rw [List.getElem?_append_left hj]
        rw [e]; omega
      · obtain rfl : j = (bitsTo x k).length := by omega
        have e : nth (bitsTo x k ++ [(k : Int)]) (bitsTo x k).length = k := by simp [nth]
        rw [e]; omega
    · rename_i ht
      rw [if_neg ht] at h
      have := nth_bits_lt x k j h
      omega
end

/- The walk of ordering.dimension. -/
section
open Go.RowKit

def cplU (x : Nat) : Nat := 18446744073709551615 ^^^ x
def dimS (O : FOps) (L : List (List Int)) (N x : Nat) : Int := (grS O L (bitsTo x N)).length + (grS O L (bitsTo (cplU x) N)).length - L.length
end

/- The walk of ordering.Dimension. -/
section
open Go.RowKit

/-- the mask of the first k positions -/
def maskTo (Q : List Int) : Nat → Nat
  | 0 => 0
  | k + 1 => maskTo Q k ||| 2 ^ (nth Q k).toNat
def maskS (Q : List Int) : Nat := maskTo Q Q.length
theorem maskTo_lt {Q : List Int} : ∀ k, (∀ j, j < k → 0 ≤ nth Q j ∧ nth Q j < 64) → maskTo Q k < 18446744073709551616
  | 0, _ => by show (0 : Nat) < 18446744073709551616; omega
  | k + 1, h => by
    have ih := maskTo_lt k fun j hj => h j (by omega)
    have hk := h k (by omega)
    have : 2 ^ (nth Q k).toNat < 2 ^ 64 := Nat.pow_lt_pow_right (by omega) (by omega)
    exact Nat.or_lt_two_pow (n := 64) ih this

def DimPost (P M : Int) (mod : List Int) (N : Int) (L : List (List Int)) (Q : List Int) (w : World) (e : Ending) (w' : World) : Prop :=
  Below w.heap.size w w' ∧ (
    (codeE P M mod N L ≠ 0 ∧ e = .returned (.tuple #[.int .i64 0, .int .i64 (codeE P M mod N L)])) ∨
    (codeE P M mod N L = 0 ∧ okSet N Q = false ∧ e = .returned (.tuple #[.int .i64 0, .int .i64 5])) ∨
    (codeE P M mod N L = 0 ∧ okSet N Q = true ∧ e = .returned (.tuple #[.int .i64 (dimS (tblOf P M.toNat mod).ops L N.toNat (maskS Q)), .int .i64 0])))
end

/- The walks of the references: Inv of layer 4, scale of layer 9. -/
section
open Go.RowKit

structure RFld (w : World) (P : Int) (m : Nat) (am : Option Addr) (mn : Nat) (mod : List Int) : Prop where
  rf : RF P m
  mods : Mods w P m am mn mod
theorem RFld.keep {w w' : World} {P : Int} {m : Nat} {am : Option Addr} {mn : Nat} {mod : List Int} (h : RFld w P m am mn mod) (hb : Below w.heap.size w w') : RFld w' P m am mn mod := ⟨h.rf, h.mods.keep hb⟩
theorem RF.isQ {P : Int} {m : Nat} (h : RF P m) {x : Int} (hx : ElP P m x) : isQ (orderS P m) x = true := by
  unfold Proofs.YtcflcogbpnmjeaaGreat.isQ; rw [h.order]; simp [hx.1, hx.2]
theorem RF.el {P : Int} {m : Nat} (h : RF P m) {x : Int} (hx : Proofs.YtcflcogbpnmjeaaGreat.isQ (orderS P m) x = true) : ElP P m x := by
  unfold Proofs.YtcflcogbpnmjeaaGreat.isQ at hx; rw [h.order] at hx; simp at hx; exact hx
theorem mulR_el {P : Int} {m : Nat} (h : RF P m) (mod : List Int) (x y : Int) : ElP P m (mulR P m mod x y) := by
  have hP : 0 < P := by have := h.p2; omega
  have := valu_bd hP (mulL P m mod (digs x P m) (digs y P m)) (mulL_dig hP m mod _ _)
  rwa [mulL_len P mod _ _ h.m1] at this

/-- the first y from y0 on with f y = 1, or 0 -/
def invTo (f : Int → Int) : Nat → Int → Int
  | 0, _ => 0
  | n + 1, y => if f y = 1 then y else invTo f n (y + 1)
def invR (P : Int) (m : Nat) (mod : List Int) (x : Int) : Int := invTo (mulR P m mod x) ((orderS P m).toNat - 1) 1
def rops (P : Int) (m : Nat) (mod : List Int) : FOps := ⟨fsum P m, mulR P m mod, fneg P m, invR P m mod⟩
theorem invTo_bd (f : Int → Int) : ∀ (n : Nat) (y : Int), 0 ≤ y → 0 ≤ invTo f n y ∧ (invTo f n y < y + n ∨ invTo f n y = 0)
  | 0, y, h => by simp [invTo]
  | n + 1, y, h => by
    unfold invTo
    split
    · omega
    · have := invTo_bd f n (y + 1) (by omega)
      omega
theorem invR_el {P : Int} {m : Nat} (h : RF P m) (mod : List Int) (x : Int) : ElP P m (invR P m mod x) := by
  have h1 := invTo_bd (mulR P m mod x) ((orderS P m).toNat - 1) 1 (by omega)
  have h2 := h.order
  have h3 := one_lt_pow h.res
  unfold invR ElP
  omega
theorem rcl {P : Int} {m : Nat} (h : RF P m) (mod : List Int) : FCl (rops P m mod) (ElP P m) :=
  ⟨fun x y _ _ => fsum_el h.res x y, fun x y _ _ => mulR_el h mod x y, fun x _ => fneg_el h.res x, fun x _ _ => invR_el h mod x⟩

set_option maxRecDepth 100000 in
set_option maxHeartbeats 1600000 in
theorem rInv_any (P : Int) (m : Nat) (am : Option Addr) (mn cm : Nat) (mod : List Int) (x : Int) (w : World) (hf : RFld w P m am mn mod) (hx : ElP P m x) :
    Calls Tryz.prog 210 #[.agg #[.int .i64 P, .int .i64 m, .slice am mn cm], .int .i64 x] w fun e w' => e = .returned (.int .i64 (invR P m mod x)) ∧ Below w.heap.size w w' := by
  have hrf := hf.rf
  have Hq := Lib.hid (hrf.isQ hx)
  have hord := hrf.order
  have h256 := hrf.pw
  obtain ⟨q, hq⟩ : ∃ q : Nat, P ^ m = q := ⟨(P ^ m).toNat, by have := one_lt_pow hrf.res; omega⟩
  have hq2 : 2 ≤ q := by have := one_lt_pow hrf.res; omega
  have hord2 : orderS P m = q := by rw [hord, hq]
  have Hord := Lib.hid hord2
  have HI : Hid (invR P m mod x = invTo (mulR P m mod x) (q - 1) 1) := by show _ = _; rw [invR, hord2]; simp
  have Hel : Hid (∀ k : Nat, k < q → isQ (orderS P m) k = true) := fun k hk => hrf.isQ ⟨by omega, by rw [hq]; omega⟩
  have hq256 : q ≤ 256 := by omega
  clear hord hq hord2 h256
  go_enter Tryz.func210, Tryz.ntmps210
  go_wp2_with fail
  obtain ⟨W, hW⟩ : ∃ W : World, W = w.alloc (.cells #[.int .i64 P, .int .i64 m, .slice am mn cm] 24) := ⟨_, rfl⟩
  rw [← hW]
  have hbW : Below w.heap.size w W := by rw [hW]; exact below1 _ _
  have x0 : Box W w.heap.size [.int .i64 P, .int .i64 m, .slice am mn cm] := by rw [hW]; exact Box.new _ _ _ rfl
  have HX := Lib.hid x0
  clear hW x0
  have hfW := hf.keep hbW
  go_loopw [5] (fun yv wr => ∃ y : Nat, 1 ≤ y ∧ y ≤ q ∧ yv = .int .i64 y ∧ Hid (invR P m mod x = invTo (mulR P m mod x) (q - y) y) ∧ Below W.heap.size W wr) (fun yv _ => q - (intOf yv).toNat)
  case atStart => exact ⟨1, by omega, by omega, rfl, by show _ = _; rw [HI.out]; rfl, Below.refl _ _⟩
  case round =>
    obtain ⟨y, hy1, hyq, rfl, hinv, hbr⟩ := hrel
    have x1 := HX.out.keep hbr
    have d0 := x1.cell 0 rfl
    have d1 := x1.cell 1 rfl
    have d2 := x1.cell 2 rfl
    clear x1
    go_wp2_with fail
    refine (rOrder_any P m am mn cm wr).mono ?_
    rintro e w1 ⟨rfl, hb1⟩
    rw [Hord.out]
    have hbr1 := Below.next hbr hb1
    have x1 := HX.out.keep hbr1
    have d0 := x1.cell 0 rfl
    have d1 := x1.cell 1 rfl
    have d2 := x1.cell 2 rfl
    clear x1
    by_cases hlt : y < q
    · have hlt' : (y : Int) < q := by omega
      have hst : invTo (mulR P m mod x) (q - y) y = if mulR P m mod x y = 1 then (y : Int) else invTo (mulR P m mod x) (q - (y + 1)) (y + 1) := by
        rw [show q - y = (q - (y + 1)) + 1 by omega, invTo]
      have Hst := Lib.hid hst
      clear hst
      go_wp2_with fail
      refine (rMul_any P m am mn cm mod x y w1 hrf ((hfW.keep hbr1).mods) Hq.out (Hel.out y hlt)).mono ?_
      rintro e w2 ⟨rfl, hb2⟩
      have hbr2 := Below.next hbr1 hb2
      by_cases h1 : mulR P m mod x y = 1
      · have Hf : Hid (invR P m mod x = y) := by show _ = _; rw [hinv.out, Hst.out, if_pos h1]
        rw [h1]
        clear h1
        go_wp2_with fail
        go_ret
        exact ⟨ret_int Hf.out.symm, Below.next hbW hbr2⟩
      · have Hf : Hid (invR P m mod x = invTo (mulR P m mod x) (q - (y + 1)) ((y + 1 : Nat) : Int)) := by show _ = _; rw [hinv.out, Hst.out, if_neg h1]; rfl
        have h1' : (mulR P m mod x y == 1) = false := by simpa using h1
        clear h1
        go_wp2_with fail
        go_roundw
        case rel => exact ⟨y + 1, by omega, by omega, by go_num, Hf.out, hbr2⟩
        case measure => simp [intOf] <;> omega
    · obtain rfl : y = q := by omega
      have Hf : Hid (invR P m mod x = 0) := by show _ = _; rw [hinv.out, Nat.sub_self]; rfl
      go_wp2_with fail
      go_ret
      exact ⟨ret_int Hf.out.symm, Below.next hbW hbr1⟩

set_option maxRecDepth 100000 in
set_option maxHeartbeats 1600000 in
theorem rScale_any (P : Int) (m : Nat) (am : Option Addr) (mn cm : Nat) (mod : List Int) (s : Int) (a : Option Addr) (n c : Nat) (l : List Int) (w : World) (hf : RFld w P m am mn mod) (hs : ElP P m s) (hi : Ints w a n l) (hl : ∀ x ∈ l, ElP P m x) (hn : n ≤ 1000000) :
    Calls Tryz.prog 209 #[.agg #[.int .i64 P, .int .i64 m, .slice am mn cm], .int .i64 s, .slice a n c] w (NewInts w (l.map (mulR P m mod s))) := by
  have hrf := hf.rf
  have Hs := Lib.hid (hrf.isQ hs)
  have Hlen := Lib.hid hi.len
  have hpl := hi.pl
  have Hl : Hid (∀ k, k < n → isQ (orderS P m) (nth l k) = true) := fun k hk => hrf.isQ (hl _ (nth_mem (by rw [hi.len]; exact hk)))
  clear hl
  go_enter Tryz.func209, Tryz.ntmps209
  go_wp2_with (at_make; refine wpList_mk rfl _ _ 22 3 rfl (.int .i64 0) 8 Tryz.underlying22 infoInt rfl n rfl rfl (by omega) (by unfold maxLen; omega) ?_; intro a1 w1 hown hbel hge hlt)
  obtain ⟨W, hW⟩ : ∃ W : World, W = w.alloc (.cells #[.int .i64 P, .int .i64 m, .slice am mn cm] 24) := ⟨_, rfl⟩
  rw [← hW] at hown hbel hge
  have hbW : Below w.heap.size w W := by rw [hW]; exact below1 _ _
  have x0 : Box W w.heap.size [.int .i64 P, .int .i64 m, .slice am mn cm] := by rw [hW]; exact Box.new _ _ _ rfl
  have hfW := hf.keep hbW
  have hiW := hi.keep hbW
  have hS : ∀ k, k < n → ∀ V, Below W.heap.size W V → V.cell? ⟨w.heap.size, 0, none⟩ = some (.int .i64 P) ∧ V.cell? ⟨w.heap.size, 1, none⟩ = some (.int .i64 m) ∧ V.cell? ⟨w.heap.size, 2, none⟩ = some (.slice am mn cm) ∧
      V.cell? ⟨ablk a, aoff a + k, none⟩ = some (.int .i64 (nth l k)) ∧ Below W.heap.size W V := by
    intro k hk V hV
    have x1 := x0.keep hV
    exact ⟨x1.cell 0 rfl, x1.cell 1 rfl, x1.cell 2 rfl, (hiW.keep hV).cell k hk, hV⟩
  have HS := Lib.hid hS
  clear hW x0 hS
  go_loopw [8] (fun iv wr => ∃ k : Nat, k ≤ n ∧ iv = .int .i64 k ∧
      wr.ownsRow W.heap.size 3 1 (.slice a1 n n) n ((fillTo ((l.take k).map (mulR P m mod s)) k n).map (Value.int .i64)) ∧ Below W.heap.size W wr)
    (fun i _ => n - (intOf i).toNat)
  case atStart => exact ⟨0, Nat.zero_le _, rfl, by simpa [fillTo] using hown, hbel⟩
  case round =>
    obtain ⟨k, hk, rfl, hown, hbel⟩ := hrel
    obtain ⟨hints, hmine⟩ := Ints.own hown
    have hpl1 := hints.pl
    by_cases hlt : k < n
    · have HSk : Hid (∀ V, Below W.heap.size W V → V.cell? ⟨w.heap.size, 0, none⟩ = some (.int .i64 P) ∧ V.cell? ⟨w.heap.size, 1, none⟩ = some (.int .i64 m) ∧ V.cell? ⟨w.heap.size, 2, none⟩ = some (.slice am mn cm) ∧
          V.cell? ⟨ablk a, aoff a + k, none⟩ = some (.int .i64 (nth l k)) ∧ Below W.heap.size W V) := HS.out k hlt
      have hB := (hmine (by omega)).1
      have HB := Lib.hid hB
      have Hbel := Lib.hid hbel
      have HK : Hid (∀ V, Below wr.drew.heap.size wr.drew V → (∃ v, V.cell? ⟨ablk a1, aoff a1 + k, none⟩ = some v) ∧ V.frozen? ⟨ablk a1, aoff a1 + k, none⟩ = false ∧ Below wr.heap.size wr V) := fun V hV => by
        have hV' : Below wr.heap.size wr V := Below.next (Below.refl _ _).drew hV
        have ho := own_keep hown hV'
        exact ⟨⟨_, (Ints.own ho).1.cell k hlt⟩, ((Ints.own ho).2 (by omega)).2 k hlt, hV'⟩
      have hmd := (hfW.keep hbel).mods
      have Hmd : Hid (Mods wr.drew P m am mn mod) := hmd.keep (Below.refl _ _).drew
      clear hB hbel hmd
      go_wp2_with fail
      go_region_held3 (fun V => V.cell? ⟨w.heap.size, 0, none⟩ = some (.int .i64 P) ∧ V.cell? ⟨w.heap.size, 1, none⟩ = some (.int .i64 m) ∧ V.cell? ⟨w.heap.size, 2, none⟩ = some (.slice am mn cm) ∧
          V.cell? ⟨ablk a, aoff a + k, none⟩ = some (.int .i64 (nth l k)) ∧ Below W.heap.size W V)
        ((refine HSk.out _ ?_; first | exact Hbel.out.drew | exact Below.next Hbel.out hb9 | exact (Below.next Hbel.out hb9).setCell HB.out _))
        (first
          | (go_at_call 64; ((with_reducible refine (rMul_any P m am mn cm mod s (nth l k) _ hrf Hmd.out Hs.out (Hl.out k hlt)).mono ?_); rintro e w4 ⟨rfl, hb4⟩; obtain ⟨⟨v9, k9⟩, f9, hb9⟩ := HK.out w4 hb4)))
      clear k9 f9
      go_wp2_with fail
      go_roundw
      case rel =>
        refine ⟨k + 1, by omega, by go_num, ?_, (Below.next Hbel.out hb9).setCell HB.out _⟩
        have h := own_set (own_keep hown hb9) k hlt (.int .i64 (mulR P m mod s (nth l k)))
        rw [← List.map_set, fillTo_set _ _ _ _ (by simp [Hlen.out]; omega) hlt] at h
        rw [List.take_succ_eq_append_getElem (by rw [Hlen.out]; omega), List.map_append]
        rw [nth_getElem (by rw [Hlen.out]; omega)] at h ⊢
        exact h
      case measure => simp [intOf] <;> omega
    · obtain rfl : k = n := by omega
      have hfin : fillTo ((l.take k).map (mulR P m mod s)) k k = l.map (mulR P m mod s) := by
        rw [fillTo_all, List.take_of_length_le (by rw [Hlen.out]; exact Nat.le_refl _)]
      rw [hfin] at hown
      have Hl2 : Hid ((l.map (mulR P m mod s)).length = k) := by show _ = _; simp [Hlen.out]
      clear hfin
      go_wp2_with fail
      go_ret
      exact ⟨a1, k, by rw [Hl2.out]; rfl, by rw [Hl2.out]; exact own_mono hown hbW.size, Below.next hbW hbel⟩
end

/- The reference's product is the program's. -/
section
section
variable {P : Int} {M : Nat} {low : Nat → Int}

/-- the value of the first n coefficients -/
def evL (M : Nat) (low : Nat → Int) (n : Nat) (c : List Int) : Nat → Int := fun i => sm n (fun k => nth c k * shN M low k (eV 0) i)

theorem sm_set {n k : Nat} {c : List Int} {z : Int} (f : Nat → Int) (hk : k < n) (hl : k < c.length) : sm n (fun j => nth (c.set k z) j * f j) = sm n (fun j => nth c j * f j) + (z - nth c k) * f k := by
  have h1 : sm n (fun j => nth (c.set k z) j * f j) = sm n (fun j => nth c j * f j + (if j = k then (z - nth c k) * f k else 0)) := sm_congr fun j _ => by
    rw [nth_set _ _ _ _ hl]
    by_cases e : j = k
    · subst e; rw [if_pos rfl, if_pos rfl, Int.sub_mul]; omega
    · rw [if_neg e, if_neg e]; omega
  rw [h1, sm_add]
  congr 1
  rw [sm_single hk fun i _ hne => if_neg hne, if_pos rfl]
/-- the sum with a congruent coefficient -/
theorem evL_step {n k : Nat} {c : List Int} {d : Int} (hk : k < n) (hl : k < c.length) :
    Cg P (evL M low n (c.set k ((nth c k + d) % P))) (fun i => evL M low n c i + d * shN M low k (eV 0) i) := fun i => by
  simp only [evL]
  rw [sm_set (fun j => shN M low j (eV 0) i) hk hl]
  obtain ⟨e, he⟩ := cg_mod P (nth c k + d)
  refine ⟨e * shN M low k (eV 0) i, ?_⟩
  have h1 : (nth c k + d) % P - nth c k = d + P * e := by omega
  rw [h1, Int.add_mul, Int.mul_assoc]
  omega

theorem cvJ_ev {a b : List Int} {i n : Nat} {c : List Int} (hl : c.length = n) : ∀ j, i + j ≤ n →
    Cg P (evL M low n (cvJ P a b i c j)) (fun s => evL M low n c s + sm j (fun j => nth a i * nth b j * shN M low (i + j) (eV 0) s))
  | 0, _ => Cg.of_eq (by funext s; simp [cvJ, sm])
  | j + 1, hj => by
    have ih := cvJ_ev (a := a) (b := b) (i := i) hl j (by omega)
    rw [cvJ]
    refine (evL_step (by omega) (by rw [cvJ_len]; omega)).trans ((Cg.add ih (Cg.refl P _)).trans (Cg.of_eq ?_))
    funext s
    simp only [sm]
    omega
theorem cvI_ev {a b : List Int} {n : Nat} (hn : 2 * M - 1 ≤ n) (hM : 1 ≤ M) : ∀ i, i ≤ M →
    Cg P (evL M low n (cvI P a b M n i)) (fun s => sm i (fun i => sm M (fun j => nth a i * nth b j * shN M low (i + j) (eV 0) s)))
  | 0, _ => Cg.of_eq (by
    funext s
    simp only [evL, cvI, sm]
    rw [sm_congr (g := fun _ => 0) fun k _ => by
      have : nth (List.replicate n 0) k = 0 := by simp only [nth, List.getD_eq_getElem?_getD, List.getElem?_replicate]; split <;> rfl
      rw [this, Int.zero_mul], sm_zero])
  | i + 1, hi => by
    have ih := cvI_ev (a := a) (b := b) hn hM i (by omega)
    rw [cvI]
    refine (cvJ_ev (cvI_len P a b M n i) M (by omega)).trans ((Cg.add ih (Cg.refl P _)).trans (Cg.of_eq ?_))
    funext s
    simp only [sm]

theorem shN_M (hM : 1 ≤ M) : shN M low M (eV 0) = fun i => if i < M then - low i else 0 := by
  obtain ⟨m, rfl⟩ : ∃ m, M = m + 1 := ⟨M - 1, by omega⟩
  rw [shN, shN_e m (by omega)]
  funext i
  simp only [shV, eV]
  by_cases h : i < m + 1
  · rw [if_pos h, if_pos h, Nat.add_sub_cancel]
    by_cases h0 : i = 0
    · rw [if_pos h0, if_pos rfl]; omega
    · rw [if_neg h0, if_neg (by omega), if_pos rfl]; omega
  · rw [if_neg h, if_neg h]
theorem lowSum (hM : 1 ≤ M) (t : Nat) : (fun s => sm M (fun j => low j * shN M low (t + j) (eV 0) s)) = fun s => - shN M low (t + M) (eV 0) s := by
  have h1 : (fun s => sm M (fun j => low j * shN M low (t + j) (eV 0) s)) = shN M low t (fun s => sm M (fun j => low j * shN M low j (eV 0) s)) := by
    rw [shN_sm]
    funext s
    refine sm_congr fun j _ => ?_
    rw [shN_smul, shN_comp]
  have h2 : (fun s => sm M (fun j => low j * shN M low j (eV 0) s)) = fun s => (-1) * shN M low M (eV 0) s := by
    funext s
    rw [congrFun (shN_M (low := low) hM) s]
    have h3 : sm M (fun j => low j * shN M low j (eV 0) s) = sm M (fun j => low j * eV j s) := sm_congr fun j hj => by rw [shN_e j hj]
    rw [h3]
    by_cases hs : s < M
    · rw [sm_single hs fun i _ hne => by simp only [eV]; rw [if_neg (by omega)]; omega]
      rw [if_pos hs]
      simp [eV]
    · rw [if_neg hs, sm_congr (g := fun _ => 0) fun j hj => by simp only [eV]; rw [if_neg (by omega)]; omega, sm_zero]; rfl
  rw [h1, h2, shN_smul]
  funext s
  rw [← shN_comp]
  omega

theorem rdJ_top {mod : List Int} {i : Nat} {c : List Int} (hi : M ≤ i) (hl : i < c.length) : ∀ j, j ≤ M → nth (rdJ P M mod i c j) i = nth c i
  | 0, _ => rfl
  | j + 1, hj => by
    rw [rdJ, nth_set _ _ _ _ (by rw [rdJ_len]; omega), if_neg (by omega)]
    exact rdJ_top hi hl j (by omega)
theorem rdJ_ev {mod : List Int} {i : Nat} {c : List Int} (hi : M ≤ i) (hl : i < c.length) : ∀ j, j ≤ M →
    Cg P (evL M low i (rdJ P M mod i c j)) (fun s => evL M low i c s + (- nth c i) * sm j (fun j => nth mod j * shN M low (i - M + j) (eV 0) s))
  | 0, _ => Cg.of_eq (by funext s; simp [rdJ, sm])
  | j + 1, hj => by
    have ih := rdJ_ev (mod := mod) hi hl j (by omega)
    rw [rdJ, rdJ_top hi hl j (by omega)]
    refine (evL_step (by omega) (by rw [rdJ_len]; omega)).trans ?_
    refine (Cg.add ih (Cg.refl P _)).trans ?_
    intro s
    simp only [sm]
    generalize sm j (fun j => nth mod j * shN M low (i - M + j) (eV 0) s) = X
    generalize shN M low (i - M + j) (eV 0) s = Y
    refine ⟨nth mod j * Y, ?_⟩
    simp only [Int.mul_add, Int.sub_mul, Int.neg_mul, Int.mul_assoc]
    omega
theorem rdT_ev {mod : List Int} (hM : 1 ≤ M) (hlow : ∀ j, low j = nth mod j) {c : List Int} (hl : c.length = 2 * M - 1) : ∀ k, k ≤ M - 1 →
    Cg P (evL M low (2 * M - 1 - k) (rdT P M mod c k)) (evL M low (2 * M - 1) c)
  | 0, _ => Cg.refl P _
  | k + 1, hk => by
    have ih := rdT_ev hM hlow hl k (by omega)
    rw [rdT]
    refine Cg.trans ?_ ih
    obtain ⟨i, hi⟩ : ∃ i, 2 * M - 2 - k = i := ⟨_, rfl⟩
    rw [hi, show 2 * M - 1 - (k + 1) = i by omega, show 2 * M - 1 - k = i + 1 by omega]
    refine (rdJ_ev (low := low) (by omega) (by rw [rdT_len]; omega) M (Nat.le_refl _)).trans (Cg.of_eq ?_)
    funext s
    have h1 : sm M (fun j => low j * shN M low (i - M + j) (eV 0) s) = - shN M low (i - M + M) (eV 0) s := congrFun (lowSum (low := low) hM (i - M)) s
    rw [sm_congr (g := fun j => low j * shN M low (i - M + j) (eV 0) s) fun j _ => by rw [hlow], h1, show i - M + M = i by omega]
    simp only [evL, sm]
    rw [Int.neg_mul, Int.mul_neg]
    omega

theorem evL_take (c : List Int) (hl : M ≤ c.length) : evL M low M c = nth (c.take M) := by
  funext s
  simp only [evL]
  rw [sm_congr (g := fun j => nth c j * eV j s) fun j hj => by rw [shN_e j hj]]
  by_cases hs : s < M
  · rw [sm_single hs fun i _ hne => by simp only [eV]; rw [if_neg (by omega)]; omega, nth_take hs]
    simp [eV]
  · rw [nth_out (by rw [List.length_take]; omega), sm_congr (g := fun _ => 0) fun j hj => by simp only [eV]; rw [if_neg (by omega)]; omega, sm_zero]
end

theorem mulR_eq {P : Int} {m : Nat} (hf : RF P m) (mod : List Int) (x y : Int) : mulR P m mod x y = mulS P m mod x y := by
  have hres := hf.res
  have hP := hres.pos
  have hm1 := hf.m1
  refine (mulR_el hf mod x y).ext hres (mulS_el hres x y) (Cg.trans ?_ (dV_mulS hP m mod x y).symm)
  have hd : dV P m (mulR P m mod x y) = nth (mulL P m mod (digs x P m) (digs y P m)) := by
    unfold dV mulR
    have := digs_valu (P := P) (mulL P m mod (digs x P m) (digs y P m)) (mulL_dig hP m mod _ _)
    rw [mulL_len P mod _ _ hm1] at this
    rw [this]
  rw [hd]
  have hc := cvI_ev (P := P) (M := m) (low := nth (lowF m mod)) (a := digs x P m) (b := digs y P m) (n := 2 * m - 1) (Nat.le_refl _) hm1 m (Nat.le_refl _)
  have hx : Cg P (evL m (nth (lowF m mod)) (2 * m - 1) (cvI P (digs x P m) (digs y P m) m (2 * m - 1) m)) (mulV m (nth (lowF m mod)) (dV P m x) (dV P m y)) := by
    rw [mulV_expand (dV_sh P m y)]
    exact hc
  refine Cg.trans ?_ hx
  unfold mulL
  by_cases h1 : 1 < m
  · have hlow : ∀ j, nth (lowF m mod) j = nth mod j := fun j => by rw [lowF, if_pos h1]
    have hr := rdT_ev (P := P) hm1 hlow (cvI_len P (digs x P m) (digs y P m) m (2 * m - 1) m) (m - 1) (Nat.le_refl _)
    rw [show 2 * m - 1 - (m - 1) = m by omega, evL_take _ (by rw [rdT_len, cvI_len]; omega)] at hr
    exact hr
  · obtain rfl : m = 1 := by omega
    rw [← evL_take (M := 1) (low := nth (lowF 1 mod)) _ (by rw [rdT_len, cvI_len]; omega)]
    exact Cg.refl P _
end

end Go.Proofs.YtcflcogbpnmjeaaGreat
