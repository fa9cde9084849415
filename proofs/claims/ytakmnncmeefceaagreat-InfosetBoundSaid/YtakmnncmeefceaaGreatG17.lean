/- The walk of ordering.Dimension. -/
import Derived.Test.YtakmnncmeefceaaGreatG15
import Derived.Test.YtakmnncmeefceaaGreatG16
import Derived.Test.YtakmnncmeefceaaGreatG13
import Derived.Test.YtakmnncmeefceaaGreatG9
import Derived.Test.YtakmnncmeefceaaGreatG10
import Derived.Laws.Bits64
import Derived.Laws.Bits64b
namespace Go.Proofs.YtakmnncmeefceaaGreat
set_option linter.unusedVariables false
set_option linter.unusedSimpArgs false
set_option linter.unusedSectionVars false

/- The tables of all descriptions of fields. -/
section
theorem tab5_2_0 : chkC 5 2 25 cert5_2 0 25 = true := by decide +kernel
theorem tab5_2 : chkAll 5 2 25 cert5_2 := chkAll_add (chkAll_nil 5 2 25 cert5_2) tab5_2_0
theorem tab5_3_0 : chkC 5 3 125 cert5_3 0 32 = true := by decide +kernel
theorem tab5_3_32 : chkC 5 3 125 cert5_3 32 32 = true := by decide +kernel
theorem tab5_3_64 : chkC 5 3 125 cert5_3 64 32 = true := by decide +kernel
theorem tab5_3_96 : chkC 5 3 125 cert5_3 96 29 = true := by decide +kernel
theorem tab5_3 : chkAll 5 3 125 cert5_3 := chkAll_add (chkAll_add (chkAll_add (chkAll_add (chkAll_nil 5 3 125 cert5_3) tab5_3_0) tab5_3_32) tab5_3_64) tab5_3_96
theorem tab7_2_0 : chkC 7 2 49 cert7_2 0 49 = true := by decide +kernel
theorem tab7_2 : chkAll 7 2 49 cert7_2 := chkAll_add (chkAll_nil 7 2 49 cert7_2) tab7_2_0
theorem tab11_2_0 : chkC 11 2 121 cert11_2 0 32 = true := by decide +kernel
theorem tab11_2_32 : chkC 11 2 121 cert11_2 32 32 = true := by decide +kernel
theorem tab11_2_64 : chkC 11 2 121 cert11_2 64 32 = true := by decide +kernel
theorem tab11_2_96 : chkC 11 2 121 cert11_2 96 25 = true := by decide +kernel
theorem tab11_2 : chkAll 11 2 121 cert11_2 := chkAll_add (chkAll_add (chkAll_add (chkAll_add (chkAll_nil 11 2 121 cert11_2) tab11_2_0) tab11_2_32) tab11_2_64) tab11_2_96
theorem tab13_2_0 : chkC 13 2 169 cert13_2 0 32 = true := by decide +kernel
theorem tab13_2_32 : chkC 13 2 169 cert13_2 32 32 = true := by decide +kernel
theorem tab13_2_64 : chkC 13 2 169 cert13_2 64 32 = true := by decide +kernel
theorem tab13_2_96 : chkC 13 2 169 cert13_2 96 32 = true := by decide +kernel
theorem tab13_2_128 : chkC 13 2 169 cert13_2 128 32 = true := by decide +kernel
theorem tab13_2_160 : chkC 13 2 169 cert13_2 160 9 = true := by decide +kernel
theorem tab13_2 : chkAll 13 2 169 cert13_2 := chkAll_add (chkAll_add (chkAll_add (chkAll_add (chkAll_add (chkAll_add (chkAll_nil 13 2 169 cert13_2) tab13_2_0) tab13_2_32) tab13_2_64) tab13_2_96) tab13_2_128) tab13_2_160

/-- the fields of prime order -/
def chkP (c : Nat × Nat) : Bool := ordOk (mulS c.1 1 []) c.1 c.2 && decide (0 < c.2) && decide (c.2 < c.1)
theorem tabP : roots.all chkP = true := by decide +kernel
theorem rootsAll : ((List.range 257).all fun p => p < 2 || !primeB p || roots.any fun c => c.1 == p) = true := by decide +kernel
end

/- The walk of the reference of layer 4: Check. -/
section
open Go.RowKit

/-- what the reference takes for a field -/
def fieldRB (P M : Int) (mod : List Int) : Bool := shapeB P M mod && (M == 1 || irrB P mod)

theorem shapeB_no0 {P M : Int} {mod : List Int} (h : orderS P M = 0) : shapeB P M mod = false := by simp [shapeB, h]
theorem shapeB_noP {P M : Int} {mod : List Int} (h : primeB P.toNat = false) : shapeB P M mod = false := by simp [shapeB, h]

set_option maxRecDepth 100000 in
set_option maxHeartbeats 4000000 in
theorem rFieldCheck_any (P M : Int) (am : Option Addr) (mn cm : Nat) (mod : List Int) (w : World) (hmod : Ints w am mn mod) :
    Calls Tryz.prog 87 #[.agg #[.int .i64 P, .int .i64 M, .slice am mn cm]] w fun e w' => e = .returned (.int .i64 (errField (fieldRB P M mod))) ∧ Below w.heap.size w w' := by
  have Hml := Lib.hid hmod.len
  have hplm := hmod.pl
  have hmax := hmod.max
  unfold maxLen at hmax
  go_enter Tryz.func87, Tryz.ntmps87
  go_wp2_with fail
  obtain ⟨W, hW⟩ : ∃ W : World, W = w.alloc (.cells #[.int .i64 P, .int .i64 M, .slice am mn cm] 24) := ⟨_, rfl⟩
  rw [← hW]
  have hbW : Below w.heap.size w W := by rw [hW]; exact below1 _ _
  have x0 : Box W w.heap.size [.int .i64 P, .int .i64 M, .slice am mn cm] := by rw [hW]; exact Box.new _ _ _ rfl
  have HX := Lib.hid x0
  clear hW x0
  refine (rOrder_any P M am mn cm W).mono ?_
  rintro e w1 ⟨rfl, hb1⟩
  have hbw1 := Below.next hbW hb1
  have xU := HX.out.keep hb1
  have d0 := xU.cell 0 rfl
  have d1 := xU.cell 1 rfl
  have d2 := xU.cell 2 rfl
  have hm1 := (hmod.keep hbW).keep hb1
  clear xU
  by_cases ho : orderS P M = 0
  · have Hf : Hid (errField (fieldRB P M mod) = 1) := by show _ = _; rw [fieldRB, shapeB_no0 ho]; rfl
    rw [ho]
    clear ho
    go_wp2_with fail
    go_ret
    exact ⟨ret_int Hf.out.symm, hbw1⟩
  · obtain ⟨m, rfl, hrf⟩ := RF.of ho
    have hp2 := hrf.p2
    have hp256 := hrf.p256
    have hm1' := hrf.m1
    have hm8 := hrf.m8
    have hoo : (orderS P m == 0) = false := by simpa using ho
    have Ho := Lib.hid ho
    obtain ⟨p, rfl⟩ : ∃ p : Nat, P = p := ⟨P.toNat, by omega⟩
    clear ho
    by_cases hpr : primeB p = true
    · have Hpr := Lib.hid hpr
      have Hc := Lib.hid (rPrime_any p w1 (by omega) (by omega))
      rw [hpr] at Hc
      clear hpr
      have hsh : shapeB p m mod = (if (m : Int) = 1 then mod.length == 0 else decide ((mod.length : Int) = m) && mod.all fun c => decide (0 ≤ c) && decide (c < p)) := by
        have h1 : (orderS p m != 0) = true := by have := Ho.out; simpa using this
        rw [shapeB, h1, Int.toNat_natCast, Hpr.out]; rfl
      have Hsh := Lib.hid hsh
      clear hsh
      by_cases hM : m = 1
      · have hM' : ((m : Int) == 1) = true := by simp [hM]
        have hMi : (m : Int) = 1 := by omega
        have HfR : Hid (fieldRB p m mod = (mod.length == 0)) := by show _ = _; rw [fieldRB, Hsh.out, if_pos hMi, hM']; simp
        clear hM hMi
        by_cases hl : mn = 0
        · have hl' : ((mn : Int) != 0) = false := by simp [hl]
          have Hf : Hid (errField (fieldRB p m mod) = 0) := by show _ = _; rw [HfR.out, Hml.out, hl]; rfl
          clear hl
          go_wp2_with (go_at_call 126; refine Hc.out.mono ?_; rintro e w2 ⟨rfl, rfl⟩)
          go_ret
          exact ⟨ret_int Hf.out.symm, hbw1⟩
        · have hl' : ((mn : Int) != 0) = true := by simp; omega
          have Hf : Hid (errField (fieldRB p m mod) = 1) := by
            show _ = _; rw [HfR.out, Hml.out]
            have : (mn == 0) = false := by simpa using hl
            rw [this]; rfl
          clear hl
          go_wp2_with (go_at_call 126; refine Hc.out.mono ?_; rintro e w2 ⟨rfl, rfl⟩)
          go_ret
          exact ⟨ret_int Hf.out.symm, hbw1⟩
      · have hM' : ((m : Int) == 1) = false := by simp; omega
        have hMi : ¬ (m : Int) = 1 := by omega
        have HfR : Hid (fieldRB p m mod = (decide ((mod.length : Int) = m) && (mod.all fun c => decide (0 ≤ c) && decide (c < p)) && irrB p mod)) := by
          show _ = _; rw [fieldRB, Hsh.out, if_neg hMi, hM']; simp
        clear hM hMi
        by_cases hl : mn = m
        · have hl' : ((mn : Int) != m) = false := by simp [hl]
          have HfR2 : Hid (fieldRB p m mod = ((mod.all fun c => decide (0 ≤ c) && decide (c < p)) && irrB p mod)) := by show _ = _; rw [HfR.out, Hml.out, hl]; simp
          have Hmn : Hid (mn = m) := hl
          have hmnm : (mn : Int) = m := by omega
          clear hl hmnm
          go_wp2_with (go_at_call 126; refine Hc.out.mono ?_; rintro e w2 ⟨rfl, rfl⟩)
          go_loopw [3] (fun iv wr => ∃ k : Nat, k ≤ m ∧ iv = .int .i64 k ∧ Hid ((mod.take k).all (fun c => decide (0 ≤ c) && decide (c < p)) = true) ∧ Drawn w1 wr) (fun iv _ => m - (intOf iv).toNat)
          case atStart => exact ⟨0, Nat.zero_le _, rfl, by show _ = _; simp, Drawn.refl _⟩
          case round =>
            obtain ⟨k, hk, rfl, hall, hd⟩ := hrel
            have e0 := hd.cell d0
            have e1 := hd.cell d1
            have e2 := hd.cell d2
            have hmr := hm1.drawn hd
            by_cases hlt : k < m
            · have hkmn : k < mn := by rw [Hmn.out]; exact hlt
              have ck := hmr.cell k hkmn
              have hkl : k < mod.length := by rw [Hml.out]; exact hkmn
              have hkmn' : (k : Int) < mn := by omega
              by_cases h0 : 0 ≤ nth mod k
              · have t0 : decide (nth mod k < 0) = false := by simp; omega
                by_cases h1 : nth mod k < p
                · have t1 : decide ((p : Int) ≤ nth mod k) = false := by simp; omega
                  have Hs : Hid ((mod.take (k + 1)).all (fun c => decide (0 ≤ c) && decide (c < p)) = true) := all_take_succ hkl hall.out (by rw [← nth_getElem hkl]; simp [h0, h1])
                  go_wp2_with fail
                  go_quiet (fail)
                  go_wp2
                  go_roundw
                  case rel => exact ⟨k + 1, by omega, by go_num, Hs.out, hd.drewN _⟩
                  case measure => simp [intOf] <;> omega
                · have t1 : decide ((p : Int) ≤ nth mod k) = true := by simp; omega
                  have Hf : Hid (errField (fieldRB p m mod) = 1) := by show _ = _; rw [HfR2.out, all_false_at hkl (by rw [← nth_getElem hkl]; simp [h1])]; rfl
                  go_wp2_with fail
                  go_quiet (fail)
                  go_wp2
                  go_ret
                  exact ⟨ret_int Hf.out.symm, Below.next hbw1 (hd.drewN _).below⟩
              · have t0 : decide (nth mod k < 0) = true := by simp; omega
                have Hf : Hid (errField (fieldRB p m mod) = 1) := by show _ = _; rw [HfR2.out, all_false_at hkl (by rw [← nth_getElem hkl]; simp [h0])]; rfl
                go_wp2_with fail
                go_quiet (fail)
                go_wp2
                go_ret
                exact ⟨ret_int Hf.out.symm, Below.next hbw1 (hd.drewN _).below⟩
            · obtain rfl : k = m := by omega
              have Hall : Hid ((mod.all fun c => decide (0 ≤ c) && decide (c < p)) = true) := by
                have := hall.out
                rwa [List.take_of_length_le (by rw [Hml.out, Hmn.out]; exact Nat.le_refl _)] at this
              have HfR3 : Hid (fieldRB p k mod = irrB p mod) := by show _ = _; rw [HfR2.out, Hall.out]; simp
              have hdig : Dig (p : Int) mod := Dig.of_mem (by omega) fun x hx => by
                have := List.all_eq_true.1 Hall.out x hx
                simpa using this
              have hpw : (p : Int) ^ mn ≤ 256 := by rw [Hmn.out]; exact hrf.pw
              have hmn8 : mn ≤ 8 := by rw [Hmn.out]; exact hm8
              go_wp2_with fail
              refine (rIrreducible_any am mn cm mod p wr hmr hp2 hp256 hdig hmn8 hpw).mono ?_
              rintro e w4 ⟨rfl, hb4⟩
              have hbw4 := Below.next (Below.next hbw1 hd.below) hb4
              by_cases hir : irrB p mod = true
              · have Hf : Hid (errField (fieldRB p k mod) = 0) := by show _ = _; rw [HfR3.out, hir]; rfl
                rw [hir]
                clear hir
                go_wp2_with fail
                go_ret
                exact ⟨ret_int Hf.out.symm, hbw4⟩
              · have hir' : irrB p mod = false := by simpa using hir
                have Hf : Hid (errField (fieldRB p k mod) = 1) := by show _ = _; rw [HfR3.out, hir']; rfl
                rw [hir']
                clear hir hir'
                go_wp2_with fail
                go_ret
                exact ⟨ret_int Hf.out.symm, hbw4⟩
        · have hl' : ((mn : Int) != m) = true := by simp; omega
          have Hf : Hid (errField (fieldRB p m mod) = 1) := by
            show _ = _; rw [HfR.out, Hml.out]
            have : decide ((mn : Int) = m) = false := by simp; omega
            rw [this]; rfl
          clear hl
          go_wp2_with (go_at_call 126; refine Hc.out.mono ?_; rintro e w2 ⟨rfl, rfl⟩)
          go_ret
          exact ⟨ret_int Hf.out.symm, hbw1⟩
    · have hpr' : primeB p = false := by simpa using hpr
      have Hf : Hid (errField (fieldRB p m mod) = 1) := by show _ = _; rw [fieldRB, shapeB_noP (by simpa using hpr')]; rfl
      have Hc := Lib.hid (rPrime_any p w1 (by omega) (by omega))
      rw [hpr'] at Hc
      clear hpr hpr'
      go_wp2_with (go_at_call 126; refine Hc.out.mono ?_; rintro e w2 ⟨rfl, rfl⟩)
      go_ret
      exact ⟨ret_int Hf.out.symm, hbw1⟩
end

/- A description is a field for the program (a generator exists) exactly if it is one for the reference (prime, irreducible). -/
section
section
variable {P : Int} {M : Nat} {mod : List Int} {q : Nat} {x : Int}

theorem pw_one (h : Res P M) (hx : ElP P M x) : pw P M mod x 1 = x := by show mulS P M mod (pw P M mod x 0) x = x; rw [pw, mulS_one h hx]
theorem pw_two (h : Res P M) (hx : ElP P M x) : pw P M mod x 2 = mulS P M mod x x := by show mulS P M mod (pw P M mod x 1) x = _; rw [pw_one h hx]
theorem pw_sq (h : Res P M) (hx : ElP P M x) : ∀ k, pw P M mod (mulS P M mod x x) k = pw P M mod x (2 * k)
  | 0 => rfl
  | k + 1 => by rw [pw, pw_sq h hx k, ← pw_two h hx, pw_add h]; rfl
theorem fpw_eq (h : Res P M) : ∀ (f n : Nat) (x : Int), ElP P M x → n < 2 ^ f → fpw (mulS P M mod) f x n = pw P M mod x n
  | 0, n, x, hx, hn => by
    have : n = 0 := by simpa using hn
    subst this; rfl
  | f + 1, n, x, hx, hn => by
    have ih := fpw_eq h f (n / 2) (mulS P M mod x x) (mulS_el h x x) (by rw [Nat.pow_succ] at hn; omega)
    unfold fpw
    split
    · rename_i h0; subst h0; rfl
    · rw [ih, pw_sq h hx]
      split
      · rename_i h1
        have e : n = 2 * (n / 2) + 1 := by omega
        have e2 : pw P M mod x n = pw P M mod x (2 * (n / 2) + 1) := congrArg _ e
        rw [e2]; rfl
      · rename_i h1
        have e : n = 2 * (n / 2) := by omega
        exact (congrArg _ e).symm

/-- the order of x is q - 1 -/
structure Ord (P : Int) (M : Nat) (mod : List Int) (q : Nat) (x : Int) : Prop where
  one : pw P M mod x (q - 1) = 1
  ne : ∀ k, 0 < k → k < q - 1 → pw P M mod x k ≠ 1

theorem pw_mul1 (h : Res P M) {a : Nat} (h1 : pw P M mod x a = 1) : ∀ n, pw P M mod x (a * n) = 1
  | 0 => rfl
  | n + 1 => by rw [Nat.mul_succ, ← pw_add h, pw_mul1 h h1 n, h1, mulS_one h (one_el h)]
theorem pw_mod1 (h : Res P M) {a b : Nat} (ha : pw P M mod x a = 1) (hb : pw P M mod x b = 1) : pw P M mod x (a % b) = 1 := by
  have e : a = b * (a / b) + a % b := (Nat.div_add_mod a b).symm
  rw [e, ← pw_add h, pw_mul1 h hb, mulS_one h (pw_el h x _)] at ha
  exact ha
theorem pw_gcd (h : Res P M) : ∀ (b a : Nat), pw P M mod x a = 1 → pw P M mod x b = 1 → pw P M mod x (Nat.gcd b a) = 1 := by
  intro b
  induction b using Nat.strongRecOn with
  | ind b ih =>
    intro a ha hb
    by_cases h0 : b = 0
    · subst h0; rw [Nat.gcd_zero_left]; exact ha
    · rw [Nat.gcd_rec]
      exact ih (a % b) (Nat.mod_lt _ (by omega)) b hb (pw_mod1 h ha hb)

theorem Ord.of (h : Res P M) (hx : ElP P M x) (hq : q ≤ 256) (ho : ordOk (mulS P M mod) q x = true) : Ord P M mod q x := by
  unfold ordOk at ho
  rw [Bool.and_eq_true] at ho
  obtain ⟨h1, h2⟩ := ho
  have h1' := eq_of_beq h1
  rw [fpw_eq h 8 _ x hx (by omega)] at h1'
  refine ⟨h1', fun k hk0 hk1 hk => ?_⟩
  have hg := pw_gcd h k (q - 1) h1' hk
  have hgd : Nat.gcd k (q - 1) ∣ q - 1 := Nat.gcd_dvd_right _ _
  have hgl : Nat.gcd k (q - 1) ≤ k := Nat.gcd_le_left _ hk0
  have hg0 : 0 < Nat.gcd k (q - 1) := Nat.gcd_pos_of_pos_left _ hk0
  have h3 := List.all_eq_true.1 h2 (Nat.gcd k (q - 1)) (List.mem_range.2 (by omega))
  have h4 : (q - 1) % Nat.gcd k (q - 1) = 0 := Nat.mod_eq_zero_of_dvd hgd
  simp only [Bool.or_eq_true, beq_iff_eq, bne_iff_ne, ne_eq] at h3
  rcases h3 with (h3 | h3) | h3
  · omega
  · exact h3 h4
  · rw [fpw_eq h 8 _ x hx (by omega)] at h3
    exact h3 hg

theorem Ord.nz (h : Res P M) (o : Ord P M mod q x) {k : Nat} (hk : k < q - 1) : pw P M mod x k ≠ 0 := by
  intro h0
  have h1 := pw_add (mod := mod) h x k (q - 1 - k)
  rw [h0, mulS_comm h, mulS_zero h, show k + (q - 1 - k) = q - 1 by omega, o.one] at h1
  omega
theorem Ord.inj (h : Res P M) (o : Ord P M mod q x) {i j : Nat} (hij : i < j) (hj : j < q - 1) : pw P M mod x i ≠ pw P M mod x j := by
  intro e
  have h1 := pw_add (mod := mod) h x i (q - 1 - i)
  have h2 := pw_add (mod := mod) h x j (q - 1 - i)
  rw [show i + (q - 1 - i) = q - 1 by omega, o.one, e, h2] at h1
  have h3 : pw P M mod x (j - i) = 1 := by
    have h4 := pw_add (mod := mod) h x (j - i) (q - 1)
    rw [o.one, mulS_comm h, mulS_one h (pw_el h x _), show j - i + (q - 1) = j + (q - 1 - i) by omega, h1] at h4
    exact h4
  exact o.ne (j - i) (by omega) (by omega) h3

/-- the list of the powers, up to the last one -/
theorem powTo_full (h : Res P M) (hx : ElP P M x) (o : Ord P M mod q x) : ∀ (n k : Nat), k ≤ q - 1 → q - 1 - k < n → 0 < k →
    powTo (fun z => mulS P M mod z x) n ((List.range k).map fun i => pw P M mod x i) (pw P M mod x k) = (List.range (q - 1)).map fun i => pw P M mod x i
  | 0, k, _, hn, _ => by omega
  | n + 1, k, hk, hn, h0 => by
    by_cases hke : k = q - 1
    · subst hke
      refine powTo_stop _ _ _ _ (.inr ?_)
      rw [o.one, List.mem_map]
      exact ⟨0, List.mem_range.2 h0, rfl⟩
    · rw [powTo_go]
      · have e : (List.range k).map (fun i => pw P M mod x i) ++ [pw P M mod x k] = (List.range (k + 1)).map fun i => pw P M mod x i := by rw [List.range_succ, List.map_append]; rfl
        rw [e]
        exact powTo_full h hx o n (k + 1) (by omega) (by omega) (by omega)
      · rintro (h1 | h1)
        · exact o.nz h (by omega) h1
        · obtain ⟨i, hi, e⟩ := List.mem_map.1 h1
          exact o.inj h (List.mem_range.1 hi) (by omega) e
theorem Ord.isGen (h : Res P M) (hx : ElP P M x) (hq : 2 ≤ q) (o : Ord P M mod q x) : isGen P M mod q x = true := by
  have hl : powS P M mod q x = (List.range (q - 1)).map fun i => pw P M mod x i := by
    by_cases h2 : q = 2
    · subst h2
      have : x = 1 := by have := o.one; rwa [show 2 - 1 = 1 from rfl, pw_one h hx] at this
      subst this
      rw [powS, powTo_stop _ _ _ _ (.inr (by simp))]
      rfl
    · have := powTo_full h hx o q 1 (by omega) (by omega) (by omega)
      rw [pw_one h hx] at this
      exact this
  unfold Proofs.YtakmnncmeefceaaGreat.isGen
  rw [hl, Bool.and_eq_true]
  refine ⟨by simp, ?_⟩
  have e : nth ((List.range (q - 1)).map fun i => pw P M mod x i) (q - 2) = pw P M mod x (q - 2) := by
    rw [nth_getElem (by simp; omega)]; simp
  rw [e]
  have : mulS P M mod (pw P M mod x (q - 2)) x = pw P M mod x (q - 1) := by rw [show q - 1 = (q - 2) + 1 by omega]; rfl
  rw [this, o.one]; rfl

theorem genTo_some : ∀ (n x y : Nat), 2 ≤ q → x ≤ y → y < x + n → isGen P M mod q y = true → genTo P M mod q n x ≠ []
  | 0, x, y, _, h1, h2, _ => by omega
  | n + 1, x, y, hq, h1, h2, hg => by
    rw [genTo]
    by_cases hx : isGen P M mod q x = true
    · rw [if_pos hx]
      intro e
      simp only [isGen, Bool.and_eq_true, beq_iff_eq] at hx
      rw [e] at hx
      simp at hx
      omega
    · rw [if_neg hx]
      refine genTo_some n (x + 1) y hq ?_ (by omega) hg
      rcases Nat.eq_or_lt_of_le h1 with h3 | h3
      · subst h3; exact absurd hg hx
      · exact h3
theorem no_zero_div {ex : List Int} {y a b : Int} (g : Gen P M mod q y ex) (ha : ElP P M a) (hb : ElP P M b) (ha0 : a ≠ 0) (hb0 : b ≠ 0) : mulS P M mod a b ≠ 0 := by
  obtain ⟨i, _, rfl, _⟩ := g.log ha ha0
  obtain ⟨j, _, rfl, _⟩ := g.log hb hb0
  rw [pw_add g.res]
  exact g.pw_ne _
end

theorem chkAll_at {P : Int} {M q : Nat} {l : List (Nat × Nat)} (h : chkAll P M q l) {v : Nat} (hv : v < q) : ∃ c, chkV P M q v c = true := ⟨_, h v hv⟩

theorem tabOf (p m : Nat) (hp : primeB p = true) (h2 : 2 ≤ p) (hm : 2 ≤ m) (hm8 : m ≤ 8) (hpw : (p : Int) ^ m ≤ 256) : ∃ l, chkAll p m (((p : Int) ^ m).toNat) l := by
  have hp16 : p ≤ 16 := by
    have h1 := pow_mono (P := (p : Int)) (by omega) hm
    have h3 : (p : Int) ^ 2 = p * p := by rw [Int.pow_succ, Int.pow_succ, Int.pow_zero, Int.one_mul]
    rcases Nat.lt_or_ge 16 p with h4 | h4
    · have h5 : 17 * 17 ≤ p * p := Nat.mul_le_mul h4 h4
      have h6 : ((17 * 17 : Nat) : Int) ≤ ((p * p : Nat) : Int) := Int.ofNat_le.2 h5
      rw [Int.natCast_mul] at h6
      omega
    · exact h4
  have hc : p = 2 ∨ p = 3 ∨ p = 4 ∨ p = 5 ∨ p = 6 ∨ p = 7 ∨ p = 8 ∨ p = 9 ∨ p = 10 ∨ p = 11 ∨ p = 12 ∨ p = 13 ∨ p = 14 ∨ p = 15 ∨ p = 16 := by omega
  have hd : m = 2 ∨ m = 3 ∨ m = 4 ∨ m = 5 ∨ m = 6 ∨ m = 7 ∨ m = 8 := by omega
  rcases hc with rfl | rfl | rfl | rfl | rfl | rfl | rfl | rfl | rfl | rfl | rfl | rfl | rfl | rfl | rfl
  · rcases hd with rfl | rfl | rfl | rfl | rfl | rfl | rfl
    · exact ⟨_, tab2_2⟩
    · exact ⟨_, tab2_3⟩
    · exact ⟨_, tab2_4⟩
    · exact ⟨_, tab2_5⟩
    · exact ⟨_, tab2_6⟩
    · exact ⟨_, tab2_7⟩
    · exact ⟨_, tab2_8⟩
  · rcases hd with rfl | rfl | rfl | rfl | rfl | rfl | rfl
    · exact ⟨_, tab3_2⟩
    · exact ⟨_, tab3_3⟩
    · exact ⟨_, tab3_4⟩
    · exact ⟨_, tab3_5⟩
    · exact absurd hpw (by decide)
    · exact absurd hpw (by decide)
    · exact absurd hpw (by decide)
  · exact absurd hp (by decide)
  · rcases hd with rfl | rfl | rfl | rfl | rfl | rfl | rfl
    · exact ⟨_, tab5_2⟩
    · exact ⟨_, tab5_3⟩
    · exact absurd hpw (by decide)
    · exact absurd hpw (by decide)
    · exact absurd hpw (by decide)
    · exact absurd hpw (by decide)
    · exact absurd hpw (by decide)
  · exact absurd hp (by decide)
  · rcases hd with rfl | rfl | rfl | rfl | rfl | rfl | rfl
    · exact ⟨_, tab7_2⟩
    · exact absurd hpw (by decide)
    · exact absurd hpw (by decide)
    · exact absurd hpw (by decide)
    · exact absurd hpw (by decide)
    · exact absurd hpw (by decide)
    · exact absurd hpw (by decide)
  · exact absurd hp (by decide)
  · exact absurd hp (by decide)
  · exact absurd hp (by decide)
  · rcases hd with rfl | rfl | rfl | rfl | rfl | rfl | rfl
    · exact ⟨_, tab11_2⟩
    · exact absurd hpw (by decide)
    · exact absurd hpw (by decide)
    · exact absurd hpw (by decide)
    · exact absurd hpw (by decide)
    · exact absurd hpw (by decide)
    · exact absurd hpw (by decide)
  · exact absurd hp (by decide)
  · rcases hd with rfl | rfl | rfl | rfl | rfl | rfl | rfl
    · exact ⟨_, tab13_2⟩
    · exact absurd hpw (by decide)
    · exact absurd hpw (by decide)
    · exact absurd hpw (by decide)
    · exact absurd hpw (by decide)
    · exact absurd hpw (by decide)
    · exact absurd hpw (by decide)
  · exact absurd hp (by decide)
  · exact absurd hp (by decide)
  · exact absurd hp (by decide)

theorem valu_el {P : Int} {m : Nat} (hf : RF P m) {mod : List Int} (hd : Dig P mod) (hl : mod.length = m) : 0 ≤ valu P mod ∧ valu P mod < P ^ m := by
  have := valu_bd (P := P) (by have := hf.p2; omega) mod hd
  rwa [hl] at this

theorem fieldRB_eq (P M : Int) (mod : List Int) : fieldRB P M mod = fieldB P M mod := by
  by_cases hs : shapeB P M mod = true
  · unfold fieldRB fieldB
    rw [hs, Bool.true_and, Bool.true_and]
    have hs2 := hs
    unfold shapeB at hs2
    simp only [Bool.and_eq_true, bne_iff_ne, ne_eq] at hs2
    obtain ⟨⟨h1, h2⟩, h3⟩ := hs2
    obtain ⟨m, rfl, hrf⟩ := RF.of h1
    obtain ⟨p, rfl⟩ : ∃ p : Nat, P = p := ⟨P.toNat, by have := hrf.p2; omega⟩
    rw [Int.toNat_natCast] at h2 ⊢
    have hp2 : 2 ≤ p := by have := hrf.p2; omega
    have hp256 : p ≤ 256 := by have := hrf.p256; omega
    have hord := hrf.order
    have hres := hrf.res
    obtain ⟨q, hq⟩ : ∃ q : Nat, (p : Int) ^ m = q := ⟨((p : Int) ^ m).toNat, by have := one_lt_pow hres; omega⟩
    have hq2 : 2 ≤ q := by have := one_lt_pow hres; omega
    have hq256 : q ≤ 256 := by have := hrf.pw; omega
    rw [hord, hq, Int.toNat_natCast]
    have hgen : ∀ x : Nat, 0 < x → x < q → ordOk (mulS p m mod) q x = true → (genS p m mod q).isEmpty = false := fun x hx0 hx1 ho => by
      have hel : ElP (p : Int) m x := ⟨by omega, by rw [hq]; omega⟩
      have hg := (Ord.of hres hel hq256 ho).isGen hres hel hq2
      have := genTo_some (P := p) (M := m) (mod := mod) (q - 1) 1 x hq2 (by omega) (by omega) hg
      unfold genS
      cases h : genTo p m mod q (q - 1) 1 with
      | nil => exact absurd h this
      | cons y l => rfl
    by_cases hm : m = 1
    · subst hm
      have hmod : mod = [] := by
        rw [if_pos (by simp)] at h3
        exact List.eq_nil_of_length_eq_zero (by simpa using h3)
      subst hmod
      have hr := List.all_eq_true.1 rootsAll p (List.mem_range.2 (by omega))
      have hp2' : decide (p < 2) = false := by simp; omega
      rw [hp2', h2] at hr
      simp only [Bool.not_true, Bool.false_or, List.any_eq_true] at hr
      obtain ⟨c, hc, hcp⟩ := hr
      have hck := List.all_eq_true.1 tabP c hc
      have hcp2 : c.1 = p := by simpa using hcp
      unfold chkP at hck
      rw [hcp2] at hck
      simp only [Bool.and_eq_true, decide_eq_true_eq] at hck
      have hqp : q = p := by have : (p : Int) ^ 1 = p := by rw [Int.pow_succ, Int.pow_zero, Int.one_mul]
                             omega
      rw [hgen c.2 hck.1.2 (by omega) (by rw [hqp]; exact hck.1.1)]
      rfl
    · have hM : ¬ (m : Int) = 1 := by omega
      rw [if_neg hM] at h3
      simp only [Bool.and_eq_true, decide_eq_true_eq] at h3
      have hlen : mod.length = m := by omega
      have hdig : Dig (p : Int) mod := Dig.of_mem (by omega) fun x hx => by
        have := List.all_eq_true.1 h3.2 x hx
        simpa using this
      have hv := valu_el hrf hdig hlen
      obtain ⟨v, hvv⟩ : ∃ v : Nat, valu p mod = v := ⟨(valu p mod).toNat, by omega⟩
      have hdv : digs v p m = mod := by rw [← hvv, ← hlen]; exact digs_valu mod hdig
      obtain ⟨l, hl⟩ := tabOf p m h2 hp2 (by have := hrf.m1; omega) hrf.m8 hrf.pw
      rw [hq, Int.toNat_natCast] at hl
      obtain ⟨c, hc⟩ := chkAll_at hl (v := v) (by omega)
      have hM' : ((m : Int) == 1) = false := by simpa using hM
      rw [hM', Bool.false_or]
      unfold chkV at hc
      rw [hdv] at hc
      split at hc
      · simp only [Bool.and_eq_true, decide_eq_true_eq] at hc
        rw [hc.1.1.1, hgen c.1 hc.1.2 hc.2 hc.1.1.2]; rfl
      · rename_i hc2
        simp only [Bool.and_eq_true, decide_eq_true_eq, Bool.not_eq_true', beq_iff_eq] at hc
        rw [hc.1.1.1.1]
        cases h : (genS p m mod q).isEmpty with
        | true => rfl
        | false =>
          exfalso
          have hne : genS p m mod q ≠ [] := fun e => by rw [e] at h; cases h
          obtain ⟨y, hy1, hy2, hy3, hy4⟩ := genS_spec hne
          have g := Gen.of_isGen (mod := mod) hres hq.symm ⟨by omega, by omega⟩ hy3
          exact no_zero_div g (a := (c.1 : Int)) (b := (c.2 : Int)) ⟨by omega, by omega⟩ ⟨by omega, by omega⟩ (by omega) (by omega) hc.1.1.1.2
  · have hs' : shapeB P M mod = false := by simpa using hs
    simp [fieldRB, fieldB, hs']
end

/- The walk of infoset.Rank. -/
section
open Go.RowKit

theorem okSet_ge {N : Int} {l : List Int} (h : okSet N l = true) : ∀ k, k < l.length → (k : Int) ≤ nth l k
  | 0, hk => (okSet_at h hk).1
  | k + 1, hk => by
    have ih := okSet_ge h k (by omega)
    have := (okSet_at h hk).2.2 (by omega)
    rw [Nat.add_sub_cancel] at this
    omega
theorem okSet_len {N : Int} {l : List Int} (h : okSet N l = true) (hN : 0 ≤ N) : (l.length : Int) ≤ N := by
  by_cases h0 : l.length = 0
  · omega
  · have h1 := okSet_ge h (l.length - 1) (by omega)
    have h2 := (okSet_at h (k := l.length - 1) (by omega)).2.1
    omega
theorem setsE_one (N : Int) (l : List Int) : setsE N [l] = if okSet N l = true then 0 else 6 := by simp [setsE]

/-- the error of a code and a set -/
def rankE (P M : Int) (mod : List Int) (N : Int) (L : List (List Int)) (Q : List Int) : Int := if codeE P M mod N L = 0 then setsE N [Q] else codeE P M mod N L

def RankPost (P M : Int) (mod : List Int) (N : Int) (L : List (List Int)) (Q : List Int) (w : World) (e : Ending) (w' : World) : Prop :=
  Below w.heap.size w w' ∧ ((rankE P M mod N L Q ≠ 0 ∧ e = .returned (.tuple #[.int .i64 0, .int .i64 (rankE P M mod N L Q)])) ∨
    (rankE P M mod N L Q = 0 ∧ e = .returned (.tuple #[.int .i64 (grS (tblOf P M.toNat mod).ops L Q).length, .int .i64 0])))

theorem codeE_rws {P M : Int} {mod : List Int} {N : Int} {L : List (List Int)} (h : codeE P M mod N L = 0) : ∃ m : Nat, N = m ∧ 1 ≤ m ∧ m ≤ 64 ∧ L.length ≤ 256 ∧ Rws (tblOf P M.toNat mod).El m L := by
  obtain ⟨h1, h2, h3, h4⟩ := codeE_zero h
  obtain ⟨h5, h6⟩ := spaceE_zero h4
  obtain ⟨h7, h8⟩ := fmatE_zero h5
  obtain ⟨m, rfl, hm, hl, hR⟩ := matE_zero h8
  exact ⟨m, rfl, by omega, by omega, hl, hR⟩

set_option maxRecDepth 100000 in
set_option maxHeartbeats 4000000 in
theorem rank_any (P M : Int) (am : Option Addr) (mn cm : Nat) (mod : List Int) (N : Int) (a : Option Addr) (n c : Nat) (L : List (List Int)) (ao : Option Addr) (no co : Nat) (Q : List Int) (w : World)
    (hmod : Ints w am mn mod) (hi : Mat w a n L) (hq : Ints w ao no Q) :
    Calls Tryz.prog 26 #[.agg #[.int .i64 P, .int .i64 M, .slice am mn cm, .int .i64 N, .slice a n c], .slice ao no co] w (RankPost P M mod N L Q w) := by
  have Hql := Lib.hid hq.len
  have Hil := Lib.hid hi.len
  go_enter Tryz.func26, Tryz.ntmps26
  go_wp2_with fail
  obtain ⟨W, hW⟩ : ∃ W : World, W = w.alloc (.cells #[.int .i64 P, .int .i64 M, .slice am mn cm, .int .i64 N, .slice a n c] 27) := ⟨_, rfl⟩
  rw [← hW]
  have hbW : Below w.heap.size w W := by rw [hW]; exact below1 _ _
  have x0 : Box W w.heap.size [.int .i64 P, .int .i64 M, .slice am mn cm, .int .i64 N, .slice a n c] := by rw [hW]; exact Box.new _ _ _ rfl
  have HX := Lib.hid x0
  clear hW x0
  refine (infOpen_any P M am mn cm mod N a n c L W (hmod.keep hbW) (hi.keep hbW)).mono ?_
  rintro e w1 ⟨hb1, ⟨hE, rfl⟩ | ⟨hE, b, rfl, hG⟩⟩
  · have hbw1 := Below.next hbW hb1
    have HE : Hid (rankE P M mod N L Q = codeE P M mod N L) := by show _ = _; rw [rankE, if_neg hE]
    have He := Lib.hid hE
    have hE1 : (codeE P M mod N L == 0) = false := by simpa using hE
    have hE2 : (codeE P M mod N L != 0) = true := by simpa using hE
    clear hE
    go_wp2_with fail
    go_ret2
    exact ⟨hbw1, .inl ⟨by rw [HE.out]; exact He.out, by rw [HE.out]; rfl⟩⟩
  · have hbw1 := Below.next hbW hb1
    have HE : Hid (rankE P M mod N L Q = setsE N [Q]) := by show _ = _; rw [rankE, if_pos hE]
    have Hrw := Lib.hid (codeE_rws hE)
    have xU := HX.out.keep hb1
    have b0 := xU.cell 0 rfl
    have b1 := xU.cell 1 rfl
    have b2 := xU.cell 2 rfl
    have b3 := xU.cell 3 rfl
    have b4 := xU.cell 4 rfl
    have hq1 := (hq.keep hbW).keep hb1
    have hbl := below1 w1 (.cells #[.slice ao no co] 22)
    have hMs : Mat (w1.alloc (.cells #[.slice ao no co] 22)) (some ⟨w1.heap.size, 0, none⟩) 1 [Q] := ⟨rfl, fun _ => rfl, by unfold maxLen; omega, fun i hi => by
      obtain rfl : i = 0 := by omega
      exact ⟨ao, no, co, cell_new' _ _ _ rfl, hq1.keep hbl⟩⟩
    clear xU hE
    go_wp2_with fail
    refine (sets_any P M am mn cm N a n c _ 1 1 [Q] _ hMs).mono ?_
    rintro e w2 ⟨rfl, hb2⟩
    have hb3 : Below w1.heap.size w1 w2 := Below.next hbl hb2
    have hbw2 := Below.next hbw1 hb3
    rw [setsE_one] at HE ⊢
    by_cases hok : okSet N Q = true
    · have HE2 : Hid (rankE P M mod N L Q = 0) := by show _ = _; rw [HE.out, if_pos hok]
      rw [if_pos hok]
      obtain ⟨m, hm, hm1, hm2, hLl, hRw⟩ := Hrw.out
      subst hm
      have hlen := okSet_len hok (by omega)
      have hQk : ∀ k, k < no → 0 ≤ nth Q k ∧ nth Q k < m := fun k hk => by
        have := okSet_at hok (k := k) (by rw [Hql.out]; exact hk)
        exact ⟨this.1, this.2.1⟩
      have hno : no ≤ 1000000 := by rw [← Hql.out]; omega
      have hn : n ≤ 1000000 := by rw [← Hil.out]; omega
      have HQk := Lib.hid hQk
      have HRw := Lib.hid hRw
      have xU := (HX.out.keep hb1).keep hb3
      have b0 := xU.cell 0 rfl
      have b1 := xU.cell 1 rfl
      have b2 := xU.cell 2 rfl
      have b3 := xU.cell 3 rfl
      have b4 := xU.cell 4 rfl
      have hq2 := hq1.keep hb3
      have hi2 := ((hi.keep hbW).keep hb1).keep hb3
      have hG2 := hG.keep hb3
      clear hok hlen hQk hRw xU
      go_wp2_with fail
      refine (greedy_any P M am mn cm m a n c L m ao no co Q hG2 hi2 HRw.out hq2 HQk.out hn hno).mono ?_
      rintro e w4 ⟨a4, c4, rfl, hown4, hb4⟩
      have hF : RankPost P M mod m L Q w (.returned (.tuple #[.int .i64 (grS (tblOf P M.toNat mod).ops L Q).length, .int .i64 0])) w4 := ⟨Below.next hbw2 hb4, .inr ⟨HE2.out, rfl⟩⟩
      have HF := Lib.hid hF
      clear hF hown4
      generalize grS (tblOf P M.toNat mod).ops L Q = out at *
      go_wp2_with fail
      go_ret2
      exact HF.out
    · have HE2 : Hid (rankE P M mod N L Q = 6) := by show _ = _; rw [HE.out, if_neg hok]
      rw [if_neg hok]
      clear hok b0 b1 b2 b3 b4
      go_wp2_with fail
      go_ret2
      exact ⟨hbw2, .inl ⟨by rw [HE2.out]; omega, by rw [HE2.out]; rfl⟩⟩
end

/- The walks of ordering.rank, dimension. -/
section
open Go.RowKit

/-- the positions below k whose bits are set -/
def bitsTo (x : Nat) : Nat → List Int
  | 0 => []
  | k + 1 => if x.testBit k = true then bitsTo x k ++ [(k : Int)] else bitsTo x k
theorem bitsTo_len (x : Nat) : ∀ k, (bitsTo x k).length ≤ k
  | 0 => Nat.le_refl _
  | k + 1 => by have := bitsTo_len x k; unfold bitsTo; split <;> simp <;> omega
theorem testBit_div (x i : Nat) : x.testBit i = decide (x / 2 ^ i % 2 = 1) := by
  rw [Nat.testBit, Nat.shiftRight_eq_div_pow, Nat.one_and_eq_mod_two]
  rcases Nat.mod_two_eq_zero_or_one (x / 2 ^ i) with h | h <;> simp [h]
theorem and_one_u64 (x i : Nat) (hx : x < 18446744073709551616) : bits .and .u64 ((x : Int) / 2 ^ i) 1 = ((x / 2 ^ i % 2 : Nat) : Int) := by
  have h1 : x / 2 ^ i < 18446744073709551616 := Nat.lt_of_le_of_lt (Nat.div_le_self _ _) hx
  have h := bits_and_u64_nat (x / 2 ^ i) 1 h1 (by omega)
  rw [Nat.and_one_is_mod] at h
  rw [← h]
  congr 1

theorem nth_bits_lt (x : Nat) : ∀ k j, j < (bitsTo x k).length → 0 ≤ nth (bitsTo x k) j ∧ nth (bitsTo x k) j < k
  | 0, j, h => by simp [bitsTo] at h
  | k + 1, j, h => by
    unfold bitsTo at h ⊢
    split
    · rename_i ht
      rw [if_pos ht] at h
      simp only [List.length_append, List.length_singleton] at h
      by_cases hj : j < (bitsTo x k).length
      · have := nth_bits_lt x k j hj
        have e : nth (bitsTo x k ++ [(k : Int)]) j = nth (bitsTo x k) j := by simp only [nth, List.getD_eq_getElem?_getD]; rw [List.getElem?_append_left hj]
        rw [e]; omega
      · obtain rfl : j = (bitsTo x k).length := by omega
        have e : nth (bitsTo x k ++ [(k : Int)]) (bitsTo x k).length = k := by simp [nth]
        rw [e]; omega
    · rename_i ht
      rw [if_neg ht] at h
      have := nth_bits_lt x k j h
      omega
theorem okTo_append {N : Int} {l : List Int} {z : Int} {k : Nat} (hk : k ≤ l.length) : okTo N (l ++ [z]) k = okTo N l k := by
  unfold okTo
  have key : ∀ i, i ∈ List.range k → okAt N (l ++ [z]) i = okAt N l i := fun i hi => by
    have := List.mem_range.1 hi
    have e : ∀ j, j < l.length → nth (l ++ [z]) j = nth l j := fun j hj => by simp only [nth, List.getD_eq_getElem?_getD]; rw [List.getElem?_append_left hj]
    unfold okAt
    rw [e i (by omega), e (i - 1) (by omega)]
  rw [Bool.eq_iff_iff, List.all_eq_true, List.all_eq_true]
  exact ⟨fun h i hi => by rw [← key i hi]; exact h i hi, fun h i hi => by rw [key i hi]; exact h i hi⟩
theorem okAt_mono {N N' : Int} (hN : N ≤ N') {l : List Int} {k : Nat} (h : okAt N l k = true) : okAt N' l k = true := by
  unfold okAt at *
  simp only [Bool.and_eq_true, Bool.or_eq_true, decide_eq_true_eq, beq_iff_eq] at *
  exact ⟨⟨h.1.1, by omega⟩, h.2⟩
theorem okSet_mono {N N' : Int} (hN : N ≤ N') {l : List Int} (h : okSet N l = true) : okSet N' l = true := by
  unfold okSet okTo at *
  rw [List.all_eq_true] at *
  exact fun i hi => okAt_mono hN (h i hi)
theorem okSet_bits (x : Nat) : ∀ k : Nat, okSet k (bitsTo x k) = true
  | 0 => rfl
  | k + 1 => by
    have ih := okSet_mono (N' := ((k + 1 : Nat) : Int)) (by omega) (okSet_bits x k)
    unfold bitsTo
    split
    · unfold okSet
      rw [List.length_append, List.length_singleton]
      refine okTo_succ (by rw [okTo_append (Nat.le_refl _)]; exact ih) ?_
      have e : nth (bitsTo x k ++ [(k : Int)]) (bitsTo x k).length = k := by simp [nth]
      unfold okAt
      rw [e]
      by_cases h0 : (bitsTo x k).length = 0
      · simp [h0]; omega
      · have h1 := (nth_bits_lt x k ((bitsTo x k).length - 1) (by omega)).2
        have e2 : nth (bitsTo x k ++ [(k : Int)]) ((bitsTo x k).length - 1) = nth (bitsTo x k) ((bitsTo x k).length - 1) := by simp only [nth, List.getD_eq_getElem?_getD]; rw [List.getElem?_append_left (by omega)]
        rw [e2]
        simp [h1]; omega
    · exact ih

set_option maxRecDepth 100000 in
set_option maxHeartbeats 4000000 in
theorem ordRank_any (P M : Int) (am : Option Addr) (mn cm : Nat) (mod : List Int) (N : Nat) (a : Option Addr) (n c : Nat) (L : List (List Int)) (x : Nat) (w : World)
    (hmod : Ints w am mn mod) (hi : Mat w a n L) (hE : codeE P M mod N L = 0) (hx : x < 18446744073709551616) :
    Calls Tryz.prog 145 #[.agg #[.int .i64 P, .int .i64 M, .slice am mn cm, .int .i64 N, .slice a n c], .int .u64 x] w
      fun e w' => e = .returned (.int .i64 (grS (tblOf P M.toNat mod).ops L (bitsTo x N)).length) ∧ Below w.heap.size w w' := by
  have hN64 := (codeE_zero hE).2.2.1
  have HE := Lib.hid hE
  clear hE
  go_enter Tryz.func145, Tryz.ntmps145
  go_wp2_with fail
  obtain ⟨W, hW⟩ : ∃ W : World, W = w.alloc (.cells #[.int .i64 P, .int .i64 M, .slice am mn cm, .int .i64 N, .slice a n c] 27) := ⟨_, rfl⟩
  rw [← hW]
  have hbW : Below w.heap.size w W := by rw [hW]; exact below1 _ _
  have x0 : Box W w.heap.size [.int .i64 P, .int .i64 M, .slice am mn cm, .int .i64 N, .slice a n c] := by rw [hW]; exact Box.new _ _ _ rfl
  have b3 := x0.cell 3 rfl
  have HX := Lib.hid x0
  clear hW x0
  go_wp2_with fail
  go_loopw [5, 11] (fun sv iv wr => ∃ (k : Nat) (aq : Option Addr) (cq : Nat), k ≤ N ∧ iv = .int .i64 k ∧ sv = .slice aq (bitsTo x k).length cq ∧ wr.ownsRow W.heap.size 3 1 (.slice aq (bitsTo x k).length cq) (bitsTo x k).length ((bitsTo x k).map (Value.int .i64)) ∧ Below W.heap.size W wr)
    (fun _ iv _ => N - (intOf iv).toNat)
  case atStart => exact ⟨0, none, 0, Nat.zero_le _, rfl, rfl, own_none, Below.refl _ _⟩
  case round =>
    obtain ⟨k, aq, cq, hk, rfl, rfl, hop, hbr⟩ := hrel
    have hlen := bitsTo_len x k
    by_cases hlt : k < N
    · have hand := and_one_u64 x k hx
      have htb := testBit_div x k
      by_cases ht : x.testBit k = true
      · have hb : Hid (bitsTo x (k + 1) = bitsTo x k ++ [(k : Int)]) := by show _ = _; rw [bitsTo, if_pos ht]
        have h1 : x / 2 ^ k % 2 = 1 := by rw [ht] at htb; simpa using htb.symm
        rw [h1] at hand
        clear ht htb h1
        generalize bitsTo x k = out at *
        have hcn := cell_new wr (.int .i64 k) 3
        have hbn := below1 wr (.cells #[.int .i64 k] 3)
        have hsz := hbr.size
        go_wp2_with (at_builtin; refine wpList_push rfl _ _ 22 3 rfl (.int .i64 0) 8 Tryz.underlying22 infoInt rfl W.heap.size aq out.length cq _ rfl (hop.alloc _) ⟨wr.heap.size, 0, none⟩ 1 (.int .i64 k) rfl hcn rfl (by omega) (by unfold maxLen; omega) (by simp; omega) ?_; intro a5 c5 w5 hown5 hgr5 hap5)
        go_roundw
        case rel =>
          refine ⟨k + 1, a5, c5, by omega, by go_num, by rw [hb.out]; simp, ?_, Below.app (Below.trans hbr (hbn.mono hsz)) (hop.alloc _) hgr5 (Nat.le_refl _) (Nat.le_trans hsz hbn.size)⟩
          rw [hb.out]; simpa using hown5
        case measure => simp [intOf] <;> omega
      · have hb : Hid (bitsTo x (k + 1) = bitsTo x k) := by show _ = _; rw [bitsTo, if_neg ht]
        have h1 : x / 2 ^ k % 2 = 0 := by
          have h2 := Nat.mod_two_eq_zero_or_one (x / 2 ^ k)
          have h3 : ¬ x / 2 ^ k % 2 = 1 := fun h => by rw [h] at htb; simp at htb; exact ht htb
          omega
        rw [h1] at hand
        clear ht htb h1
        generalize bitsTo x k = out at *
        go_wp2_with fail
        go_roundw
        case rel => exact ⟨k + 1, aq, cq, by omega, by go_num, by rw [hb.out], by rw [hb.out]; exact hop, hbr⟩
        case measure => simp [intOf] <;> omega
    · obtain rfl : k = N := by omega
      have xU := HX.out.keep hbr
      have b0 := xU.cell 0 rfl
      have b1 := xU.cell 1 rfl
      have b2 := xU.cell 2 rfl
      have b3 := xU.cell 3 rfl
      have b4 := xU.cell 4 rfl
      have hiQ := (Ints.own hop).1
      have hbw := Below.next hbW hbr
      have hmr := (hmod.keep hbW).keep hbr
      have hir := (hi.keep hbW).keep hbr
      have Hlen := Lib.hid hlen
      have hst : rankE P M mod k L (bitsTo x k) = 0 := by rw [rankE, if_pos HE.out, setsE_one, if_pos (okSet_bits x k)]
      have Hst := Lib.hid hst
      clear xU hop hst hlen
      go_wp2_with fail
      refine (rank_any P M am mn cm mod k a n c L aq (bitsTo x k).length cq (bitsTo x k) wr hmr hir hiQ).mono ?_
      rintro e w4 ⟨hb4, ⟨he, _⟩ | ⟨he, rfl⟩⟩
      · exact absurd Hst.out he
      · have hF := Below.next hbw hb4
        clear he
        go_wp2_with fail
        go_ret
        exact ⟨rfl, hF⟩
end

/- The walk of ordering.dimension. -/
section
open Go.RowKit

theorem grTo_len (O : FOps) (L : List (List Int)) (Q : List Int) : ∀ k, (grTo O L Q k).2.length ≤ k
  | 0 => Nat.le_refl _
  | k + 1 => by
    have := grTo_len O L Q k
    simp only [grTo]
    split
    · simp; omega
    · omega
theorem grS_len (O : FOps) (L : List (List Int)) (Q : List Int) : (grS O L Q).length ≤ Q.length := grTo_len O L Q _
def cplU (x : Nat) : Nat := 18446744073709551615 ^^^ x
theorem cplU_lt {x : Nat} (hx : x < 18446744073709551616) : cplU x < 18446744073709551616 := Nat.xor_lt_two_pow (n := 64) (by omega) (by omega)
theorem cplU_bits {x : Nat} (hx : x < 18446744073709551616) : bits .xor .u64 IntKind.u64.max (x : Int) = ((cplU x : Nat) : Int) := bits_xor_u64_nat 18446744073709551615 x (by omega) hx
theorem cplU_test (x i : Nat) (hi : i < 64) : (cplU x).testBit i = !x.testBit i := by
  have h : (18446744073709551615 : Nat).testBit i = true := by
    have := Nat.testBit_two_pow_sub_one 64 i
    rw [show (2 : Nat) ^ 64 - 1 = 18446744073709551615 by decide] at this
    rw [this]; simp [hi]
  rw [cplU, Nat.testBit_xor, h]; simp
def dimS (O : FOps) (L : List (List Int)) (N x : Nat) : Int := (grS O L (bitsTo x N)).length + (grS O L (bitsTo (cplU x) N)).length - L.length

set_option maxRecDepth 100000 in
set_option maxHeartbeats 4000000 in
theorem ordDim_any (P M : Int) (am : Option Addr) (mn cm : Nat) (mod : List Int) (N : Nat) (a : Option Addr) (n c : Nat) (L : List (List Int)) (x : Nat) (w : World)
    (hmod : Ints w am mn mod) (hi : Mat w a n L) (hE : codeE P M mod N L = 0) (hx : x < 18446744073709551616) :
    Calls Tryz.prog 103 #[.agg #[.int .i64 P, .int .i64 M, .slice am mn cm, .int .i64 N, .slice a n c], .int .u64 x] w
      fun e w' => e = .returned (.int .i64 (dimS (tblOf P M.toNat mod).ops L N x)) ∧ Below w.heap.size w w' := by
  have hN64 := (codeE_zero hE).2.2.1
  obtain ⟨m', hm', h1m, h64m, hL256, _⟩ := codeE_rws hE
  have hn : n ≤ 256 := by rw [← hi.len]; exact hL256
  have hl1 := grS_len (tblOf P M.toNat mod).ops L (bitsTo x N)
  have hl2 := grS_len (tblOf P M.toNat mod).ops L (bitsTo (cplU x) N)
  have hl3 := bitsTo_len x N
  have hl4 := bitsTo_len (cplU x) N
  have hd : dimS (tblOf P M.toNat mod).ops L N x = (grS (tblOf P M.toNat mod).ops L (bitsTo x N)).length + (grS (tblOf P M.toNat mod).ops L (bitsTo (cplU x) N)).length - n := by rw [dimS, hi.len]
  have hc : ∀ y : Nat, y < 18446744073709551616 → ∀ V, Below w.heap.size w V → Calls Tryz.prog 145 #[.agg #[.int .i64 P, .int .i64 M, .slice am mn cm, .int .i64 N, .slice a n c], .int .u64 y] V
      fun e w' => e = .returned (.int .i64 (grS (tblOf P M.toNat mod).ops L (bitsTo y N)).length) ∧ Below V.heap.size V w' := fun y hy V hV =>
    ordRank_any P M am mn cm mod N a n c L y V (hmod.keep hV) (hi.keep hV) hE hy
  have Hc1 := Lib.hid (hc x hx)
  have Hc2 := Lib.hid (hc (cplU x) (cplU_lt hx))
  have Hd := Lib.hid hd
  have hcx := Lib.hid (cplU_bits hx)
  clear hc hd hE hm' h1m h64m hL256
  generalize (grS (tblOf P M.toNat mod).ops L (bitsTo x N)).length = r1 at *
  generalize (grS (tblOf P M.toNat mod).ops L (bitsTo (cplU x) N)).length = r2 at *
  have k1 : IntKind.i64.wrap ((r1 : Int) + r2) = (r1 : Int) + r2 := IntWalk.i64_in _ (by omega)
  have k2 : IntKind.i64.wrap ((r1 : Int) + r2 - n) = (r1 : Int) + r2 - n := IntWalk.i64_in _ (by omega)
  go_enter Tryz.func103, Tryz.ntmps103
  go_wp2_with fail
  obtain ⟨W, hW⟩ : ∃ W : World, W = w.alloc (.cells #[.int .i64 P, .int .i64 M, .slice am mn cm, .int .i64 N, .slice a n c] 27) := ⟨_, rfl⟩
  rw [← hW]
  have hbW : Below w.heap.size w W := by rw [hW]; exact below1 _ _
  have x0 : Box W w.heap.size [.int .i64 P, .int .i64 M, .slice am mn cm, .int .i64 N, .slice a n c] := by rw [hW]; exact Box.new _ _ _ rfl
  have HX := Lib.hid x0
  clear hW x0
  have hS : ∀ V, Below W.heap.size W V → V.cell? ⟨w.heap.size, 0, none⟩ = some (.int .i64 P) ∧ V.cell? ⟨w.heap.size, 1, none⟩ = some (.int .i64 M) ∧ V.cell? ⟨w.heap.size, 2, none⟩ = some (.slice am mn cm) ∧ V.cell? ⟨w.heap.size, 3, none⟩ = some (.int .i64 N) ∧ V.cell? ⟨w.heap.size, 4, none⟩ = some (.slice a n c) ∧ Below W.heap.size W V := by
    intro V hV
    have x1 := HX.out.keep hV
    exact ⟨x1.cell 0 rfl, x1.cell 1 rfl, x1.cell 2 rfl, x1.cell 3 rfl, x1.cell 4 rfl, hV⟩
  have HS := Lib.hid hS
  have HbW := Lib.hid hbW
  clear hS hbW
  go_region_held3 (fun V => V.cell? ⟨w.heap.size, 0, none⟩ = some (.int .i64 P) ∧ V.cell? ⟨w.heap.size, 1, none⟩ = some (.int .i64 M) ∧ V.cell? ⟨w.heap.size, 2, none⟩ = some (.slice am mn cm) ∧ V.cell? ⟨w.heap.size, 3, none⟩ = some (.int .i64 N) ∧ V.cell? ⟨w.heap.size, 4, none⟩ = some (.slice a n c) ∧ Below W.heap.size W V)
    ((refine HS.out _ ?_; first | exact (Below.refl _ _).drew | (go_split_ands; exact Below.next (by assumption) (by assumption))))
    (first
      | (go_at_call 145; ((with_reducible refine (Hc1.out _ (Below.next HbW.out (by go_split_ands; assumption))).mono ?_); rintro e w4 ⟨rfl, hb4⟩))
      | (go_at_call 145; ((rw [hcx.out]); ((with_reducible refine (Hc2.out _ (Below.next HbW.out (by go_split_ands; assumption))).mono ?_); rintro e w4 ⟨rfl, hb4⟩))))
  all_goals (
    clear k1 k2
    go_wp2_with fail
    go_ret
    exact ⟨ret_int Hd.out.symm, Below.next HbW.out (by go_split_ands; assumption)⟩)
end

/- The walk of ordering.Dimension. -/
section
open Go.RowKit

/-- the mask of the first k positions -/
def maskTo (Q : List Int) : Nat → Nat
  | 0 => 0
  | k + 1 => maskTo Q k ||| 2 ^ (nth Q k).toNat
def maskS (Q : List Int) : Nat := maskTo Q Q.length
theorem maskTo_lt {Q : List Int} : ∀ k, (∀ j, j < k → 0 ≤ nth Q j ∧ nth Q j < 64) → maskTo Q k < 18446744073709551616
  | 0, _ => by show (0 : Nat) < 18446744073709551616; omega
  | k + 1, h => by
    have ih := maskTo_lt k fun j hj => h j (by omega)
    have hk := h k (by omega)
    have : 2 ^ (nth Q k).toNat < 2 ^ 64 := Nat.pow_lt_pow_right (by omega) (by omega)
    exact Nat.or_lt_two_pow (n := 64) ih this

theorem mask_or (x z : Nat) (hx : x < 18446744073709551616) (hz : z < 64) : bits .or .u64 (x : Int) (IntKind.u64.wrap (2 ^ z)) = ((x ||| 2 ^ z : Nat) : Int) := by
  have hpz : 2 ^ z < 2 ^ 64 := Nat.pow_lt_pow_right (by omega) hz
  have hpc : ((2 ^ z : Nat) : Int) = 2 ^ z := by simp
  have hw : IntKind.u64.wrap (2 ^ z) = ((2 ^ z : Nat) : Int) := by
    rw [← hpc]; exact IntWalk.u64_in _ ⟨Int.natCast_nonneg _, Int.ofNat_le.2 (Nat.le_of_lt_succ hpz)⟩
  rw [hw]
  exact bits_or_u64_nat x (2 ^ z) hx hpz

def DimPost (P M : Int) (mod : List Int) (N : Int) (L : List (List Int)) (Q : List Int) (w : World) (e : Ending) (w' : World) : Prop :=
  Below w.heap.size w w' ∧ (
    (codeE P M mod N L ≠ 0 ∧ e = .returned (.tuple #[.int .i64 0, .int .i64 (codeE P M mod N L)])) ∨
    (codeE P M mod N L = 0 ∧ okSet N Q = false ∧ e = .returned (.tuple #[.int .i64 0, .int .i64 5])) ∨
    (codeE P M mod N L = 0 ∧ okSet N Q = true ∧ e = .returned (.tuple #[.int .i64 (dimS (tblOf P M.toNat mod).ops L N.toNat (maskS Q)), .int .i64 0])))

set_option maxRecDepth 100000 in
set_option maxHeartbeats 4000000 in
theorem ordDimension_any (P M : Int) (am : Option Addr) (mn cm : Nat) (mod : List Int) (N : Int) (a : Option Addr) (n c : Nat) (L : List (List Int)) (ao : Option Addr) (no co : Nat) (Q : List Int) (w : World)
    (hmod : Ints w am mn mod) (hi : Mat w a n L) (hq : Ints w ao no Q) :
    Calls Tryz.prog 61 #[.agg #[.int .i64 P, .int .i64 M, .slice am mn cm, .int .i64 N, .slice a n c], .slice ao no co] w (DimPost P M mod N L Q w) := by
  have Hql := Lib.hid hq.len
  have hplq := hq.pl
  have hmq := hq.max
  unfold maxLen at hmq
  go_enter Tryz.func61, Tryz.ntmps61
  go_wp2_with fail
  obtain ⟨W, hW⟩ : ∃ W : World, W = w.alloc (.cells #[.int .i64 P, .int .i64 M, .slice am mn cm, .int .i64 N, .slice a n c] 27) := ⟨_, rfl⟩
  rw [← hW]
  have hbW : Below w.heap.size w W := by rw [hW]; exact below1 _ _
  have x0 : Box W w.heap.size [.int .i64 P, .int .i64 M, .slice am mn cm, .int .i64 N, .slice a n c] := by rw [hW]; exact Box.new _ _ _ rfl
  have HX := Lib.hid x0
  clear hW x0
  refine (codeCheck_any P M am mn cm mod N a n c L W (hmod.keep hbW) (hi.keep hbW)).mono ?_
  rintro e w1 ⟨rfl, hb1⟩
  have hbw1 := Below.next hbW hb1
  by_cases hE : codeE P M mod N L = 0
  · have HE := Lib.hid hE
    obtain ⟨m, rfl, hm1, hm2, hLl, _⟩ := codeE_rws hE
    rw [hE]
    have xU := HX.out.keep hb1
    have c3 := xU.cell 3 rfl
    have hq1 := (hq.keep hbW).keep hb1
    have hm1' := (hmod.keep hbW).keep hb1
    have hi1 := (hi.keep hbW).keep hb1
    clear hE
    go_wp2_with fail
    go_loop [7, 17] (fun sv iv => ∃ k : Nat, k ≤ no ∧ iv = .int .i64 k ∧ sv = .int .u64 (maskTo Q k) ∧ Hid (okTo m Q k = true) ∧ Hid (∀ j, j < k → 0 ≤ nth Q j ∧ nth Q j < 64)) (fun _ iv => no - (intOf iv).toNat)
    case atStart => exact ⟨0, Nat.zero_le _, rfl, rfl, by show _ = _; simp [okTo], fun j hj => by omega⟩
    case round =>
      obtain ⟨j, hj, rfl, rfl, hok, hbd⟩ := hrel
      have hmlt := maskTo_lt j hbd.out
      by_cases hlt2 : j < no
      · have cj := hq1.cell j hlt2
        have hbad : okAt m Q j = false → okSet m Q = false := fun hb => okTo_no (by rw [Hql.out]; exact hlt2) hb
        have Hbad := Lib.hid hbad
        clear hbad
        by_cases h0 : 0 ≤ nth Q j
        · by_cases h1 : nth Q j < m
          · have d1 : decide (nth Q j < 0) = false := by simp; omega
            have d2 : decide ((m : Int) ≤ nth Q j) = false := by simp; omega
            obtain ⟨z, hz⟩ : ∃ z : Nat, nth Q j = z := ⟨(nth Q j).toNat, by omega⟩
            have hz64 : z < 64 := by omega
            have hor := mask_or (maskTo Q j) z hmlt hz64
            have hmk : maskTo Q (j + 1) = maskTo Q j ||| 2 ^ z := by rw [maskTo, hz]; rfl
            have hbd' : ∀ i, i < j + 1 → 0 ≤ nth Q i ∧ nth Q i < 64 := fun i hi => by
              by_cases h : i < j
              · exact hbd.out i h
              · obtain rfl : i = j := by omega
                omega
            have Hbd' := Lib.hid hbd'
            rw [← hmk] at hor
            have Hor := Lib.hid hor
            clear hmk hbd' hor
            by_cases hj0 : j = 0
            · subst hj0
              have Hgood : Hid (okAt m Q 0 = true) := by show _ = _; unfold okAt; simp [h0, h1]
              rw [Nat.add_zero] at cj
              rw [hz] at cj d1 d2 h0 h1
              clear hz
              go_wp2_with fail
              go_round
              case rel => exact ⟨1, by omega, by go_num, by rw [Hor.out], okTo_succ hok.out Hgood.out, Hbd'.out⟩
              case measure => simp [intOf] <;> omega
            · have cp := hq1.cell (j - 1) (by omega)
              have e1 : ((j : Int) - 1).toNat = j - 1 := by omega
              have d3 : decide (0 < (j : Int)) = true := by simp; omega
              have d4 : (0 : Int) ≤ (j : Int) - 1 := by omega
              have d5 : (1 : Int) ≤ (j : Int) := by omega
              have d6 : (j : Int) - 1 < no := by omega
              by_cases h2 : nth Q (j - 1) < nth Q j
              · have Hgood : Hid (okAt m Q j = true) := by show _ = _; unfold okAt; simp [h0, h1, h2]
                have h2' : decide (nth Q j ≤ nth Q (j - 1)) = false := by simp; omega
                rw [hz] at cj d1 d2 h0 h1 h2 h2'
                clear hz hj0 e1
                go_wp2_with fail
                go_round
                case rel => exact ⟨j + 1, by omega, by go_num, by rw [Hor.out], okTo_succ hok.out Hgood.out, Hbd'.out⟩
                case measure => simp [intOf] <;> omega
              · have Hb : Hid (okSet m Q = false) := Hbad.out (by unfold okAt; simp [h2, hj0])
                have h2' : decide (nth Q j ≤ nth Q (j - 1)) = true := by simp; omega
                rw [hz] at cj d1 d2 h0 h1 h2'
                clear hz hj0 e1 h2
                go_wp2_with fail
                go_ret2
                exact ⟨hbw1, .inr (.inl ⟨HE.out, Hb.out, rfl⟩)⟩
          · have Hb : Hid (okSet m Q = false) := Hbad.out (by unfold okAt; simp [h1])
            have d1 : decide (nth Q j < 0) = false := by simp; omega
            have d2 : decide ((m : Int) ≤ nth Q j) = true := by simp; omega
            go_wp2_with fail
            go_ret2
            exact ⟨hbw1, .inr (.inl ⟨HE.out, Hb.out, rfl⟩)⟩
        · have Hb : Hid (okSet m Q = false) := Hbad.out (by unfold okAt; simp [h0])
          have d1 : decide (nth Q j < 0) = true := by simp; omega
          go_wp2_with fail
          go_ret2
          exact ⟨hbw1, .inr (.inl ⟨HE.out, Hb.out, rfl⟩)⟩
      · obtain rfl : j = no := by omega
        have Hg : Hid (okSet m Q = true) := by show _ = _; rw [okSet, Hql.out]; exact hok.out
        have Hmk : Hid (maskS Q = maskTo Q j) := by show _ = _; rw [maskS, Hql.out]
        have c0 := xU.cell 0 rfl
        have c1 := xU.cell 1 rfl
        have c2 := xU.cell 2 rfl
        have c4 := xU.cell 4 rfl
        clear xU
        go_wp2_with fail
        refine (ordDim_any P M am mn cm mod m a n c L (maskTo Q j) w1 hm1' hi1 HE.out hmlt).mono ?_
        rintro e w4 ⟨rfl, hb4⟩
        have hF : DimPost P M mod m L Q w (.returned (.tuple #[.int .i64 (dimS (tblOf P M.toNat mod).ops L m (maskTo Q j)), .int .i64 0])) w4 := ⟨Below.next hbw1 hb4, .inr (.inr ⟨HE.out, Hg.out, by rw [Hmk.out]; rfl⟩)⟩
        have HF := Lib.hid hF
        clear hF
        go_wp2_with fail
        go_ret2
        exact HF.out
  · have HE := Lib.hid hE
    have hE2 : (codeE P M mod N L != 0) = true := by simpa using hE
    clear hE
    go_wp2_with fail
    go_ret2
    exact ⟨hbw1, .inl ⟨HE.out, rfl⟩⟩
end

end Go.Proofs.YtakmnncmeefceaaGreat
