/- The walks of the references: Check of layer 9. -/
import Derived.Test.YtapjcccpokhhhaaG14
import Derived.Test.YtapjcccpokhhhaaG15
import Derived.Test.YtapjcccpokhhhaaG12
import Derived.Test.YtapjcccpokhhhaaG9
import Derived.Test.YtapjcccpokhhhaaG10
import Derived.Laws.Bits64
import Derived.Laws.Bits64b
import Derived.Test.YtapjcccpokhhhaaG8
import Derived.StillTail
import Derived.OrdersHeld
import Derived.Deep.RegionHeld
import Derived.Test.YtapjcccpokhhhaaG1
namespace Go.Proofs.Ytapjcccpokhhhaa
set_option linter.unusedVariables false
set_option linter.unusedSimpArgs false
set_option linter.unusedSectionVars false

/- The tables of all descriptions of fields. -/
section
theorem tab5_2_0 : chkC 5 2 25 cert5_2 0 25 = true := by decide +kernel
theorem tab5_2 : chkAll 5 2 25 cert5_2 := chkAll_add (chkAll_nil 5 2 25 cert5_2) tab5_2_0
theorem tab5_3_0 : chkC 5 3 125 cert5_3 0 32 = true := by decide +kernel
theorem tab5_3_32 : chkC 5 3 125 cert5_3 32 32 = true := by decide +kernel
theorem tab5_3_64 : chkC 5 3 125 cert5_3 64 32 = true := by decide +kernel
theorem tab5_3_96 : chkC 5 3 125 cert5_3 96 29 = true := by decide +kernel
theorem tab5_3 : chkAll 5 3 125 cert5_3 := chkAll_add (chkAll_add (chkAll_add (chkAll_add (chkAll_nil 5 3 125 cert5_3) tab5_3_0) tab5_3_32) tab5_3_64) tab5_3_96
theorem tab7_2_0 : chkC 7 2 49 cert7_2 0 49 = true := by decide +kernel
theorem tab7_2 : chkAll 7 2 49 cert7_2 := chkAll_add (chkAll_nil 7 2 49 cert7_2) tab7_2_0
theorem tab11_2_0 : chkC 11 2 121 cert11_2 0 32 = true := by decide +kernel
theorem tab11_2_32 : chkC 11 2 121 cert11_2 32 32 = true := by decide +kernel
theorem tab11_2_64 : chkC 11 2 121 cert11_2 64 32 = true := by decide +kernel
theorem tab11_2_96 : chkC 11 2 121 cert11_2 96 25 = true := by decide +kernel
theorem tab11_2 : chkAll 11 2 121 cert11_2 := chkAll_add (chkAll_add (chkAll_add (chkAll_add (chkAll_nil 11 2 121 cert11_2) tab11_2_0) tab11_2_32) tab11_2_64) tab11_2_96
theorem tab13_2_0 : chkC 13 2 169 cert13_2 0 32 = true := by decide +kernel
theorem tab13_2_32 : chkC 13 2 169 cert13_2 32 32 = true := by decide +kernel
theorem tab13_2_64 : chkC 13 2 169 cert13_2 64 32 = true := by decide +kernel
theorem tab13_2_96 : chkC 13 2 169 cert13_2 96 32 = true := by decide +kernel
theorem tab13_2_128 : chkC 13 2 169 cert13_2 128 32 = true := by decide +kernel
theorem tab13_2_160 : chkC 13 2 169 cert13_2 160 9 = true := by decide +kernel
theorem tab13_2 : chkAll 13 2 169 cert13_2 := chkAll_add (chkAll_add (chkAll_add (chkAll_add (chkAll_add (chkAll_add (chkAll_nil 13 2 169 cert13_2) tab13_2_0) tab13_2_32) tab13_2_64) tab13_2_96) tab13_2_128) tab13_2_160

/-- the fields of prime order -/
def chkP (c : Nat × Nat) : Bool := ordOk (mulS c.1 1 []) c.1 c.2 && decide (0 < c.2) && decide (c.2 < c.1)
theorem tabP : roots.all chkP = true := by decide +kernel
theorem rootsAll : ((List.range 257).all fun p => p < 2 || !primeB p || roots.any fun c => c.1 == p) = true := by decide +kernel
end

/- The walk of the reference of layer 4: Check. -/
section
open Go.RowKit

/-- what the reference takes for a field -/
def fieldRB (P M : Int) (mod : List Int) : Bool := shapeB P M mod && (M == 1 || irrB P mod)

theorem shapeB_no0 {P M : Int} {mod : List Int} (h : orderS P M = 0) : shapeB P M mod = false := by simp [shapeB, h]
theorem shapeB_noP {P M : Int} {mod : List Int} (h : primeB P.toNat = false) : shapeB P M mod = false := by simp [shapeB, h]
end

/- A description is a field for the program (a generator exists) exactly if it is one for the reference (prime, irreducible). -/
section
section
variable {P : Int} {M : Nat} {mod : List Int} {q : Nat} {x : Int}

theorem pw_one (h : Res P M) (hx : ElP P M x) : pw P M mod x 1 = x := by show mulS P M mod (pw P M mod x 0) x = x; rw [pw, mulS_one h hx]
theorem pw_two (h : Res P M) (hx : ElP P M x) : pw P M mod x 2 = mulS P M mod x x := by show mulS P M mod (pw P M mod x 1) x = _; rw [pw_one h hx]
theorem pw_sq (h : Res P M) (hx : ElP P M x) : ∀ k, pw P M mod (mulS P M mod x x) k = pw P M mod x (2 * k)
  | 0 => rfl
  | k + 1 => by rw [pw, pw_sq h hx k, ← pw_two h hx, pw_add h]; rfl
theorem fpw_eq (h : Res P M) : ∀ (f n : Nat) (x : Int), ElP P M x → n < 2 ^ f → fpw (mulS P M mod) f x n = pw P M mod x n
  | 0, n, x, hx, hn => by
    have : n = 0 := by simpa using hn
    subst this; rfl
  | f + 1, n, x, hx, hn => by
    have ih := fpw_eq h f (n / 2) (mulS P M mod x x) (mulS_el h x x) (by rw [Nat.pow_succ] at hn; omega)
    unfold fpw
    split
    · rename_i h0; subst h0; rfl
    · rw [ih, pw_sq h hx]
      split
      · rename_i h1
        have e : n = 2 * (n / 2) + 1 := by omega
        have e2 : pw P M mod x n = pw P M mod x (2 * (n / 2) + 1) := congrArg _ e
        rw [e2]; rfl
      · rename_i h1
        have e : n = 2 * (n / 2) := by omega
        exact (congrArg _ e).symm

/-- the order of x is q - 1 -/
structure Ord (P : Int) (M : Nat) (mod : List Int) (q : Nat) (x : Int) : Prop where
  one : pw P M mod x (q - 1) = 1
  ne : ∀ k, 0 < k → k < q - 1 → pw P M mod x k ≠ 1

theorem pw_mul1 (h : Res P M) {a : Nat} (h1 : pw P M mod x a = 1) : ∀ n, pw P M mod x (a * n) = 1
  | 0 => rfl
  | n + 1 => by rw [Nat.mul_succ, ← pw_add h, pw_mul1 h h1 n, h1, mulS_one h (one_el h)]
theorem pw_mod1 (h : Res P M) {a b : Nat} (ha : pw P M mod x a = 1) (hb : pw P M mod x b = 1) : pw P M mod x (a % b) = 1 := by
  have e : a = b * (a / b) + a % b := (Nat.div_add_mod a b).symm
  rw [e, ← pw_add h, pw_mul1 h hb, mulS_one h (pw_el h x _)] at ha
  exact ha
theorem pw_gcd (h : Res P M) : ∀ (b a : Nat), pw P M mod x a = 1 → pw P M mod x b = 1 → pw P M mod x (Nat.gcd b a) = 1 := by
  intro b
  induction b using Nat.strongRecOn with
  | ind b ih =>
    intro a ha hb
    by_cases h0 : b = 0
    · subst h0; rw [Nat.gcd_zero_left]; exact ha
    · rw [Nat.gcd_rec]
      exact ih (a % b) (Nat.mod_lt _ (by omega)) b hb (pw_mod1 h ha hb)

theorem Ord.of (h : Res P M) (hx : ElP P M x) (hq : q ≤ 256) (ho : ordOk (mulS P M mod) q x = true) : Ord P M mod q x := by
  unfold ordOk at ho
  rw [Bool.and_eq_true] at ho
  obtain ⟨h1, h2⟩ := ho
  have h1' := eq_of_beq h1
  rw [fpw_eq h 8 _ x hx (by omega)] at h1'
  refine ⟨h1', fun k hk0 hk1 hk => ?_⟩
  have hg := pw_gcd h k (q - 1) h1' hk
  have hgd : Nat.gcd k (q - 1) ∣ q - 1 := Nat.gcd_dvd_right _ _
  have hgl : Nat.gcd k (q - 1) ≤ k := Nat.gcd_le_left _ hk0
  have hg0 : 0 < Nat.gcd k (q - 1) := Nat.gcd_pos_of_pos_left _ hk0
  have h3 := List.all_eq_true.1 h2 (Nat.gcd k (q - 1)) (List.mem_range.2 (by omega))
  have h4 : (q - 1) % Nat.gcd k (q - 1) = 0 := Nat.mod_eq_zero_of_dvd hgd
  simp only [Bool.or_eq_true, beq_iff_eq, bne_iff_ne, ne_eq] at h3
  rcases h3 with (h3 | h3) | h3
  · omega
  · exact h3 h4
  · rw [fpw_eq h 8 _ x hx (by omega)] at h3
    exact h3 hg

theorem Ord.nz (h : Res P M) (o : Ord P M mod q x) {k : Nat} (hk : k < q - 1) : pw P M mod x k ≠ 0 := by
  intro h0
  have h1 := pw_add (mod := mod) h x k (q - 1 - k)
  rw [h0, mulS_comm h, mulS_zero h, show k + (q - 1 - k) = q - 1 by omega, o.one] at h1
  omega
theorem Ord.inj (h : Res P M) (o : Ord P M mod q x) {i j : Nat} (hij : i < j) (hj : j < q - 1) : pw P M mod x i ≠ pw P M mod x j := by
  intro e
  have h1 := pw_add (mod := mod) h x i (q - 1 - i)
  have h2 := pw_add (mod := mod) h x j (q - 1 - i)
  rw [show i + (q - 1 - i) = q - 1 by omega, o.one, e, h2] at h1
  have h3 : pw P M mod x (j - i) = 1 := by
    have h4 := pw_add (mod := mod) h x (j - i) (q - 1)
    rw [o.one, mulS_comm h, mulS_one h (pw_el h x _), show j - i + (q - 1) = j + (q - 1 - i) by omega, h1] at h4
    exact h4
  exact o.ne (j - i) (by omega) (by omega) h3

/-- the list of the powers, up to the last one -/
theorem powTo_full (h : Res P M) (hx : ElP P M x) (o : Ord P M mod q x) : ∀ (n k : Nat), k ≤ q - 1 → q - 1 - k < n → 0 < k →
    powTo (fun z => mulS P M mod z x) n ((List.range k).map fun i => pw P M mod x i) (pw P M mod x k) = (List.range (q - 1)).map fun i => pw P M mod x i
  | 0, k, _, hn, _ => by omega
  | n + 1, k, hk, hn, h0 => by
    by_cases hke : k = q - 1
    · subst hke
      refine powTo_stop _ _ _ _ (.inr ?_)
      rw [o.one, List.mem_map]
      exact ⟨0, List.mem_range.2 h0, rfl⟩
    · rw [powTo_go]
      · have e : (List.range k).map (fun i => pw P M mod x i) ++ [pw P M mod x k] = (List.range (k + 1)).map fun i => pw P M mod x i := by rw [List.range_succ, List.map_append]; rfl
        rw [e]
        exact powTo_full h hx o n (k + 1) (by omega) (by omega) (by omega)
      · rintro (h1 | h1)
        · exact o.nz h (by omega) h1
        · obtain ⟨i, hi, e⟩ := List.mem_map.1 h1
          exact o.inj h (List.mem_range.1 hi) (by omega) e
theorem Ord.isGen (h : Res P M) (hx : ElP P M x) (hq : 2 ≤ q) (o : Ord P M mod q x) : isGen P M mod q x = true := by
  have hl : powS P M mod q x = (List.range (q - 1)).map fun i => pw P M mod x i := by
    by_cases h2 : q = 2
    · subst h2
      have : x = 1 := by have := o.one; rwa [show 2 - 1 = 1 from rfl, pw_one h hx] at this
      subst this
      rw [powS, powTo_stop _ _ _ _ (.inr (by simp))]
      rfl
    · have := powTo_full h hx o q 1 (by omega) (by omega) (by omega)
      rw [pw_one h hx] at this
      exact this
  unfold Proofs.Ytapjcccpokhhhaa.isGen
  rw [hl, Bool.and_eq_true]
  refine ⟨by simp, ?_⟩
  have e : nth ((List.range (q - 1)).map fun i => pw P M mod x i) (q - 2) = pw P M mod x (q - 2) := by
    rw [nth_getElem (by simp; omega)]; simp
  rw [e]
  have : mulS P M mod (pw P M mod x (q - 2)) x = pw P M mod x (q - 1) := by rw [show q - 1 = (q - 2) + 1 by omega]; rfl
  rw [this, o.one]; rfl

theorem genTo_some : ∀ (n x y : Nat), 2 ≤ q → x ≤ y → y < x + n → isGen P M mod q y = true → genTo P M mod q n x ≠ []
  | 0, x, y, _, h1, h2, _ => by omega
  | n + 1, x, y, hq, h1, h2, hg => by
    rw [genTo]
    by_cases hx : isGen P M mod q x = true
    · rw [if_pos hx]
      intro e
      simp only [isGen, Bool.and_eq_true, beq_iff_eq] at hx
      rw [e] at hx
      simp at hx
      omega
    · rw [if_neg hx]
      refine genTo_some n (x + 1) y hq ?_ (by omega) hg
      rcases Nat.eq_or_lt_of_le h1 with h3 | h3
      · subst h3; exact absurd hg hx
      · exact h3
theorem no_zero_div {ex : List Int} {y a b : Int} (g : Gen P M mod q y ex) (ha : ElP P M a) (hb : ElP P M b) (ha0 : a ≠ 0) (hb0 : b ≠ 0) : mulS P M mod a b ≠ 0 := by
  obtain ⟨i, _, rfl, _⟩ := g.log ha ha0
  obtain ⟨j, _, rfl, _⟩ := g.log hb hb0
  rw [pw_add g.res]
  exact g.pw_ne _
end

theorem chkAll_at {P : Int} {M q : Nat} {l : List (Nat × Nat)} (h : chkAll P M q l) {v : Nat} (hv : v < q) : ∃ c, chkV P M q v c = true := ⟨_, h v hv⟩

theorem tabOf (p m : Nat) (hp : primeB p = true) (h2 : 2 ≤ p) (hm : 2 ≤ m) (hm8 : m ≤ 8) (hpw : (p : Int) ^ m ≤ 256) : ∃ l, chkAll p m (((p : Int) ^ m).toNat) l := by
  have hp16 : p ≤ 16 := by
    have h1 := pow_mono (P := (p : Int)) (by omega) hm
    have h3 : (p : Int) ^ 2 = p * p := by rw [Int.pow_succ, Int.pow_succ, Int.pow_zero, Int.one_mul]
    rcases Nat.lt_or_ge 16 p with h4 | h4
    · have h5 : 17 * 17 ≤ p * p := Nat.mul_le_mul h4 h4
      have h6 : ((17 * 17 : Nat) : Int) ≤ ((p * p : Nat) : Int) := Int.ofNat_le.2 h5
      rw [Int.natCast_mul] at h6
      omega
    · exact h4
  have hc : p = 2 ∨ p = 3 ∨ p = 4 ∨ p = 5 ∨ p = 6 ∨ p = 7 ∨ p = 8 ∨ p = 9 ∨ p = 10 ∨ p = 11 ∨ p = 12 ∨ p = 13 ∨ p = 14 ∨ p = 15 ∨ p = 16 := by omega
  have hd : m = 2 ∨ m = 3 ∨ m = 4 ∨ m = 5 ∨ m = 6 ∨ m = 7 ∨ m = 8 := by omega
  rcases hc with rfl | rfl | rfl | rfl | rfl | rfl | rfl | rfl | rfl | rfl | rfl | rfl | rfl | rfl | rfl
  · rcases hd with rfl | rfl | rfl | rfl | rfl | rfl | rfl
    · exact ⟨_, tab2_2⟩
    · exact ⟨_, tab2_3⟩
    · exact ⟨_, tab2_4⟩
    · exact ⟨_, tab2_5⟩
    · exact ⟨_, tab2_6⟩
    · exact ⟨_, tab2_7⟩
    · exact ⟨_, tab2_8⟩
  · rcases hd with rfl | rfl | rfl | rfl | rfl | rfl | rfl
    · exact ⟨_, tab3_2⟩
    · exact ⟨_, tab3_3⟩
    · exact ⟨_, tab3_4⟩
    · exact ⟨_, tab3_5⟩
    · exact absurd hpw (by decide)
    · exact absurd hpw (by decide)
    · exact absurd hpw (by decide)
  · exact absurd hp (by decide)
  · rcases hd with rfl | rfl | rfl | rfl | rfl | rfl | rfl
    · exact ⟨_, tab5_2⟩
    · exact ⟨_, tab5_3⟩
    · exact absurd hpw (by decide)
    · exact absurd hpw (by decide)
    · exact absurd hpw (by decide)
    · exact absurd hpw (by decide)
    · exact absurd hpw (by decide)
  · exact absurd hp (by decide)
  · rcases hd with rfl | rfl | rfl | rfl | rfl | rfl | rfl
    · exact ⟨_, tab7_2⟩
    · exact absurd hpw (by decide)
    · exact absurd hpw (by decide)
    · exact absurd hpw (by decide)
    · exact absurd hpw (by decide)
    · exact absurd hpw (by decide)
    · exact absurd hpw (by decide)
  · exact absurd hp (by decide)
  · exact absurd hp (by decide)
  · exact absurd hp (by decide)
  · rcases hd with rfl | rfl | rfl | rfl | rfl | rfl | rfl
    · exact ⟨_, tab11_2⟩
    · exact absurd hpw (by decide)
    · exact absurd hpw (by decide)
    · exact absurd hpw (by decide)
    · exact absurd hpw (by decide)
    · exact absurd hpw (by decide)
    · exact absurd hpw (by decide)
  · exact absurd hp (by decide)
  · rcases hd with rfl | rfl | rfl | rfl | rfl | rfl | rfl
    · exact ⟨_, tab13_2⟩
    · exact absurd hpw (by decide)
    · exact absurd hpw (by decide)
    · exact absurd hpw (by decide)
    · exact absurd hpw (by decide)
    · exact absurd hpw (by decide)
    · exact absurd hpw (by decide)
  · exact absurd hp (by decide)
  · exact absurd hp (by decide)
  · exact absurd hp (by decide)

theorem valu_el {P : Int} {m : Nat} (hf : RF P m) {mod : List Int} (hd : Dig P mod) (hl : mod.length = m) : 0 ≤ valu P mod ∧ valu P mod < P ^ m := by
  have := valu_bd (P := P) (by have := hf.p2; omega) mod hd
  rwa [hl] at this

theorem fieldRB_eq (P M : Int) (mod : List Int) : fieldRB P M mod = fieldB P M mod := by
  by_cases hs : shapeB P M mod = true
  · unfold fieldRB fieldB
    rw [hs, Bool.true_and, Bool.true_and]
    have hs2 := hs
    unfold shapeB at hs2
    simp only [Bool.and_eq_true, bne_iff_ne, ne_eq] at hs2
    obtain ⟨⟨h1, h2⟩, h3⟩ := hs2
    obtain ⟨m, rfl, hrf⟩ := RF.of h1
    obtain ⟨p, rfl⟩ : ∃ p : Nat, P = p := ⟨P.toNat, by have := hrf.p2; omega⟩
    rw [Int.toNat_natCast] at h2 ⊢
    have hp2 : 2 ≤ p := by have := hrf.p2; omega
    have hp256 : p ≤ 256 := by have := hrf.p256; omega
    have hord := hrf.order
    have hres := hrf.res
    obtain ⟨q, hq⟩ : ∃ q : Nat, (p : Int) ^ m = q := ⟨((p : Int) ^ m).toNat, by have := one_lt_pow hres; omega⟩
    have hq2 : 2 ≤ q := by have := one_lt_pow hres; omega
    have hq256 : q ≤ 256 := by have := hrf.pw; omega
    rw [hord, hq, Int.toNat_natCast]
    have hgen : ∀ x : Nat, 0 < x → x < q → ordOk (mulS p m mod) q x = true → (genS p m mod q).isEmpty = false := fun x hx0 hx1 ho => by
      have hel : ElP (p : Int) m x := ⟨by omega, by rw [hq]; omega⟩
      have hg := (Ord.of hres hel hq256 ho).isGen hres hel hq2
      have := genTo_some (P := p) (M := m) (mod := mod) (q - 1) 1 x hq2 (by omega) (by omega) hg
      unfold genS
      cases h : genTo p m mod q (q - 1) 1 with
      | nil => exact absurd h this
      | cons y l => rfl
    by_cases hm : m = 1
    · subst hm
      have hmod : mod = [] := by
        rw [if_pos (by simp)] at h3
        exact List.eq_nil_of_length_eq_zero (by simpa using h3)
      subst hmod
      have hr := List.all_eq_true.1 rootsAll p (List.mem_range.2 (by omega))
      have hp2' : decide (p < 2) = false := by simp; omega
      rw [hp2', h2] at hr
      simp only [Bool.not_true, Bool.false_or, List.any_eq_true] at hr
      obtain ⟨c, hc, hcp⟩ := hr
      have hck := List.all_eq_true.1 tabP c hc
      have hcp2 : c.1 = p := by simpa using hcp
      unfold chkP at hck
      rw [hcp2] at hck
      simp only [Bool.and_eq_true, decide_eq_true_eq] at hck
      have hqp : q = p := by have : (p : Int) ^ 1 = p := by rw [Int.pow_succ, Int.pow_zero, Int.one_mul]
                             omega
      rw [hgen c.2 hck.1.2 (by omega) (by rw [hqp]; exact hck.1.1)]
      rfl
    · have hM : ¬ (m : Int) = 1 := by omega
      rw [if_neg hM] at h3
      simp only [Bool.and_eq_true, decide_eq_true_eq] at h3
      have hlen : mod.length = m := by omega
      have hdig : Dig (p : Int) mod := Dig.of_mem (by omega) fun x hx => by
        have := List.all_eq_true.1 h3.2 x hx
        simpa using this
      have hv := valu_el hrf hdig hlen
      obtain ⟨v, hvv⟩ : ∃ v : Nat, valu p mod = v := ⟨(valu p mod).toNat, by omega⟩
      have hdv : digs v p m = mod := by rw [← hvv, ← hlen]; exact digs_valu mod hdig
      obtain ⟨l, hl⟩ := tabOf p m h2 hp2 (by have := hrf.m1; omega) hrf.m8 hrf.pw
      rw [hq, Int.toNat_natCast] at hl
      obtain ⟨c, hc⟩ := chkAll_at hl (v := v) (by omega)
      have hM' : ((m : Int) == 1) = false := by simpa using hM
      rw [hM', Bool.false_or]
      unfold chkV at hc
      rw [hdv] at hc
      split at hc
      · simp only [Bool.and_eq_true, decide_eq_true_eq] at hc
        rw [hc.1.1.1, hgen c.1 hc.1.2 hc.2 hc.1.1.2]; rfl
      · rename_i hc2
        simp only [Bool.and_eq_true, decide_eq_true_eq, Bool.not_eq_true', beq_iff_eq] at hc
        rw [hc.1.1.1.1]
        cases h : (genS p m mod q).isEmpty with
        | true => rfl
        | false =>
          exfalso
          have hne : genS p m mod q ≠ [] := fun e => by rw [e] at h; cases h
          obtain ⟨y, hy1, hy2, hy3, hy4⟩ := genS_spec hne
          have g := Gen.of_isGen (mod := mod) hres hq.symm ⟨by omega, by omega⟩ hy3
          exact no_zero_div g (a := (c.1 : Int)) (b := (c.2 : Int)) ⟨by omega, by omega⟩ ⟨by omega, by omega⟩ (by omega) (by omega) hc.1.1.1.2
  · have hs' : shapeB P M mod = false := by simpa using hs
    simp [fieldRB, fieldB, hs']
end

/- The walk of infoset.Rank. -/
section
open Go.RowKit

theorem okSet_ge {N : Int} {l : List Int} (h : okSet N l = true) : ∀ k, k < l.length → (k : Int) ≤ nth l k
  | 0, hk => (okSet_at h hk).1
  | k + 1, hk => by
    have ih := okSet_ge h k (by omega)
    have := (okSet_at h hk).2.2 (by omega)
    rw [Nat.add_sub_cancel] at this
    omega
theorem okSet_len {N : Int} {l : List Int} (h : okSet N l = true) (hN : 0 ≤ N) : (l.length : Int) ≤ N := by
  by_cases h0 : l.length = 0
  · omega
  · have h1 := okSet_ge h (l.length - 1) (by omega)
    have h2 := (okSet_at h (k := l.length - 1) (by omega)).2.1
    omega
theorem setsE_one (N : Int) (l : List Int) : setsE N [l] = if okSet N l = true then 0 else 6 := by simp [setsE]

/-- the error of a code and a set -/
def rankE (P M : Int) (mod : List Int) (N : Int) (L : List (List Int)) (Q : List Int) : Int := if codeE P M mod N L = 0 then setsE N [Q] else codeE P M mod N L

def RankPost (P M : Int) (mod : List Int) (N : Int) (L : List (List Int)) (Q : List Int) (w : World) (e : Ending) (w' : World) : Prop :=
  Below w.heap.size w w' ∧ ((rankE P M mod N L Q ≠ 0 ∧ e = .returned (.tuple #[.int .i64 0, .int .i64 (rankE P M mod N L Q)])) ∨
    (rankE P M mod N L Q = 0 ∧ e = .returned (.tuple #[.int .i64 (grS (tblOf P M.toNat mod).ops L Q).length, .int .i64 0])))

theorem codeE_rws {P M : Int} {mod : List Int} {N : Int} {L : List (List Int)} (h : codeE P M mod N L = 0) : ∃ m : Nat, N = m ∧ 1 ≤ m ∧ m ≤ 64 ∧ L.length ≤ 256 ∧ Rws (tblOf P M.toNat mod).El m L := by
  obtain ⟨h1, h2, h3, h4⟩ := codeE_zero h
  obtain ⟨h5, h6⟩ := spaceE_zero h4
  obtain ⟨h7, h8⟩ := fmatE_zero h5
  obtain ⟨m, rfl, hm, hl, hR⟩ := matE_zero h8
  exact ⟨m, rfl, by omega, by omega, hl, hR⟩

set_option maxRecDepth 100000 in
set_option maxHeartbeats 4000000 in
theorem rank_any (P M : Int) (am : Option Addr) (mn cm : Nat) (mod : List Int) (N : Int) (a : Option Addr) (n c : Nat) (L : List (List Int)) (ao : Option Addr) (no co : Nat) (Q : List Int) (w : World)
    (hmod : Ints w am mn mod) (hi : Mat w a n L) (hq : Ints w ao no Q) :
    Calls Try.prog 8 #[.agg #[.int .i64 P, .int .i64 M, .slice am mn cm, .int .i64 N, .slice a n c], .slice ao no co] w (RankPost P M mod N L Q w) := by
  have Hql := Lib.hid hq.len
  have Hil := Lib.hid hi.len
  go_enter Try.func8, Try.ntmps8
  go_wp2_with fail
  obtain ⟨W, hW⟩ : ∃ W : World, W = w.alloc (.cells #[.int .i64 P, .int .i64 M, .slice am mn cm, .int .i64 N, .slice a n c] 32) := ⟨_, rfl⟩
  rw [← hW]
  have hbW : Below w.heap.size w W := by rw [hW]; exact below1 _ _
  have x0 : Box W w.heap.size [.int .i64 P, .int .i64 M, .slice am mn cm, .int .i64 N, .slice a n c] := by rw [hW]; exact Box.new _ _ _ rfl
  have HX := Lib.hid x0
  clear hW x0
  refine (infOpen_any P M am mn cm mod N a n c L W (hmod.keep hbW) (hi.keep hbW)).mono ?_
  rintro e w1 ⟨hb1, ⟨hE, rfl⟩ | ⟨hE, b, rfl, hG⟩⟩
  · have hbw1 := Below.next hbW hb1
    have HE : Hid (rankE P M mod N L Q = codeE P M mod N L) := by show _ = _; rw [rankE, if_neg hE]
    have He := Lib.hid hE
    have hE1 : (codeE P M mod N L == 0) = false := by simpa using hE
    have hE2 : (codeE P M mod N L != 0) = true := by simpa using hE
    clear hE
    go_wp2_with fail
    go_ret2
    exact ⟨hbw1, .inl ⟨by rw [HE.out]; exact He.out, by rw [HE.out]; rfl⟩⟩
  · have hbw1 := Below.next hbW hb1
    have HE : Hid (rankE P M mod N L Q = setsE N [Q]) := by show _ = _; rw [rankE, if_pos hE]
    have Hrw := Lib.hid (codeE_rws hE)
    have xU := HX.out.keep hb1
    have b0 := xU.cell 0 rfl
    have b1 := xU.cell 1 rfl
    have b2 := xU.cell 2 rfl
    have b3 := xU.cell 3 rfl
    have b4 := xU.cell 4 rfl
    have hq1 := (hq.keep hbW).keep hb1
    have hbl := below1 w1 (.cells #[.slice ao no co] 22)
    have hMs : Mat (w1.alloc (.cells #[.slice ao no co] 22)) (some ⟨w1.heap.size, 0, none⟩) 1 [Q] := ⟨rfl, fun _ => rfl, by unfold maxLen; omega, fun i hi => by
      obtain rfl : i = 0 := by omega
      exact ⟨ao, no, co, cell_new' _ _ _ rfl, hq1.keep hbl⟩⟩
    clear xU hE
    go_wp2_with fail
    refine (sets_any P M am mn cm N a n c _ 1 1 [Q] _ hMs).mono ?_
    rintro e w2 ⟨rfl, hb2⟩
    have hb3 : Below w1.heap.size w1 w2 := Below.next hbl hb2
    have hbw2 := Below.next hbw1 hb3
    rw [setsE_one] at HE ⊢
    by_cases hok : okSet N Q = true
    · have HE2 : Hid (rankE P M mod N L Q = 0) := by show _ = _; rw [HE.out, if_pos hok]
      rw [if_pos hok]
      obtain ⟨m, hm, hm1, hm2, hLl, hRw⟩ := Hrw.out
      subst hm
      have hlen := okSet_len hok (by omega)
      have hQk : ∀ k, k < no → 0 ≤ nth Q k ∧ nth Q k < m := fun k hk => by
        have := okSet_at hok (k := k) (by rw [Hql.out]; exact hk)
        exact ⟨this.1, this.2.1⟩
      have hno : no ≤ 1000000 := by rw [← Hql.out]; omega
      have hn : n ≤ 1000000 := by rw [← Hil.out]; omega
      have HQk := Lib.hid hQk
      have HRw := Lib.hid hRw
      have xU := (HX.out.keep hb1).keep hb3
      have b0 := xU.cell 0 rfl
      have b1 := xU.cell 1 rfl
      have b2 := xU.cell 2 rfl
      have b3 := xU.cell 3 rfl
      have b4 := xU.cell 4 rfl
      have hq2 := hq1.keep hb3
      have hi2 := ((hi.keep hbW).keep hb1).keep hb3
      have hG2 := hG.keep hb3
      clear hok hlen hQk hRw xU
      go_wp2_with fail
      refine (greedy_any P M am mn cm m a n c L m ao no co Q hG2 hi2 HRw.out hq2 HQk.out hn hno).mono ?_
      rintro e w4 ⟨a4, c4, rfl, hown4, hb4⟩
      have hF : RankPost P M mod m L Q w (.returned (.tuple #[.int .i64 (grS (tblOf P M.toNat mod).ops L Q).length, .int .i64 0])) w4 := ⟨Below.next hbw2 hb4, .inr ⟨HE2.out, rfl⟩⟩
      have HF := Lib.hid hF
      clear hF hown4
      generalize grS (tblOf P M.toNat mod).ops L Q = out at *
      go_wp2_with fail
      go_ret2
      exact HF.out
    · have HE2 : Hid (rankE P M mod N L Q = 6) := by show _ = _; rw [HE.out, if_neg hok]
      rw [if_neg hok]
      clear hok b0 b1 b2 b3 b4
      go_wp2_with fail
      go_ret2
      exact ⟨hbw2, .inl ⟨by rw [HE2.out]; omega, by rw [HE2.out]; rfl⟩⟩
end

/- The walks of ordering.rank, dimension. -/
section
open Go.RowKit

/-- the positions below k whose bits are set -/
def bitsTo (x : Nat) : Nat → List Int
  | 0 => []
  | k + 1 => if x.testBit k = true then bitsTo x k ++ [(k : Int)] else bitsTo x k
theorem bitsTo_len (x : Nat) : ∀ k, (bitsTo x k).length ≤ k
  | 0 => Nat.le_refl _
  | k + 1 => by have := bitsTo_len x k; unfold bitsTo; split <;> simp <;> omega
theorem testBit_div (x i : Nat) : x.testBit i = decide (x / 2 ^ i % 2 = 1) := by
  rw [Nat.testBit, Nat.shiftRight_eq_div_pow, Nat.one_and_eq_mod_two]
  rcases Nat.mod_two_eq_zero_or_one (x / 2 ^ i) with h | h <;> simp [h]
theorem and_one_u64 (x i : Nat) (hx : x < 18446744073709551616) : bits .and .u64 ((x : Int) / 2 ^ i) 1 = ((x / 2 ^ i % 2 : Nat) : Int) := by
  have h1 : x / 2 ^ i < 18446744073709551616 := Nat.lt_of_le_of_lt (Nat.div_le_self _ _) hx
  have h := bits_and_u64_nat (x / 2 ^ i) 1 h1 (by omega)
  rw [Nat.and_one_is_mod] at h
  rw [← h]
  congr 1

theorem nth_bits_lt (x : Nat) : ∀ k j, j < (bitsTo x k).length → 0 ≤ nth (bitsTo x k) j ∧ nth (bitsTo x k) j < k
  | 0, j, h => by simp [bitsTo] at h
  | k + 1, j, h => by
    unfold bitsTo at h ⊢
    split
    · rename_i ht
      rw [if_pos ht] at h
      simp only [List.length_append, List.length_singleton] at h
      by_cases hj : j < (bitsTo x k).length
      · have := nth_bits_lt x k j hj
        have e : nth (bitsTo x k ++ [(k : Int)]) j = nth (bitsTo x k) j := by simp only [nth, List.getD_eq_getElem?_getD]; rw [List.getElem?_append_left hj]
        rw [e]; omega
      · obtain rfl : j = (bitsTo x k).length := by omega
        have e : nth (bitsTo x k ++ [(k : Int)]) (bitsTo x k).length = k := by simp [nth]
        rw [e]; omega
    · rename_i ht
      rw [if_neg ht] at h
      have := nth_bits_lt x k j h
      omega
theorem okTo_append {N : Int} {l : List Int} {z : Int} {k : Nat} (hk : k ≤ l.length) : okTo N (l ++ [z]) k = okTo N l k := by
  unfold okTo
  have key : ∀ i, i ∈ List.range k → okAt N (l ++ [z]) i = okAt N l i := fun i hi => by
    have := List.mem_range.1 hi
    have e : ∀ j, j < l.length → nth (l ++ [z]) j = nth l j := fun j hj => by simp only [nth, List.getD_eq_getElem?_getD]; rw [List.getElem?_append_left hj]
    unfold okAt
    rw [e i (by omega), e (i - 1) (by omega)]
  rw [Bool.eq_iff_iff, List.all_eq_true, List.all_eq_true]
  exact ⟨fun h i hi => by rw [← key i hi]; exact h i hi, fun h i hi => by rw [key i hi]; exact h i hi⟩
theorem okAt_mono {N N' : Int} (hN : N ≤ N') {l : List Int} {k : Nat} (h : okAt N l k = true) : okAt N' l k = true := by
  unfold okAt at *
  simp only [Bool.and_eq_true, Bool.or_eq_true, decide_eq_true_eq, beq_iff_eq] at *
  exact ⟨⟨h.1.1, by omega⟩, h.2⟩
theorem okSet_mono {N N' : Int} (hN : N ≤ N') {l : List Int} (h : okSet N l = true) : okSet N' l = true := by
  unfold okSet okTo at *
  rw [List.all_eq_true] at *
  exact fun i hi => okAt_mono hN (h i hi)
theorem okSet_bits (x : Nat) : ∀ k : Nat, okSet k (bitsTo x k) = true
  | 0 => rfl
  | k + 1 => by
    have ih := okSet_mono (N' := ((k + 1 : Nat) : Int)) (by omega) (okSet_bits x k)
    unfold bitsTo
    split
    · unfold okSet
      rw [List.length_append, List.length_singleton]
      refine okTo_succ (by rw [okTo_append (Nat.le_refl _)]; exact ih) ?_
      have e : nth (bitsTo x k ++ [(k : Int)]) (bitsTo x k).length = k := by simp [nth]
      unfold okAt
      rw [e]
      by_cases h0 : (bitsTo x k).length = 0
      · simp [h0]; omega
      · have h1 := (nth_bits_lt x k ((bitsTo x k).length - 1) (by omega)).2
        have e2 : nth (bitsTo x k ++ [(k : Int)]) ((bitsTo x k).length - 1) = nth (bitsTo x k) ((bitsTo x k).length - 1) := by simp only [nth, List.getD_eq_getElem?_getD]; rw [List.getElem?_append_left (by omega)]
        rw [e2]
        simp [h1]; omega
    · exact ih
end

/- The walk of ordering.dimension. -/
section
open Go.RowKit

theorem grTo_len (O : FOps) (L : List (List Int)) (Q : List Int) : ∀ k, (grTo O L Q k).2.length ≤ k
  | 0 => Nat.le_refl _
  | k + 1 => by
    have := grTo_len O L Q k
    simp only [grTo]
    split
    · simp; omega
    · omega
theorem grS_len (O : FOps) (L : List (List Int)) (Q : List Int) : (grS O L Q).length ≤ Q.length := grTo_len O L Q _
def cplU (x : Nat) : Nat := 18446744073709551615 ^^^ x
theorem cplU_lt {x : Nat} (hx : x < 18446744073709551616) : cplU x < 18446744073709551616 := Nat.xor_lt_two_pow (n := 64) (by omega) (by omega)
theorem cplU_bits {x : Nat} (hx : x < 18446744073709551616) : bits .xor .u64 IntKind.u64.max (x : Int) = ((cplU x : Nat) : Int) := bits_xor_u64_nat 18446744073709551615 x (by omega) hx
theorem cplU_test (x i : Nat) (hi : i < 64) : (cplU x).testBit i = !x.testBit i := by
  have h : (18446744073709551615 : Nat).testBit i = true := by
    have := Nat.testBit_two_pow_sub_one 64 i
    rw [show (2 : Nat) ^ 64 - 1 = 18446744073709551615 by decide] at this
    rw [this]; simp [hi]
  rw [cplU, Nat.testBit_xor, h]; simp
def dimS (O : FOps) (L : List (List Int)) (N x : Nat) : Int := (grS O L (bitsTo x N)).length + (grS O L (bitsTo (cplU x) N)).length - L.length
end

/- The walk of ordering.Dimension. -/
section
open Go.RowKit

/-- the mask of the first k positions -/
def maskTo (Q : List Int) : Nat → Nat
  | 0 => 0
  | k + 1 => maskTo Q k ||| 2 ^ (nth Q k).toNat
def maskS (Q : List Int) : Nat := maskTo Q Q.length
theorem maskTo_lt {Q : List Int} : ∀ k, (∀ j, j < k → 0 ≤ nth Q j ∧ nth Q j < 64) → maskTo Q k < 18446744073709551616
  | 0, _ => by show (0 : Nat) < 18446744073709551616; omega
  | k + 1, h => by
    have ih := maskTo_lt k fun j hj => h j (by omega)
    have hk := h k (by omega)
    have : 2 ^ (nth Q k).toNat < 2 ^ 64 := Nat.pow_lt_pow_right (by omega) (by omega)
    exact Nat.or_lt_two_pow (n := 64) ih this

theorem mask_or (x z : Nat) (hx : x < 18446744073709551616) (hz : z < 64) : bits .or .u64 (x : Int) (IntKind.u64.wrap (2 ^ z)) = ((x ||| 2 ^ z : Nat) : Int) := by
  have hpz : 2 ^ z < 2 ^ 64 := Nat.pow_lt_pow_right (by omega) hz
  have hpc : ((2 ^ z : Nat) : Int) = 2 ^ z := by simp
  have hw : IntKind.u64.wrap (2 ^ z) = ((2 ^ z : Nat) : Int) := by
    rw [← hpc]; exact IntWalk.u64_in _ ⟨Int.natCast_nonneg _, Int.ofNat_le.2 (Nat.le_of_lt_succ hpz)⟩
  rw [hw]
  exact bits_or_u64_nat x (2 ^ z) hx hpz

def DimPost (P M : Int) (mod : List Int) (N : Int) (L : List (List Int)) (Q : List Int) (w : World) (e : Ending) (w' : World) : Prop :=
  Below w.heap.size w w' ∧ (
    (codeE P M mod N L ≠ 0 ∧ e = .returned (.tuple #[.int .i64 0, .int .i64 (codeE P M mod N L)])) ∨
    (codeE P M mod N L = 0 ∧ okSet N Q = false ∧ e = .returned (.tuple #[.int .i64 0, .int .i64 5])) ∨
    (codeE P M mod N L = 0 ∧ okSet N Q = true ∧ e = .returned (.tuple #[.int .i64 (dimS (tblOf P M.toNat mod).ops L N.toNat (maskS Q)), .int .i64 0])))
end

/- The walks of the references: Inv of layer 4, scale of layer 9. -/
section
open Go.RowKit

structure RFld (w : World) (P : Int) (m : Nat) (am : Option Addr) (mn : Nat) (mod : List Int) : Prop where
  rf : RF P m
  mods : Mods w P m am mn mod
theorem RFld.keep {w w' : World} {P : Int} {m : Nat} {am : Option Addr} {mn : Nat} {mod : List Int} (h : RFld w P m am mn mod) (hb : Below w.heap.size w w') : RFld w' P m am mn mod := ⟨h.rf, h.mods.keep hb⟩
theorem RF.isQ {P : Int} {m : Nat} (h : RF P m) {x : Int} (hx : ElP P m x) : isQ (orderS P m) x = true := by
  unfold Proofs.Ytapjcccpokhhhaa.isQ; rw [h.order]; simp [hx.1, hx.2]
theorem RF.el {P : Int} {m : Nat} (h : RF P m) {x : Int} (hx : Proofs.Ytapjcccpokhhhaa.isQ (orderS P m) x = true) : ElP P m x := by
  unfold Proofs.Ytapjcccpokhhhaa.isQ at hx; rw [h.order] at hx; simp at hx; exact hx
theorem mulR_el {P : Int} {m : Nat} (h : RF P m) (mod : List Int) (x y : Int) : ElP P m (mulR P m mod x y) := by
  have hP : 0 < P := by have := h.p2; omega
  have := valu_bd hP (mulL P m mod (digs x P m) (digs y P m)) (mulL_dig hP m mod _ _)
  rwa [mulL_len P mod _ _ h.m1] at this

/-- the first y from y0 on with f y = 1, or 0 -/
def invTo (f : Int → Int) : Nat → Int → Int
  | 0, _ => 0
  | n + 1, y => if f y = 1 then y else invTo f n (y + 1)
def invR (P : Int) (m : Nat) (mod : List Int) (x : Int) : Int := invTo (mulR P m mod x) ((orderS P m).toNat - 1) 1
def rops (P : Int) (m : Nat) (mod : List Int) : FOps := ⟨fsum P m, mulR P m mod, fneg P m, invR P m mod⟩
theorem invTo_bd (f : Int → Int) : ∀ (n : Nat) (y : Int), 0 ≤ y → 0 ≤ invTo f n y ∧ (invTo f n y < y + n ∨ invTo f n y = 0)
  | 0, y, h => by simp [invTo]
  | n + 1, y, h => by
    unfold invTo
    split
    · omega
    · have := invTo_bd f n (y + 1) (by omega)
      omega
theorem invR_el {P : Int} {m : Nat} (h : RF P m) (mod : List Int) (x : Int) : ElP P m (invR P m mod x) := by
  have h1 := invTo_bd (mulR P m mod x) ((orderS P m).toNat - 1) 1 (by omega)
  have h2 := h.order
  have h3 := one_lt_pow h.res
  unfold invR ElP
  omega
theorem rcl {P : Int} {m : Nat} (h : RF P m) (mod : List Int) : FCl (rops P m mod) (ElP P m) :=
  ⟨fun x y _ _ => fsum_el h.res x y, fun x y _ _ => mulR_el h mod x y, fun x _ => fneg_el h.res x, fun x _ _ => invR_el h mod x⟩
end

/- The reference's product is the program's. -/
section
section
variable {P : Int} {M : Nat} {low : Nat → Int}

/-- the value of the first n coefficients -/
def evL (M : Nat) (low : Nat → Int) (n : Nat) (c : List Int) : Nat → Int := fun i => sm n (fun k => nth c k * shN M low k (eV 0) i)

theorem sm_set {n k : Nat} {c : List Int} {z : Int} (f : Nat → Int) (hk : k < n) (hl : k < c.length) : sm n (fun j => nth (c.set k z) j * f j) = sm n (fun j => nth c j * f j) + (z - nth c k) * f k := by
  have h1 : sm n (fun j => nth (c.set k z) j * f j) = sm n (fun j => nth c j * f j + (if j = k then (z - nth c k) * f k else 0)) := sm_congr fun j _ => by
    rw [nth_set _ _ _ _ hl]
    by_cases e : j = k
    · subst e; rw [if_pos rfl, if_pos rfl, Int.sub_mul]; omega
    · rw [if_neg e, if_neg e]; omega
  rw [h1, sm_add]
  congr 1
  rw [sm_single hk fun i _ hne => if_neg hne, if_pos rfl]
theorem sm_set_out {n k : Nat} {c : List Int} {z : Int} (f : Nat → Int) (hk : n ≤ k) (hl : k < c.length) : sm n (fun j => nth (c.set k z) j * f j) = sm n (fun j => nth c j * f j) := sm_congr fun j hj => by
  rw [nth_set _ _ _ _ hl, if_neg (by omega)]

/-- the sum with a congruent coefficient -/
theorem evL_step {n k : Nat} {c : List Int} {d : Int} (hk : k < n) (hl : k < c.length) :
    Cg P (evL M low n (c.set k ((nth c k + d) % P))) (fun i => evL M low n c i + d * shN M low k (eV 0) i) := fun i => by
  simp only [evL]
  rw [sm_set (fun j => shN M low j (eV 0) i) hk hl]
  obtain ⟨e, he⟩ := cg_mod P (nth c k + d)
  refine ⟨e * shN M low k (eV 0) i, ?_⟩
  have h1 : (nth c k + d) % P - nth c k = d + P * e := by omega
  rw [h1, Int.add_mul, Int.mul_assoc]
  omega

theorem cvJ_ev {a b : List Int} {i n : Nat} {c : List Int} (hl : c.length = n) : ∀ j, i + j ≤ n →
    Cg P (evL M low n (cvJ P a b i c j)) (fun s => evL M low n c s + sm j (fun j => nth a i * nth b j * shN M low (i + j) (eV 0) s))
  | 0, _ => Cg.of_eq (by funext s; simp [cvJ, sm])
  | j + 1, hj => by
    have ih := cvJ_ev (a := a) (b := b) (i := i) hl j (by omega)
    rw [cvJ]
    refine (evL_step (by omega) (by rw [cvJ_len]; omega)).trans ((Cg.add ih (Cg.refl P _)).trans (Cg.of_eq ?_))
    funext s
    simp only [sm]
    omega
theorem cvI_ev {a b : List Int} {n : Nat} (hn : 2 * M - 1 ≤ n) (hM : 1 ≤ M) : ∀ i, i ≤ M →
    Cg P (evL M low n (cvI P a b M n i)) (fun s => sm i (fun i => sm M (fun j => nth a i * nth b j * shN M low (i + j) (eV 0) s)))
  | 0, _ => Cg.of_eq (by
    funext s
    simp only [evL, cvI, sm]
    rw [sm_congr (g := fun _ => 0) fun k _ => by
      have : nth (List.replicate n 0) k = 0 := by simp only [nth, List.getD_eq_getElem?_getD, List.getElem?_replicate]; split <;> rfl
      rw [this, Int.zero_mul], sm_zero])
  | i + 1, hi => by
    have ih := cvI_ev (a := a) (b := b) hn hM i (by omega)
    rw [cvI]
    refine (cvJ_ev (cvI_len P a b M n i) M (by omega)).trans ((Cg.add ih (Cg.refl P _)).trans (Cg.of_eq ?_))
    funext s
    simp only [sm]

theorem shN_M (hM : 1 ≤ M) : shN M low M (eV 0) = fun i => if i < M then - low i else 0 := by
  obtain ⟨m, rfl⟩ : ∃ m, M = m + 1 := ⟨M - 1, by omega⟩
  rw [shN, shN_e m (by omega)]
  funext i
  simp only [shV, eV]
  by_cases h : i < m + 1
  · rw [if_pos h, if_pos h, Nat.add_sub_cancel]
    by_cases h0 : i = 0
    · rw [if_pos h0, if_pos rfl]; omega
    · rw [if_neg h0, if_neg (by omega), if_pos rfl]; omega
  · rw [if_neg h, if_neg h]
theorem lowSum (hM : 1 ≤ M) (t : Nat) : (fun s => sm M (fun j => low j * shN M low (t + j) (eV 0) s)) = fun s => - shN M low (t + M) (eV 0) s := by
  have h1 : (fun s => sm M (fun j => low j * shN M low (t + j) (eV 0) s)) = shN M low t (fun s => sm M (fun j => low j * shN M low j (eV 0) s)) := by
    rw [shN_sm]
    funext s
    refine sm_congr fun j _ => ?_
    rw [shN_smul, shN_comp]
  have h2 : (fun s => sm M (fun j => low j * shN M low j (eV 0) s)) = fun s => (-1) * shN M low M (eV 0) s := by
    funext s
    rw [congrFun (shN_M (low := low) hM) s]
    have h3 : sm M (fun j => low j * shN M low j (eV 0) s) = sm M (fun j => low j * eV j s) := sm_congr fun j hj => by rw [shN_e j hj]
    rw [h3]
    by_cases hs : s < M
    · rw [sm_single hs fun i _ hne => by simp only [eV]; rw [if_neg (by omega)]; omega]
      rw [if_pos hs]
      simp [eV]
    · rw [if_neg hs, sm_congr (g := fun _ => 0) fun j hj => by simp only [eV]; rw [if_neg (by omega)]; omega, sm_zero]; rfl
  rw [h1, h2, shN_smul]
  funext s
  rw [← shN_comp]
  omega

theorem rdJ_top {mod : List Int} {i : Nat} {c : List Int} (hi : M ≤ i) (hl : i < c.length) : ∀ j, j ≤ M → nth (rdJ P M mod i c j) i = nth c i
  | 0, _ => rfl
  | j + 1, hj => by
    rw [rdJ, nth_set _ _ _ _ (by rw [rdJ_len]; omega), if_neg (by omega)]
    exact rdJ_top hi hl j (by omega)
theorem rdJ_ev {mod : List Int} {i : Nat} {c : List Int} (hi : M ≤ i) (hl : i < c.length) : ∀ j, j ≤ M →
    Cg P (evL M low i (rdJ P M mod i c j)) (fun s => evL M low i c s + (- nth c i) * sm j (fun j => nth mod j * shN M low (i - M + j) (eV 0) s))
  | 0, _ => Cg.of_eq (by funext s; simp [rdJ, sm])
  | j + 1, hj => by
    have ih := rdJ_ev (mod := mod) hi hl j (by omega)
    rw [rdJ, rdJ_top hi hl j (by omega)]
    refine (evL_step (by omega) (by rw [rdJ_len]; omega)).trans ?_
    refine (Cg.add ih (Cg.refl P _)).trans ?_
    intro s
    simp only [sm]
    generalize sm j (fun j => nth mod j * shN M low (i - M + j) (eV 0) s) = X
    generalize shN M low (i - M + j) (eV 0) s = Y
    refine ⟨nth mod j * Y, ?_⟩
    simp only [Int.mul_add, Int.sub_mul, Int.neg_mul, Int.mul_assoc]
    omega
theorem rdT_ev {mod : List Int} (hM : 1 ≤ M) (hlow : ∀ j, low j = nth mod j) {c : List Int} (hl : c.length = 2 * M - 1) : ∀ k, k ≤ M - 1 →
    Cg P (evL M low (2 * M - 1 - k) (rdT P M mod c k)) (evL M low (2 * M - 1) c)
  | 0, _ => Cg.refl P _
  | k + 1, hk => by
    have ih := rdT_ev hM hlow hl k (by omega)
    rw [rdT]
    refine Cg.trans ?_ ih
    obtain ⟨i, hi⟩ : ∃ i, 2 * M - 2 - k = i := ⟨_, rfl⟩
    rw [hi, show 2 * M - 1 - (k + 1) = i by omega, show 2 * M - 1 - k = i + 1 by omega]
    refine (rdJ_ev (low := low) (by omega) (by rw [rdT_len]; omega) M (Nat.le_refl _)).trans (Cg.of_eq ?_)
    funext s
    have h1 : sm M (fun j => low j * shN M low (i - M + j) (eV 0) s) = - shN M low (i - M + M) (eV 0) s := congrFun (lowSum (low := low) hM (i - M)) s
    rw [sm_congr (g := fun j => low j * shN M low (i - M + j) (eV 0) s) fun j _ => by rw [hlow], h1, show i - M + M = i by omega]
    simp only [evL, sm]
    rw [Int.neg_mul, Int.mul_neg]
    omega

theorem evL_take (c : List Int) (hl : M ≤ c.length) : evL M low M c = nth (c.take M) := by
  funext s
  simp only [evL]
  rw [sm_congr (g := fun j => nth c j * eV j s) fun j hj => by rw [shN_e j hj]]
  by_cases hs : s < M
  · rw [sm_single hs fun i _ hne => by simp only [eV]; rw [if_neg (by omega)]; omega, nth_take hs]
    simp [eV]
  · rw [nth_out (by rw [List.length_take]; omega), sm_congr (g := fun _ => 0) fun j hj => by simp only [eV]; rw [if_neg (by omega)]; omega, sm_zero]
end

theorem mulR_eq {P : Int} {m : Nat} (hf : RF P m) (mod : List Int) (x y : Int) : mulR P m mod x y = mulS P m mod x y := by
  have hres := hf.res
  have hP := hres.pos
  have hm1 := hf.m1
  refine (mulR_el hf mod x y).ext hres (mulS_el hres x y) (Cg.trans ?_ (dV_mulS hP m mod x y).symm)
  have hd : dV P m (mulR P m mod x y) = nth (mulL P m mod (digs x P m) (digs y P m)) := by
    unfold dV mulR
    have := digs_valu (P := P) (mulL P m mod (digs x P m) (digs y P m)) (mulL_dig hP m mod _ _)
    rw [mulL_len P mod _ _ hm1] at this
    rw [this]
  rw [hd]
  have hc := cvI_ev (P := P) (M := m) (low := nth (lowF m mod)) (a := digs x P m) (b := digs y P m) (n := 2 * m - 1) (Nat.le_refl _) hm1 m (Nat.le_refl _)
  have hx : Cg P (evL m (nth (lowF m mod)) (2 * m - 1) (cvI P (digs x P m) (digs y P m) m (2 * m - 1) m)) (mulV m (nth (lowF m mod)) (dV P m x) (dV P m y)) := by
    rw [mulV_expand (dV_sh P m y)]
    exact hc
  refine Cg.trans ?_ hx
  unfold mulL
  by_cases h1 : 1 < m
  · have hlow : ∀ j, nth (lowF m mod) j = nth mod j := fun j => by rw [lowF, if_pos h1]
    have hr := rdT_ev (P := P) hm1 hlow (cvI_len P (digs x P m) (digs y P m) m (2 * m - 1) m) (m - 1) (Nat.le_refl _)
    rw [show 2 * m - 1 - (m - 1) = m by omega, evL_take _ (by rw [rdT_len, cvI_len]; omega)] at hr
    exact hr
  · obtain rfl : m = 1 := by omega
    rw [← evL_take (M := 1) (low := nth (lowF 1 mod)) _ (by rw [rdT_len, cvI_len]; omega)]
    exact Cg.refl P _
end

/- The walks of the reference of layer 9: AddTo, Copy. -/
section
open Go.RowKit

theorem OMat.nul (w : World) (B : Nat) : OMat w B none 0 0 [] [] :=
  ⟨rfl, rfl, own_none, fun i hi => by omega, fun i hi => by omega, fun i j hi => by omega⟩
end

/- A condition on the world that need not hold behind the region's last operation: loads are taken first under it. -/
section
section
variable {P : Program} {ops : Array Oper} {Q : Exit → Act → World → Prop} {md : Region.Mode} {S : World → Prop} {n : Nat}

/-- whatever order comes: S holds behind each operation ahead of number n -/
def wpAnyK (P : Program) (md : Region.Mode) (ops : Array Oper) (Q : Exit → Act → World → Prop) (S : World → Prop) (n : Nat) : Nat → Array Bool → Act → World → Prop
  | 0, listed, a, w => Region.ready md ops listed = [] ∧ Q .normal a w
  | fuel + 1, listed, a, w =>
    (Region.ready md ops listed = [] → Q .normal a w) ∧
    ∀ i ∈ Region.ready md ops listed, wpOp P ops Q i (fun a' w' => (i < n → S w') ∧ wpAnyK P md ops Q S n fuel (listed.setIfInBounds i true) a' w') a w

theorem wpAny_of_K : ∀ (fuel : Nat) (listed : Array Bool) (a : Act) (w : World), wpAnyK P md ops Q S n fuel listed a w → wpAny P md ops Q fuel listed a w
  | 0, _, _, _, h => h
  | fuel + 1, _, _, _, h => ⟨h.1, fun i hi => wpOp_mono (fun a' w' h' => wpAny_of_K fuel _ a' w' h'.2) (h.2 i hi)⟩

theorem wpAnyK_first {i : Nat} {oi : Oper} {v : Value} (hi : ops[i]? = some oi) (hsel : ∀ (j : Nat) (o : Oper) cs b, ops[j]? = some o → o.op ≠ .select cs b)
    (hQ : ∀ c a w, Q (.panic c) (a.put oi.dst v) w → Q (.panic c) a w) (hs : Region.sinkB md ops n = true) (hc : Region.chainB md ops n = true) (hn : n < ops.size) (hin : i < n) :
    ∀ (fuel : Nat) (listed : Array Bool) (a : Act) (w : World), HeadInv md ops n listed →
      (∀ j oj, ops[j]? = some oj → j ≠ i → listed.getD j true = false → (∀ e ∈ oj.after, Region.binds md e = true → e.on ≠ i) → oi.apart ops oj = true) →
      i ∈ Region.ready md ops listed → YieldsIf P ops S oi v a → S w →
      wpAnyK P md ops Q S n fuel (listed.setIfInBounds i true) (a.put oi.dst v) w → wpAnyK P md ops Q S n (fuel + 1) listed a w := by
  intro fuel
  induction fuel with
  | zero =>
    intro listed a w inv _ hr hy hS H
    refine ⟨fun h => (by rw [h] at hr; cases hr), fun j hj => ?_⟩
    by_cases hji : j = i
    · subst hji; exact hy.wpOp hi hS ⟨fun _ => hS, H⟩
    · have := ready_mono hj hji
      rw [H.1] at this
      cases this
  | succ fuel ih =>
    intro listed a w inv hfree hr hy hS H
    have hun := (mem_ready.1 hr).1
    refine ⟨fun h => (by rw [h] at hr; cases hr), fun j hj => ?_⟩
    by_cases hji : j = i
    · subst hji; exact hy.wpOp hi hS ⟨fun _ => hS, H⟩
    · have hjn : j < n := by
        rcases Nat.lt_or_ge j n with h | h
        · exact h
        · exact absurd hj (tail_waits hs hc hn inv _ i rfl hin hun j h)
      have h1 := H.2 j (ready_mono hj hji)
      obtain ⟨hjun, oj, hoj, hall⟩ := mem_ready.1 hj
      have hnot : ∀ e ∈ oj.after, Region.binds md e = true → e.on ≠ i := fun e he hb heq => by
        have h1 := hall e he hb
        rw [heq, getD_both hun] at h1
        cases h1
      have h2 := wpOp_putIf hoj (hfree j oj hoj hji hjun hnot) (fun cs b => hsel i oi cs b hi) (fun cs b => hsel j oj cs b hoj) hQ hy h1
      have hfree' : ∀ k ok, ops[k]? = some ok → k ≠ i → (listed.setIfInBounds j true).getD k true = false →
          (∀ e ∈ ok.after, Region.binds md e = true → e.on ≠ i) → oi.apart ops ok = true := fun k ok hk hki hku hno => by
        refine hfree k ok hk hki ?_ hno
        by_cases hjk : j = k
        · subst hjk; exact hjun
        · rw [getD_set_ne true hjk] at hku; exact hku
      refine wpOp_mono (fun a' w' h3 => ?_) h2
      have hSw := h3.2.1 hjn
      refine ⟨fun _ => hSw, ih (listed.setIfInBounds j true) a' w' (inv.set hj hjn) hfree' (ready_mono hr (Ne.symm hji)) h3.1 hSw ?_⟩
      rw [Array.setIfInBounds_comm _ _ hji]
      exact h3.2.2

/-- take number i first -/
theorem wpAnyK_take {i : Nat} {oi : Oper} {v : Value} {fuel : Nat} {listed : Array Bool} {a : Act} {w : World} (hi : ops[i]? = some oi)
    (hs : (Region.noSelect ops && (Region.sinkB md ops n && (Region.chainB md ops n && (decide (n < ops.size) && decide (i < n))))) = true) (hf : Region.free md ops listed i = true) (hr : (Region.ready md ops listed).contains i = true)
    (hQ : ∀ c a w, Q (.panic c) (a.put oi.dst v) w → Q (.panic c) a w) (hy : YieldsIf P ops S oi v a) (hI : HeadInv md ops n listed ∧ S w)
    (h : HeadInv md ops n (listed.setIfInBounds i true) ∧ S w → wpAnyK P md ops Q S n fuel (listed.setIfInBounds i true) (a.put oi.dst v) w) : wpAnyK P md ops Q S n (fuel + 1) listed a w := by
  simp only [Bool.and_eq_true, decide_eq_true_eq] at hs
  have hr' : i ∈ Region.ready md ops listed := by simpa using hr
  exact wpAnyK_first hi (Region.noSelect_spec hs.1) hQ hs.2.1 hs.2.2.1 hs.2.2.2.1 hs.2.2.2.2 fuel listed a w hI.1 (Region.free_spec hi hf) hr' hy hI.2 (h ⟨hI.1.set hr' hs.2.2.2.2, hI.2⟩)

/-- one operation alone may come up -/
theorem wpAnyK_one {i : Nat} {fuel : Nat} {listed : Array Bool} {a : Act} {w : World} (hr : Region.ready md ops listed = [i]) (hin : i < n) (hI : HeadInv md ops n listed)
    (h : wpOp P ops Q i (fun a' w' => S w' ∧ (HeadInv md ops n (listed.setIfInBounds i true) ∧ S w' → wpAnyK P md ops Q S n fuel (listed.setIfInBounds i true) a' w')) a w) : wpAnyK P md ops Q S n (fuel + 1) listed a w :=
  ⟨fun h0 => (by rw [hr] at h0; cases h0), fun j hj => by
    rw [hr, List.mem_singleton] at hj; subst hj
    exact wpOp_mono (fun a' w' h' => ⟨fun _ => h'.1, h'.2 ⟨hI.set (by rw [hr]; simp) hin, h'.1⟩⟩) h⟩
/-- the last one: nothing is asked behind it -/
theorem wpAnyK_last {i : Nat} {fuel : Nat} {listed : Array Bool} {a : Act} {w : World} (hr : Region.ready md ops listed = [i]) (hin : n ≤ i) (hd : Region.ready md ops (listed.setIfInBounds i true) = [])
    (h : wpOp P ops Q i (fun a' w' => Q .normal a' w') a w) : wpAnyK P md ops Q S n (fuel + 1) listed a w :=
  ⟨fun h0 => (by rw [hr] at h0; cases h0), fun j hj => by
    rw [hr, List.mem_singleton] at hj; subst hj
    refine wpOp_mono (fun a' w' h' => ⟨fun h1 => by omega, ?_⟩) h
    cases fuel with
    | zero => exact ⟨hd, h'⟩
    | succ f => exact ⟨fun _ => h', by rw [hd]; simp⟩⟩
/-- one operation alone may come up: it is handed over, and the way back -/
theorem wpAnyK_op {i : Nat} {o : Oper} {fuel : Nat} {listed : Array Bool} {a : Act} {w : World} (hr : Region.ready md ops listed = [i]) (hin : i < n) (hI : HeadInv md ops n listed) (ho : ops[i]? = some o)
    (h : ∀ K' : Act → World → Prop, Shut (∀ a w, S w → (HeadInv md ops n (listed.setIfInBounds i true) ∧ S w → wpAnyK P md ops Q S n fuel (listed.setIfInBounds i true) a w) → K' a w) → if Region.wanted o (yielded ops a.tmps) = true then Oper.wp P o a w K' Q else K' (a.put o.dst undef) w) :
    wpAnyK P md ops Q S n (fuel + 1) listed a w :=
  wpAnyK_one hr hin hI (wpOp_step ho fun K' hK => h K' fun a w hS hW => hK a w ⟨hS, hW⟩)
theorem wpAnyK_end {i : Nat} {o : Oper} {fuel : Nat} {listed : Array Bool} {a : Act} {w : World} (hr : Region.ready md ops listed = [i]) (hin : n ≤ i) (hd : Region.ready md ops (listed.setIfInBounds i true) = []) (ho : ops[i]? = some o)
    (h : ∀ K' : Act → World → Prop, Shut (∀ a w, Q .normal a w → K' a w) → if Region.wanted o (yielded ops a.tmps) = true then Oper.wp P o a w K' Q else K' (a.put o.dst undef) w) :
    wpAnyK P md ops Q S n (fuel + 1) listed a w :=
  wpAnyK_last hr hin hd (wpOp_step ho fun K' hK => h K' fun a w hq => hK a w hq)
theorem headInv0 : HeadInv md ops n (Array.replicate ops.size false) :=
  ⟨by simp, fun j oj _ hl => (by rw [getD_replicate_false] at hl; cases hl), fun t _ ht => by
    have := getD_replicate_false ops.size t
    exact getD_in (by simpa using ht) this⟩
theorem wp_region_K {id : Nat} {a : Act} {w : World} (S : World → Prop) (n : Nat) (hm : P.follows .mixedOrders = true) (hS : S w.drew)
    (h : HeadInv .any ops n (Array.replicate ops.size false) ∧ S w.drew → wpAnyK P .any ops Q S n ops.size (Array.replicate ops.size false) a w.drew) : (Code.region id ops true).wp P Q a w :=
  wp_region_any hm (wpAny_of_K _ _ _ _ (h ⟨headInv0, hS⟩))
end
end

/- The walk of the reference's elimination. -/
section
open Go.RowKit

theorem swapRow_self (L : List (List Int)) (t : Nat) : swapRow L t t = L := by rw [swapRow, set_nthR, set_nthR]

/-- a new row is put at i -/
theorem OMat.newRow {V V5 : World} {B : Nat} {a : Option Addr} {n c : Nat} {R : List (Option Addr × Nat)} {L : List (List Int)} (h : OMat V B a n c R L) {i : Nat} (hi : i < n) (hb : Below V.heap.size V V5) (hB : B ≤ V.heap.size) {a5 : Option Addr} {c5 : Nat} {l : List Int}
    (hown : V5.ownsRow V.heap.size 3 1 (.slice a5 l.length c5) l.length (l.map (Value.int .i64))) :
    ∃ R', OMat (V5.setCell ⟨ablk a, aoff a + i, none⟩ (.slice a5 l.length c5)) B a n c R' (L.set i l) ∧ Moves V (V5.setCell ⟨ablk a, aoff a + i, none⟩ (.slice a5 l.length c5)) (OIn a R) (OIn a R') := by
  have hO4 := h.keep hb
  have hnew : ∀ b, b < V.heap.size → Apt a5 b := fun b hb => own_apt hown hb
  have h1 := hO4.setRow hi (own_mono hown hB) (hnew _ (h.lt _ (.inl ⟨h.ne (by omega), rfl⟩)).2) (fun j hj _ => by
    by_cases hn : (nthA R j).1 = none
    · exact .inl hn
    · exact .inr (hnew _ (h.lt _ (OMat.inRow (by rw [h.rl]; exact hj) hn)).2))
  have h2 := h.setRow_moves' hb hi (r := a5) (rc := c5) (.slice a5 l.length c5) (fun ha => .inr (own_ne hown ha).1)
  exact ⟨_, h1, h2⟩

def RElimPost (O : FOps) (L : List (List Int)) (cols : Nat) (w : World) (e : Ending) (w' : World) : Prop :=
  ∃ a c R ap cp, e = .returned (.tuple #[.slice a L.length c, .slice ap (elimTo O L cols).2.length cp]) ∧ OMat w' w.heap.size a L.length c R (elimTo O L cols).1 ∧
    w'.ownsRow w.heap.size 3 1 (.slice ap (elimTo O L cols).2.length cp) (elimTo O L cols).2.length ((elimTo O L cols).2.map (Value.int .i64)) ∧ Below w.heap.size w w'
end

/- The walks of the references: SameInts, SameRows, Entries of layer 9, IsSubset of layer 11. -/
section
open Go.RowKit

set_option maxHeartbeats 800000 in
theorem rSameInts_any (a : Option Addr) (n c : Nat) (l : List Int) (a' : Option Addr) (n' c' : Nat) (l' : List Int) {w : World} (h : Ints w a n l) (h' : Ints w a' n' l') :
    Calls Try.prog 13 #[.slice a n c, .slice a' n' c'] w (QuietBool w (decide (l = l'))) := by
  have Hl := Lib.hid h.len
  have Hl' := Lib.hid h'.len
  have hpl := h.pl
  have hpl' := h'.pl
  have hmax := h.max
  unfold maxLen at hmax
  by_cases hn : n = n'
  · subst hn
    have hnn : ((n : Int) != n) = false := by simp
    go_enter Try.func13, Try.ntmps13
    go_wp2_with fail
    go_loopw [5] (fun iv wr => ∃ k : Nat, k ≤ n ∧ iv = .int .i64 k ∧ Hid (l.take k = l'.take k) ∧ Drawn w wr) (fun i _ => n - (intOf i).toNat)
    case atStart => exact ⟨0, Nat.zero_le _, rfl, rfl, Drawn.refl _⟩
    case round =>
      obtain ⟨k, hk, rfl, htk, hd⟩ := hrel
      by_cases hlt : k < n
      · have c1 := (h.drawn hd).cell k hlt
        have c2 := (h'.drawn hd).cell k hlt
        by_cases he : nth l k = nth l' k
        · have he' : (nth l k != nth l' k) = false := by simpa using he
          have Hs : Hid (l.take (k + 1) = l'.take (k + 1)) := nth_take_eq htk.out (by rw [Hl.out]; exact hlt) (by rw [Hl'.out]; exact hlt) he
          clear he
          go_wp2_with fail
          go_quiet (fail)
          go_wp2
          go_roundw
          case rel => exact ⟨k + 1, by omega, by go_num, Hs.out, hd.drewN _⟩
          case measure => simp [intOf] <;> omega
        · have he' : (nth l k != nth l' k) = true := by simpa using he
          have Hs : Hid (decide (l = l') = false) := by
            show _ = _; simp; intro e; exact he (by rw [e])
          clear he
          go_wp2_with fail
          go_quiet (fail)
          go_wp2
          go_ret
          exact ⟨ret_bool Hs.out.symm, hd.drewN _⟩
      · obtain rfl : k = n := by omega
        have Hs : Hid (decide (l = l') = true) := by
          show _ = _
          have := htk.out
          rw [List.take_of_length_le (by rw [Hl.out]; exact Nat.le_refl _), List.take_of_length_le (by rw [Hl'.out]; exact Nat.le_refl _)] at this
          simpa using this
        go_wp2_with fail
        go_ret
        exact ⟨ret_bool Hs.out.symm, hd⟩
  · have hnn : ((n : Int) != n') = true := by simp; omega
    have Hs : Hid (decide (l = l') = false) := by
      show _ = _; simp; intro e; have e1 := Hl.out; have e2 := Hl'.out; rw [e] at e1; omega
    clear hn
    go_enter Try.func13, Try.ntmps13
    go_wp2_with fail
    go_ret
    exact ⟨ret_bool Hs.out.symm, Drawn.refl _⟩

set_option maxHeartbeats 800000 in
theorem rSameRows_any (a : Option Addr) (n c : Nat) (l : List (List Int)) (a' : Option Addr) (n' c' : Nat) (l' : List (List Int)) {w : World} (h : Mat w a n l) (h' : Mat w a' n' l') :
    Calls Try.prog 14 #[.slice a n c, .slice a' n' c'] w (QuietBool w (decide (l = l'))) := by
  have Hl := Lib.hid h.len
  have Hl' := Lib.hid h'.len
  have hpl := h.pl
  have hpl' := h'.pl
  have hmax := h.max
  unfold maxLen at hmax
  by_cases hn : n = n'
  · subst hn
    have hnn : ((n : Int) != n) = false := by simp
    go_enter Try.func14, Try.ntmps14
    go_wp2_with fail
    go_loopw [5] (fun iv wr => ∃ k : Nat, k ≤ n ∧ iv = .int .i64 k ∧ Hid (l.take k = l'.take k) ∧ Drawn w wr) (fun i _ => n - (intOf i).toNat)
    case atStart => exact ⟨0, Nat.zero_le _, rfl, rfl, Drawn.refl _⟩
    case round =>
      obtain ⟨k, hk, rfl, htk, hd⟩ := hrel
      by_cases hlt : k < n
      · obtain ⟨b1, n1, d1, c1, i1⟩ := (h.drawn hd).cell k hlt
        obtain ⟨b2, n2, d2, c2, i2⟩ := (h'.drawn hd).cell k hlt
        have Hc := Lib.hid (rSameInts_any b1 n1 d1 _ b2 n2 d2 _ (i1.drawn (Drawn.refl wr).drew) (i2.drawn (Drawn.refl wr).drew))
        by_cases he : nthR l k = nthR l' k
        · have he' : decide (nthR l k = nthR l' k) = true := by simpa using he
          have Hs : Hid (l.take (k + 1) = l'.take (k + 1)) := nthR_take_eq htk.out (by rw [Hl.out]; exact hlt) (by rw [Hl'.out]; exact hlt) he
          rw [he'] at Hc
          clear he he'
          go_wp2_with fail
          go_region_held3 (fun V => V.cell? ⟨ablk a, aoff a + k, none⟩ = some (.slice b1 n1 d1) ∧ V.cell? ⟨ablk a', aoff a' + k, none⟩ = some (.slice b2 n2 d2)) (exact ⟨c1, c2⟩)
            (first | (go_at_call 13; ((with_reducible refine Hc.out.mono ?_); rintro e w4 ⟨rfl, m4, rfl⟩)))
          go_wp2_with fail
          go_roundw
          case rel => exact ⟨k + 1, by omega, by go_num, Hs.out, hd.drewN (1 + m4)⟩
          case measure => simp [intOf] <;> omega
        · have he' : decide (nthR l k = nthR l' k) = false := by simpa using he
          have Hs : Hid (decide (l = l') = false) := by
            show _ = _; simp; intro e; exact he (by rw [e])
          rw [he'] at Hc
          clear he he'
          go_wp2_with fail
          go_region_held3 (fun V => V.cell? ⟨ablk a, aoff a + k, none⟩ = some (.slice b1 n1 d1) ∧ V.cell? ⟨ablk a', aoff a' + k, none⟩ = some (.slice b2 n2 d2)) (exact ⟨c1, c2⟩)
            (first | (go_at_call 13; ((with_reducible refine Hc.out.mono ?_); rintro e w4 ⟨rfl, m4, rfl⟩)))
          go_wp2_with fail
          go_ret
          exact ⟨ret_bool Hs.out.symm, hd.drewN (1 + m4)⟩
      · obtain rfl : k = n := by omega
        have Hs : Hid (decide (l = l') = true) := by
          show _ = _
          have := htk.out
          rw [List.take_of_length_le (by rw [Hl.out]; exact Nat.le_refl _), List.take_of_length_le (by rw [Hl'.out]; exact Nat.le_refl _)] at this
          simpa using this
        go_wp2_with fail
        go_ret
        exact ⟨ret_bool Hs.out.symm, hd⟩
  · have hnn : ((n : Int) != n') = true := by simp; omega
    have Hs : Hid (decide (l = l') = false) := by
      show _ = _; simp; intro e; have e1 := Hl.out; have e2 := Hl'.out; rw [e] at e1; omega
    clear hn
    go_enter Try.func14, Try.ntmps14
    go_wp2_with fail
    go_ret
    exact ⟨ret_bool Hs.out.symm, Drawn.refl _⟩
end

/- The walks of the references: Check of layer 9. -/
section
open Go.RowKit

def rmatE (P M : Int) (mod : List Int) (cols : Int) (L : List (List Int)) : Int := if fieldRB P M mod = true then matE (orderS P M) cols L else 1
end

end Go.Proofs.Ytapjcccpokhhhaa
