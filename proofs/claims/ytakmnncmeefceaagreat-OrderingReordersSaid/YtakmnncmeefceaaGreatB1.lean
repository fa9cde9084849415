/- The walks of space.Check, code.gen, length, Check. -/
import Derived.Test.YtakmnncmeefceaaGreatA4
import Derived.Test.YtakmnncmeefceaaGreatA6
import Derived.Test.YtakmnncmeefceaaGreatA9
namespace Go.Proofs.YtakmnncmeefceaaGreat
set_option linter.unusedVariables false
set_option linter.unusedSimpArgs false
set_option linter.unusedSectionVars false

/- The ring of integer polynomials modulo a monic one, as functions; its product is commutative and associative. -/
section
/-- a finite sum -/
def sm : Nat → (Nat → Int) → Int
  | 0, _ => 0
  | n + 1, f => sm n f + f n
theorem sm_congr {n : Nat} {f g : Nat → Int} (h : ∀ i, i < n → f i = g i) : sm n f = sm n g := by
  induction n with
  | zero => rfl
  | succ n ih => rw [sm, sm, ih fun i hi => h i (by omega), h n (by omega)]
theorem sm_add (n : Nat) (f g : Nat → Int) : sm n (fun i => f i + g i) = sm n f + sm n g := by
  induction n with
  | zero => rfl
  | succ n ih => simp only [sm, ih]; omega
theorem sm_zero (n : Nat) : sm n (fun _ => 0) = 0 := by
  induction n with
  | zero => rfl
  | succ n ih => simp only [sm, ih]; rfl
theorem sm_mul (n : Nat) (c : Int) (f : Nat → Int) : sm n (fun i => c * f i) = c * sm n f := by
  induction n with
  | zero => simp [sm]
  | succ n ih => simp only [sm, ih, Int.mul_add]
theorem sm_swap (n m : Nat) (f : Nat → Nat → Int) : sm n (fun i => sm m (fun j => f i j)) = sm m (fun j => sm n (fun i => f i j)) := by
  induction n with
  | zero => simp only [sm]; rw [sm_zero]
  | succ n ih => simp only [sm, ih, sm_add]
theorem sm_dvd {n : Nat} {f : Nat → Int} {P : Int} (h : ∀ i, i < n → P ∣ f i) : P ∣ sm n f := by
  induction n with
  | zero => exact ⟨0, by simp [sm]⟩
  | succ n ih => exact Int.dvd_add (ih fun i hi => h i (by omega)) (h n (by omega))
theorem sm_single {n : Nat} {f : Nat → Int} {k : Nat} (hk : k < n) (h : ∀ i, i < n → i ≠ k → f i = 0) : sm n f = f k := by
  induction n with
  | zero => omega
  | succ n ih =>
    rw [sm]
    by_cases e : k = n
    · subst e
      rw [sm_congr (g := fun _ => 0) fun i hi => h i (by omega) (by omega), sm_zero]; omega
    · rw [ih (by omega) fun i hi => h i (by omega), h n (by omega) (by omega)]; omega
theorem sm_shift (n : Nat) (f : Nat → Int) : sm (n + 1) f = f 0 + sm n (fun i => f (i + 1)) := by
  induction n with
  | zero => simp [sm]
  | succ n ih => rw [sm, ih]; simp only [sm]; omega
theorem sm_split (n m : Nat) (f : Nat → Int) : sm (n + m) f = sm n f + sm m (fun i => f (n + i)) := by
  induction m with
  | zero => simp [sm]
  | succ m ih => rw [← Nat.add_assoc, sm, ih]; simp only [sm]; omega

/-- times X, where X^M is minus the sum of low -/
def shV (M : Nat) (low : Nat → Int) (v : Nat → Int) : Nat → Int :=
  fun i => if i < M then (if i = 0 then 0 else v (i - 1)) - v (M - 1) * low i else 0
def shN (M : Nat) (low : Nat → Int) : Nat → (Nat → Int) → Nat → Int
  | 0, v => v
  | k + 1, v => shV M low (shN M low k v)

variable {M : Nat} {low : Nat → Int}

theorem shV_add (u v : Nat → Int) : shV M low (fun i => u i + v i) = fun i => shV M low u i + shV M low v i := by
  funext i; simp only [shV]; split
  · split
    · rw [Int.add_mul]; omega
    · rw [Int.add_mul]; omega
  · rfl
theorem shV_smul (c : Int) (v : Nat → Int) : shV M low (fun i => c * v i) = fun i => c * shV M low v i := by
  funext i; simp only [shV]; split
  · split
    · rw [Int.mul_sub, Int.mul_zero, Int.mul_assoc]
    · rw [Int.mul_sub, Int.mul_assoc]
  · rw [Int.mul_zero]
theorem shN_add (k : Nat) (u v : Nat → Int) : shN M low k (fun i => u i + v i) = fun i => shN M low k u i + shN M low k v i := by
  induction k with
  | zero => rfl
  | succ k ih => rw [shN, ih, shV_add]; rfl
theorem shN_smul (k : Nat) (c : Int) (v : Nat → Int) : shN M low k (fun i => c * v i) = fun i => c * shN M low k v i := by
  induction k with
  | zero => rfl
  | succ k ih => rw [shN, ih, shV_smul]; rfl
theorem shN_zero (k : Nat) : shN M low k (fun _ => 0) = fun _ => 0 := by
  have := shN_smul (M := M) (low := low) k 0 (fun _ => 0)
  simpa using this
theorem shN_sm (k n : Nat) (f : Nat → Nat → Int) : shN M low k (fun i => sm n (fun j => f j i)) = fun i => sm n (fun j => shN M low k (f j) i) := by
  induction n with
  | zero => simp only [sm]; exact shN_zero k
  | succ n ih => simp only [sm]; rw [shN_add, ih]
theorem shN_comp (k l : Nat) (v : Nat → Int) : shN M low (k + l) v = shN M low k (shN M low l v) := by
  induction k with
  | zero => rw [Nat.zero_add]; rfl
  | succ k ih => rw [show k + 1 + l = (k + l) + 1 by omega, shN, shN, ih]

/-- the unit vectors -/
def eV (j : Nat) : Nat → Int := fun i => if i = j then 1 else 0
/-- zero from M on -/
def Sh (M : Nat) (v : Nat → Int) : Prop := ∀ i, M ≤ i → v i = 0
theorem Sh_shV (v : Nat → Int) : Sh M (shV M low v) := fun i hi => by simp only [shV]; rw [if_neg (by omega)]
theorem Sh_shN {v : Nat → Int} (h : Sh M v) (k : Nat) : Sh M (shN M low k v) := by
  cases k with
  | zero => exact h
  | succ k => exact Sh_shV _
theorem shN_e (j : Nat) (hj : j < M) : shN M low j (eV 0) = eV j := by
  induction j with
  | zero => rfl
  | succ j ih =>
    rw [shN, ih (by omega)]
    funext i
    simp only [shV, eV]
    by_cases h : i < M
    · rw [if_pos h, if_neg (show ¬ M - 1 = j by omega)]
      by_cases h0 : i = 0
      · rw [if_pos h0, if_neg (by omega)]; omega
      · rw [if_neg h0]
        by_cases h1 : i = j + 1
        · rw [if_pos h1, if_pos (by omega)]; omega
        · rw [if_neg h1, if_neg (by omega)]; omega
    · rw [if_neg h, if_neg (by omega)]
theorem Sh.expand {v : Nat → Int} (h : Sh M v) : v = fun k => sm M (fun j => v j * shN M low j (eV 0) k) := by
  funext k
  rw [sm_congr (g := fun j => v j * eV j k) fun j hj => by rw [shN_e j hj]]
  by_cases hk : k < M
  · rw [sm_single hk fun i hi hne => by simp only [eV]; rw [if_neg (by omega)]; omega]
    simp [eV]
  · rw [h k (by omega), sm_congr (g := fun _ => 0) fun j hj => by simp only [eV]; rw [if_neg (by omega)]; omega, sm_zero]

/-- the product -/
def mulV (M : Nat) (low : Nat → Int) (x y : Nat → Int) : Nat → Int := fun k => sm M (fun i => x i * shN M low i y k)
theorem Sh_mulV {x y : Nat → Int} (hy : Sh M y) : Sh M (mulV M low x y) := fun k hk => by
  simp only [mulV]
  rw [sm_congr (g := fun _ => 0) fun i _ => by rw [Sh_shN hy i k hk]; omega, sm_zero]
theorem mulV_expand {x y : Nat → Int} (hy : Sh M y) : mulV M low x y = fun k => sm M (fun i => sm M (fun j => x i * y j * shN M low (i + j) (eV 0) k)) := by
  funext k
  simp only [mulV]
  refine sm_congr fun i _ => ?_
  have e : shN M low i y = shN M low i (fun k => sm M (fun j => y j * shN M low j (eV 0) k)) := congrArg _ hy.expand
  rw [e, shN_sm]
  simp only
  rw [← sm_mul]
  refine sm_congr fun j _ => ?_
  rw [shN_smul, shN_comp, Int.mul_assoc]
theorem mulV_comm {x y : Nat → Int} (hx : Sh M x) (hy : Sh M y) : mulV M low x y = mulV M low y x := by
  rw [mulV_expand hx, mulV_expand hy]
  funext k
  rw [sm_swap]
  refine sm_congr fun i _ => sm_congr fun j _ => ?_
  rw [Int.mul_comm (x j), Nat.add_comm j i]
theorem mulV_left (x y z : Nat → Int) : mulV M low x (mulV M low y z) = fun k => sm M (fun i => sm M (fun j => x i * y j * shN M low (i + j) z k)) := by
  funext k
  refine sm_congr fun i _ => ?_
  rw [show mulV M low y z = (fun k => sm M (fun j => y j * shN M low j z k)) from rfl, shN_sm]
  simp only
  rw [← sm_mul]
  refine sm_congr fun j _ => ?_
  rw [shN_smul, shN_comp, Int.mul_assoc]
theorem mulV_leftComm (x y z : Nat → Int) : mulV M low x (mulV M low y z) = mulV M low y (mulV M low x z) := by
  rw [mulV_left, mulV_left]
  funext k
  rw [sm_swap]
  refine sm_congr fun i _ => sm_congr fun j _ => ?_
  rw [Int.mul_comm (x j), Nat.add_comm j i]
theorem mulV_assoc {x y z : Nat → Int} (hx : Sh M x) (hy : Sh M y) (hz : Sh M z) : mulV M low (mulV M low x y) z = mulV M low x (mulV M low y z) := by
  rw [mulV_comm (Sh_mulV hy) hz, mulV_leftComm, mulV_comm hz hy]
theorem mulV_one {x : Nat → Int} (hM : 0 < M) (hx : Sh M x) : mulV M low (eV 0) x = x := by
  funext k
  simp only [mulV]
  rw [sm_single hM fun i _ hne => by simp only [eV]; rw [if_neg hne]; omega]
  simp [eV, shN]
theorem mulV_addRight (x y z : Nat → Int) : mulV M low x (fun i => y i + z i) = fun k => mulV M low x y k + mulV M low x z k := by
  funext k
  simp only [mulV]
  rw [← sm_add]
  refine sm_congr fun i _ => ?_
  rw [shN_add, Int.mul_add]

/-- equal modulo P -/
def Cg (P : Int) (u v : Nat → Int) : Prop := ∀ i, P ∣ u i - v i
theorem Cg.refl (P : Int) (u : Nat → Int) : Cg P u u := fun i => ⟨0, by omega⟩
theorem Cg.symm {P : Int} {u v : Nat → Int} (h : Cg P u v) : Cg P v u := fun i => by
  obtain ⟨c, hc⟩ := h i; exact ⟨-c, by rw [Int.mul_neg]; omega⟩
theorem Cg.trans {P : Int} {u v x : Nat → Int} (h : Cg P u v) (k : Cg P v x) : Cg P u x := fun i => by
  obtain ⟨c, hc⟩ := h i; obtain ⟨d, hd⟩ := k i; exact ⟨c + d, by rw [Int.mul_add]; omega⟩
theorem Cg.of_eq {P : Int} {u v : Nat → Int} (h : u = v) : Cg P u v := h ▸ Cg.refl P u
theorem Cg_shV {P : Int} {u v : Nat → Int} (h : Cg P u v) : Cg P (shV M low u) (shV M low v) := fun i => by
  simp only [shV]
  split
  · obtain ⟨c, hc⟩ := h (M - 1)
    have e : u (M - 1) * low i - v (M - 1) * low i = P * (c * low i) := by rw [← Int.sub_mul, hc, Int.mul_assoc]
    split
    · exact ⟨-(c * low i), by rw [Int.mul_neg, ← e]; omega⟩
    · obtain ⟨d, hd⟩ := h (i - 1)
      exact ⟨d - c * low i, by rw [Int.mul_sub, ← e, ← hd]; omega⟩
  · exact ⟨0, by omega⟩
theorem Cg_shN {P : Int} {u v : Nat → Int} (h : Cg P u v) (k : Nat) : Cg P (shN M low k u) (shN M low k v) := by
  induction k with
  | zero => exact h
  | succ k ih => exact Cg_shV ih
theorem Cg.add {P : Int} {u v x y : Nat → Int} (h : Cg P u v) (k : Cg P x y) : Cg P (fun i => u i + x i) (fun i => v i + y i) := fun i => by
  obtain ⟨c, hc⟩ := h i; obtain ⟨d, hd⟩ := k i; exact ⟨c + d, by simp only [Int.mul_add]; omega⟩
theorem dvd_mul_sub {P a b c d : Int} (h : P ∣ a - b) (k : P ∣ c - d) : P ∣ a * c - b * d := by
  obtain ⟨x, hx⟩ := h; obtain ⟨y, hy⟩ := k
  have ea : a = b + P * x := by omega
  have ec : c = d + P * y := by omega
  refine ⟨x * d + b * y + P * x * y, ?_⟩
  rw [ea, ec]
  simp only [Int.add_mul, Int.mul_add]
  have e1 : b * (P * y) = P * (b * y) := by rw [← Int.mul_assoc, Int.mul_comm b P, Int.mul_assoc]
  have e2 : P * x * (P * y) = P * (P * x * y) := by rw [← Int.mul_assoc, Int.mul_comm (P * x) P, Int.mul_assoc]
  have e3 : P * (x * d) = P * x * d := by rw [Int.mul_assoc]
  rw [e1, e2, e3]; omega
theorem Cg_mulV {P : Int} {u v x y : Nat → Int} (h : Cg P u v) (k : Cg P x y) : Cg P (mulV M low u x) (mulV M low v y) := fun i => by
  simp only [mulV]
  have e : sm M (fun j => u j * shN M low j x i) - sm M (fun j => v j * shN M low j y i) = sm M (fun j => u j * shN M low j x i - v j * shN M low j y i) := by
    have := sm_add M (fun j => u j * shN M low j x i - v j * shN M low j y i) (fun j => v j * shN M low j y i)
    have e2 : sm M (fun j => u j * shN M low j x i - v j * shN M low j y i + v j * shN M low j y i) = sm M (fun j => u j * shN M low j x i) := sm_congr fun j _ => by omega
    omega
  rw [e]
  exact sm_dvd fun j _ => dvd_mul_sub (h j) (Cg_shN k j i)
end

/- The residues of polynomials, as numbers: their sum and product are those of a commutative ring. -/
section
/-- the digits as a function -/
def dV (P : Int) (M : Nat) (x : Int) : Nat → Int := nth (digs x P M)
theorem dV_sh (P : Int) (M : Nat) (x : Int) : Sh M (dV P M x) := fun i hi => nth_out (by rw [digs_length]; exact hi)

theorem valu_digs {P : Int} (hP : 0 < P) : ∀ (M : Nat) (x : Int), 0 ≤ x → x < P ^ M → valu P (digs x P M) = x
  | 0, x, h0, h1 => by simp at h1; simp [digs, valu]; omega
  | M + 1, x, h0, h1 => by
    rw [digs, valu, valu_digs hP M (x / P) (Int.ediv_nonneg h0 (by omega)) (Int.ediv_lt_of_lt_mul hP (by rwa [Int.pow_succ] at h1))]
    exact Int.emod_add_mul_ediv x P
theorem digs_cons {P : Int} (c r : Int) (M : Nat) (hc0 : 0 ≤ c) (hc1 : c < P) : digs (c + P * r) P (M + 1) = c :: digs r P M := by
  rw [digs, Int.add_mul_emod_self_left, Int.emod_eq_of_lt hc0 hc1, Int.add_mul_ediv_left _ _ (by omega), Int.ediv_eq_zero_of_lt hc0 hc1, Int.zero_add]
theorem digs_valu {P : Int} : ∀ (l : List Int), Dig P l → digs (valu P l) P l.length = l
  | [], _ => rfl
  | c :: l, h => by
    have h0 := h 0
    simp only [nth, List.getD_cons_zero] at h0
    rw [valu, List.length_cons, digs_cons c _ _ h0.1 h0.2, digs_valu l (fun i => by simpa [nth] using h (i + 1))]

theorem cg_mod (P x : Int) : P ∣ x % P - x := ⟨-(x / P), by have := Int.emod_add_mul_ediv x P; rw [Int.mul_neg]; omega⟩
theorem dvd_small {P a b : Int} (hP : 0 < P) (ha : 0 ≤ a) (ha1 : a < P) (hb : 0 ≤ b) (hb1 : b < P) (h : P ∣ a - b) : a = b := by
  obtain ⟨c, hc⟩ := h
  have hc0 : c = 0 := by
    rcases Int.lt_trichotomy c 0 with h1 | h1 | h1
    · have := Int.mul_le_mul_of_nonneg_left (show c ≤ -1 by omega) (show 0 ≤ P by omega)
      omega
    · exact h1
    · have := Int.mul_le_mul_of_nonneg_left (show 1 ≤ c by omega) (show 0 ≤ P by omega)
      omega
  rw [hc0] at hc; omega

/-- elements are equal if their digits are congruent -/
theorem el_ext {P : Int} (hP : 0 < P) {M : Nat} {x y : Int} (hx0 : 0 ≤ x) (hx1 : x < P ^ M) (hy0 : 0 ≤ y) (hy1 : y < P ^ M) (h : Cg P (dV P M x) (dV P M y)) : x = y := by
  have e : digs x P M = digs y P M := by
    refine nth_ext (by rw [digs_length, digs_length]) fun i _ => ?_
    have h1 := Dig.digs hP M x i
    have h2 := Dig.digs hP M y i
    exact dvd_small hP h1.1 h1.2 h2.1 h2.2 (h i)
  rw [← valu_digs hP M x hx0 hx1, ← valu_digs hP M y hy0 hy1, e]

theorem nth_cons_zero (c : Int) (l : List Int) : nth (c :: l) 0 = c := by simp [nth]
theorem nth_cons_succ (c : Int) (l : List Int) (i : Nat) : nth (c :: l) (i + 1) = nth l i := by simp [nth]

theorem dV_fsum {P : Int} (hP : 0 < P) : ∀ (M : Nat) (x y : Int), Cg P (dV P M (fsum P M x y)) (fun i => dV P M x i + dV P M y i)
  | 0, x, y => fun i => by simp [dV, digs, nth]
  | M + 1, x, y => fun i => by
    simp only [dV, fsum]
    rw [digs_cons _ _ _ (Int.emod_nonneg _ (by omega)) (Int.emod_lt_of_pos _ hP), digs, digs]
    match i with
    | 0 =>
      rw [nth_cons_zero, nth_cons_zero, nth_cons_zero]
      have h1 := cg_mod P (x + y)
      have h2 := cg_mod P x
      have h3 := cg_mod P y
      have h4 := Int.dvd_sub (Int.dvd_sub h1 h2) h3
      rwa [show (x + y) % P - (x + y) - (x % P - x) - (y % P - y) = (x + y) % P - (x % P + y % P) by omega] at h4
    | i + 1 =>
      rw [nth_cons_succ, nth_cons_succ, nth_cons_succ]
      exact dV_fsum hP M (x / P) (y / P) i
theorem dV_fneg {P : Int} (hP : 0 < P) : ∀ (M : Nat) (x : Int), Cg P (dV P M (fneg P M x)) (fun i => - dV P M x i)
  | 0, x => fun i => by simp [dV, digs, nth]
  | M + 1, x => fun i => by
    simp only [dV, fneg]
    rw [digs_cons _ _ _ (Int.emod_nonneg _ (by omega)) (Int.emod_lt_of_pos _ hP), digs]
    match i with
    | 0 =>
      rw [nth_cons_zero, nth_cons_zero]
      have h1 := cg_mod P (P - x % P)
      have h4 := Int.dvd_add h1 (Int.dvd_refl P)
      rwa [show (P - x % P) % P - (P - x % P) + P = (P - x % P) % P - - (x % P) by omega] at h4
    | i + 1 =>
      rw [nth_cons_succ, nth_cons_succ]
      exact dV_fneg hP M (x / P) i
theorem dV_zero (P : Int) : ∀ (M : Nat), dV P M 0 = fun _ => 0
  | 0 => by funext i; simp [dV, digs, nth]
  | M + 1 => by
    funext i
    simp only [dV, digs]
    match i with
    | 0 => rw [nth_cons_zero]; simp
    | i + 1 => rw [nth_cons_succ]; have := congrFun (dV_zero P M) i; simpa [dV] using this
theorem dV_one {P : Int} (hP : 2 ≤ P) {M : Nat} (hM : 0 < M) : dV P M 1 = eV 0 := by
  obtain ⟨m, rfl⟩ : ∃ m, M = m + 1 := ⟨M - 1, by omega⟩
  funext i
  simp only [dV, digs]
  match i with
  | 0 => rw [nth_cons_zero]; simp [eV]; exact Int.emod_eq_of_lt (by omega) (by omega)
  | i + 1 =>
    rw [nth_cons_succ, Int.ediv_eq_zero_of_lt (by omega) (by omega)]
    have := congrFun (dV_zero P m) i
    simpa [dV, eV] using this

theorem nth_shl {out : List Int} {M i : Nat} (hl : out.length = M) (hi : i < M) : nth (shl out) i = if i = 0 then 0 else nth out (i - 1) := by
  match i with
  | 0 => simp [shl, nth]
  | i + 1 =>
    rw [shl, nth_cons_succ, if_neg (by omega)]
    simp only [nth, List.getD_eq_getElem?_getD, List.getElem?_dropLast]
    rw [if_pos (by omega)]; rfl

theorem horn_spec {P : Int} (hP : 0 < P) (low a b : List Int) {M : Nat} (ha : a.length = M) : ∀ k, k ≤ M →
    Cg P (nth (horn P low a b M k)) (fun i => sm k (fun j => nth b (M - k + j) * shN M (nth low) j (nth a) i))
  | 0, _ => fun i => by
    have e : nth (horn P low a b M 0) i = 0 := by
      simp only [horn, nth, List.getD_eq_getElem?_getD, List.getElem?_replicate]; split <;> rfl
    rw [e]; simp [sm]
  | k + 1, hk => by
    have ih := Cg_shV (M := M) (low := nth low) (horn_spec hP low a b ha k (by omega))
    have e1 : (fun i => sm (k + 1) (fun j => nth b (M - (k + 1) + j) * shN M (nth low) j (nth a) i)) =
        fun i => shV M (nth low) (fun i => sm k (fun j => nth b (M - k + j) * shN M (nth low) j (nth a) i)) i + nth b (M - 1 - k) * nth a i := by
      funext i
      rw [sm_shift, show M - (k + 1) + 0 = M - 1 - k by omega]
      have e2 := congrFun (shN_sm (M := M) (low := nth low) 1 k (fun j i => nth b (M - k + j) * shN M (nth low) j (nth a) i)) i
      have e3 : shV M (nth low) (fun i => sm k (fun j => nth b (M - k + j) * shN M (nth low) j (nth a) i)) i = sm k (fun j => nth b (M - (k + 1) + (j + 1)) * shN M (nth low) (j + 1) (nth a) i) := by
        refine Eq.trans e2 (sm_congr fun j _ => ?_)
        rw [shN_smul, show M - (k + 1) + (j + 1) = M - k + j by omega]
        rfl
      rw [e3]
      show nth b (M - 1 - k) * nth a i + _ = _
      omega
    rw [e1]
    intro i
    show P ∣ nth (horn P low a b M (k + 1)) i - (shV M (nth low) (fun i => sm k (fun j => nth b (M - k + j) * shN M (nth low) j (nth a) i)) i + nth b (M - 1 - k) * nth a i)
    by_cases hi : i < M
    · rw [horn, nth_stepF _ _ _ _ _ _ _ hi, stepE, nth_shl (horn_length ..) hi]
      have h1 := ih i
      generalize hv : shV M (nth low) (fun i => sm k (fun j => nth b (M - k + j) * shN M (nth low) j (nth a) i)) i = z at *
      simp only [shV, if_pos hi] at h1
      generalize (if i = 0 then (0 : Int) else nth (horn P low a b M k) (i - 1)) = u at *
      generalize nth (horn P low a b M k) (M - 1) = t at *
      generalize nth b (M - 1 - k) * nth a i = c at *
      have h2 := cg_mod P (u + (P - t) * nth low i + c)
      have h3 : P ∣ P * nth low i := Int.dvd_mul_right _ _
      have h4 := Int.dvd_add (Int.dvd_add h2 h1) h3
      rw [Int.sub_mul] at h4 ⊢
      rwa [show (u + (P * nth low i - t * nth low i) + c) % P - (u + (P * nth low i - t * nth low i) + c) + (u - t * nth low i - z) + P * nth low i = (u + (P * nth low i - t * nth low i) + c) % P - (z + c) by omega] at h4
    · rw [nth_out (by rw [horn_length]; omega), nth_out (l := a) (by omega)]
      have e2 : shV M (nth low) (fun i => sm k (fun j => nth b (M - k + j) * shN M (nth low) j (nth a) i)) i = 0 := Sh_shV _ i (by omega)
      rw [e2]; simp

/-- the product of two numbers below q has the digits of the product -/
theorem dV_mulS {P : Int} (hP : 0 < P) (M : Nat) (mod : List Int) (x y : Int) : Cg P (dV P M (mulS P M mod x y)) (mulV M (nth (lowF M mod)) (dV P M x) (dV P M y)) := by
  have h := horn_spec hP (lowF M mod) (digs x P M) (digs y P M) (digs_length P M x) M (Nat.le_refl _)
  have e : dV P M (mulS P M mod x y) = nth (horn P (lowF M mod) (digs x P M) (digs y P M) M M) := by
    unfold dV mulS
    have := digs_valu (P := P) (horn P (lowF M mod) (digs x P M) (digs y P M) M M) (Dig.horn hP _ _ _ _ _)
    rw [horn_length] at this
    rw [this]
  rw [e, mulV_comm (dV_sh P M x) (dV_sh P M y)]
  refine h.trans (Cg.of_eq ?_)
  funext i
  simp only [mulV]
  refine sm_congr fun j _ => ?_
  rw [show M - M + j = j by omega]
  rfl

structure Res (P : Int) (M : Nat) : Prop where
  p : 2 ≤ P
  m : 0 < M
def ElP (P : Int) (M : Nat) (x : Int) : Prop := 0 ≤ x ∧ x < P ^ M
variable {P : Int} {M : Nat} {mod : List Int}

theorem ElP.ext (h : Res P M) {x y : Int} (hx : ElP P M x) (hy : ElP P M y) (e : Cg P (dV P M x) (dV P M y)) : x = y := el_ext (by have := h.p; omega) hx.1 hx.2 hy.1 hy.2 e
theorem mulS_el (h : Res P M) (x y : Int) : ElP P M (mulS P M mod x y) := mulS_bd (by have := h.p; omega) M mod x y
theorem fsum_el (h : Res P M) (x y : Int) : ElP P M (fsum P M x y) := fsum_bd (by have := h.p; omega) M x y
theorem fneg_el (h : Res P M) (x : Int) : ElP P M (fneg P M x) := fneg_bd (by have := h.p; omega) M x
theorem one_lt_pow (h : Res P M) : 1 < P ^ M := by
  have h1 := pow_mono (P := P) (by have := h.p; omega) h.m
  have h2 := h.p
  have h3 : P ^ (0 + 1) = P := by rw [Int.pow_succ, Int.pow_zero, Int.one_mul]
  have h4 : P ^ (0 + 1) ≤ P ^ M := h1
  omega
theorem one_el (h : Res P M) : ElP P M 1 := ⟨by omega, one_lt_pow h⟩
theorem zero_el (h : Res P M) : ElP P M 0 := ⟨by omega, by have := one_lt_pow h; omega⟩
theorem Res.pos (h : Res P M) : 0 < P := by have := h.p; omega

theorem mulS_comm (h : Res P M) (x y : Int) : mulS P M mod x y = mulS P M mod y x :=
  (mulS_el h x y).ext h (mulS_el h y x) (((dV_mulS h.pos M mod x y).trans (Cg.of_eq (mulV_comm (dV_sh _ _ _) (dV_sh _ _ _)))).trans (dV_mulS h.pos M mod y x).symm)
theorem mulS_assoc (h : Res P M) (x y z : Int) : mulS P M mod (mulS P M mod x y) z = mulS P M mod x (mulS P M mod y z) := by
  refine (mulS_el h _ z).ext h (mulS_el h x _) ?_
  refine (dV_mulS h.pos M mod _ z).trans (((Cg_mulV (dV_mulS h.pos M mod x y) (Cg.refl _ _)).trans (Cg.of_eq (mulV_assoc (dV_sh _ _ _) (dV_sh _ _ _) (dV_sh _ _ _)))).trans ?_)
  exact ((dV_mulS h.pos M mod x _).trans (Cg_mulV (Cg.refl _ _) (dV_mulS h.pos M mod y z))).symm
theorem mulS_one (h : Res P M) {x : Int} (hx : ElP P M x) : mulS P M mod 1 x = x := by
  refine (mulS_el h 1 x).ext h hx ((dV_mulS h.pos M mod 1 x).trans (Cg.of_eq ?_))
  rw [dV_one h.p h.m, mulV_one h.m (dV_sh _ _ _)]
theorem mulS_zero (h : Res P M) (x : Int) : mulS P M mod x 0 = 0 := by
  refine (mulS_el h x 0).ext h (zero_el h) ((dV_mulS h.pos M mod x 0).trans (Cg.of_eq ?_))
  rw [dV_zero]
  funext i
  simp only [mulV]
  rw [sm_congr (g := fun _ => 0) fun j _ => by rw [shN_zero]; simp, sm_zero]
theorem mulS_add (h : Res P M) (x y z : Int) : mulS P M mod x (fsum P M y z) = fsum P M (mulS P M mod x y) (mulS P M mod x z) := by
  refine (mulS_el h x _).ext h (fsum_el h _ _) ((dV_mulS h.pos M mod x _).trans ?_)
  refine (Cg_mulV (Cg.refl _ _) (dV_fsum h.pos M y z)).trans ((Cg.of_eq (mulV_addRight _ _ _)).trans ?_)
  exact ((dV_fsum h.pos M _ _).trans (Cg.add (dV_mulS h.pos M mod x y) (dV_mulS h.pos M mod x z))).symm
theorem fsum_comm (h : Res P M) (x y : Int) : fsum P M x y = fsum P M y x := by
  refine (fsum_el h x y).ext h (fsum_el h y x) ((dV_fsum h.pos M x y).trans ((Cg.of_eq ?_).trans (dV_fsum h.pos M y x).symm))
  funext i; show _ = _; omega
theorem fsum_assoc (h : Res P M) (x y z : Int) : fsum P M (fsum P M x y) z = fsum P M x (fsum P M y z) := by
  refine (fsum_el h _ z).ext h (fsum_el h x _) ?_
  refine (dV_fsum h.pos M _ z).trans ((Cg.add (dV_fsum h.pos M x y) (Cg.refl _ _)).trans ((Cg.of_eq ?_).trans ((dV_fsum h.pos M x _).trans (Cg.add (Cg.refl _ _) (dV_fsum h.pos M y z))).symm))
  funext i; show _ = _; omega
theorem fsum_id (h : Res P M) {x : Int} (hx : ElP P M x) : fsum P M x 0 = x := by
  refine (fsum_el h x 0).ext h hx ((dV_fsum h.pos M x 0).trans (Cg.of_eq ?_))
  rw [dV_zero]; funext i; simp
theorem fsum_fneg (h : Res P M) (x : Int) : fsum P M x (fneg P M x) = 0 := by
  refine (fsum_el h x _).ext h (zero_el h) ((dV_fsum h.pos M x _).trans ((Cg.add (Cg.refl _ _) (dV_fneg h.pos M x)).trans (Cg.of_eq ?_)))
  rw [dV_zero]; funext i; show _ = _; omega
end

/- The tables of a field are a field: its axioms. -/
section
/-- the axioms of a field, for numbers that are elements -/
structure Fld (O : FOps) (El : Int → Prop) : Prop where
  cl : FCl O El
  zero : El 0
  one : El 1
  add_comm : ∀ x y, El x → El y → O.add x y = O.add y x
  add_assoc : ∀ x y z, El x → El y → El z → O.add (O.add x y) z = O.add x (O.add y z)
  add_zero : ∀ x, El x → O.add x 0 = x
  add_neg : ∀ x, El x → O.add x (O.neg x) = 0
  mul_comm : ∀ x y, El x → El y → O.mul x y = O.mul y x
  mul_assoc : ∀ x y z, El x → El y → El z → O.mul (O.mul x y) z = O.mul x (O.mul y z)
  one_mul : ∀ x, El x → O.mul 1 x = x
  mul_add : ∀ x y z, El x → El y → El z → O.mul x (O.add y z) = O.add (O.mul x y) (O.mul x z)
  mul_inv : ∀ x, El x → x ≠ 0 → O.mul x (O.inv x) = 1

/-- the powers of y -/
def pw (P : Int) (M : Nat) (mod : List Int) (y : Int) : Nat → Int
  | 0 => 1
  | k + 1 => mulS P M mod (pw P M mod y k) y

variable {P : Int} {M : Nat} {mod : List Int} {q : Nat} {y : Int}

theorem pw_el (h : Res P M) (y : Int) : ∀ k, ElP P M (pw P M mod y k)
  | 0 => one_el h
  | k + 1 => mulS_el h _ _
theorem pw_add (h : Res P M) (y : Int) (a : Nat) : ∀ b, mulS P M mod (pw P M mod y a) (pw P M mod y b) = pw P M mod y (a + b)
  | 0 => by rw [pw, mulS_comm h, mulS_one h (pw_el h y a)]; rfl
  | b + 1 => by rw [pw, ← mulS_assoc h, pw_add h y a b]; rfl

/-- the list of the powers: what it holds is pairwise different, not 0, and powers in order -/
theorem powTo_inv (y : Int) : ∀ (n : Nat) (l : List Int), (∀ i, i < l.length → nth l i = pw P M mod y i) → l.Nodup → (∀ e ∈ l, e ≠ 0) →
    (∀ i, i < (powTo (fun z => mulS P M mod z y) n l (pw P M mod y l.length)).length → nth (powTo (fun z => mulS P M mod z y) n l (pw P M mod y l.length)) i = pw P M mod y i) ∧
    (powTo (fun z => mulS P M mod z y) n l (pw P M mod y l.length)).Nodup ∧ ∀ e ∈ powTo (fun z => mulS P M mod z y) n l (pw P M mod y l.length), e ≠ 0
  | 0, l, h1, h2, h3 => ⟨h1, h2, h3⟩
  | n + 1, l, h1, h2, h3 => by
    by_cases hs : pw P M mod y l.length = 0 ∨ pw P M mod y l.length ∈ l
    · rw [powTo_stop _ _ _ _ hs]; exact ⟨h1, h2, h3⟩
    · rw [powTo_go _ _ _ _ hs]
      have e : mulS P M mod (pw P M mod y l.length) y = pw P M mod y (l ++ [pw P M mod y l.length]).length := by simp [pw]
      rw [e]
      refine powTo_inv y n _ (fun i hi => ?_) ?_ ?_
      · simp only [List.length_append, List.length_singleton] at hi
        by_cases hl : i < l.length
        · rw [nth, List.getD_eq_getElem?_getD, List.getElem?_append_left hl, ← List.getD_eq_getElem?_getD]; exact h1 i hl
        · obtain rfl : i = l.length := by omega
          simp [nth]
      · rw [List.nodup_append]
        refine ⟨h2, by simp, fun a ha b hb => ?_⟩
        rw [List.mem_singleton.1 hb]
        intro e; exact hs (.inr (e ▸ ha))
      · intro e he
        rcases List.mem_append.1 he with h | h
        · exact h3 e h
        · rw [List.mem_singleton.1 h]; intro e; exact hs (.inl e)

theorem powS_inv (h : Res P M) (hy : ElP P M y) (q : Nat) :
    (∀ i, i < (powS P M mod q y).length → nth (powS P M mod q y) i = pw P M mod y i) ∧ (powS P M mod q y).Nodup ∧ ∀ e ∈ powS P M mod q y, e ≠ 0 := by
  have e : pw P M mod y [(1 : Int)].length = y := by show mulS P M mod (pw P M mod y 0) y = y; rw [pw, mulS_one h hy]
  have := powTo_inv (P := P) (M := M) (mod := mod) y q [1] (fun i hi => by
    have : i = 0 := by simp at hi; omega
    subst this; rfl) (by simp) (by simp)
  rw [e] at this
  exact this

/-- a generator: its powers are all residues but 0 -/
structure Gen (P : Int) (M : Nat) (mod : List Int) (q : Nat) (y : Int) (ex : List Int) : Prop where
  res : Res P M
  q2 : 2 ≤ q
  pq : (q : Int) = P ^ M
  yel : ElP P M y
  len : ex.length = q - 1
  val : ∀ i, i < q - 1 → nth ex i = pw P M mod y i
  nodup : ex.Nodup
  ne : ∀ e ∈ ex, e ≠ 0
  last : pw P M mod y (q - 1) = 1

theorem Gen.of_isGen (h : Res P M) (hq : (q : Int) = P ^ M) (hy : ElP P M y) (hg : isGen P M mod q y = true) : Gen P M mod q y (powS P M mod q y) := by
  have hq2 : 2 ≤ q := by have := one_lt_pow h; omega
  simp only [isGen, Bool.and_eq_true, beq_iff_eq] at hg
  obtain ⟨h1, h2, h3⟩ := powS_inv (mod := mod) h hy q
  refine ⟨h, hq2, hq, hy, hg.1, fun i hi => h1 i (by omega), h2, h3, ?_⟩
  have := hg.2
  rw [h1 _ (by omega)] at this
  rw [show q - 1 = (q - 2) + 1 by omega]
  exact this

namespace Gen
variable {ex : List Int}
theorem mem (g : Gen P M mod q y ex) {e : Int} (he : ElP P M e) (h0 : e ≠ 0) : e ∈ ex := by
  apply Classical.byContradiction
  intro hn
  have hnd : (e :: ex).Nodup := List.nodup_cons.2 ⟨hn, g.nodup⟩
  have hsub : ∀ x ∈ e :: ex, x ∈ (List.range (q - 1)).map (fun i : Nat => (i : Int) + 1) := by
    intro x hx
    have hx2 : ElP P M x ∧ x ≠ 0 := by
      rcases List.mem_cons.1 hx with rfl | hx
      · exact ⟨he, h0⟩
      · refine ⟨?_, g.ne x hx⟩
        obtain ⟨i, hi, rfl⟩ := List.mem_iff_getElem.1 hx
        rw [← nth_getElem hi, g.val i (by rw [← g.len]; exact hi)]
        exact pw_el g.res y i
    rw [List.mem_map]
    have h1 := hx2.1.1
    have h2 := hx2.1.2
    have h3 := hx2.2
    have h4 := g.pq
    have h5 := g.q2
    exact ⟨(x - 1).toNat, by rw [List.mem_range]; omega, by omega⟩
  have hle := List.Nodup.length_le_of_subset hnd hsub
  simp at hle
  have h5 := g.q2
  have h6 := g.len
  omega
theorem log (g : Gen P M mod q y ex) {e : Int} (he : ElP P M e) (h0 : e ≠ 0) : ∃ k, k < q - 1 ∧ e = pw P M mod y k ∧ nth ex k = e := by
  obtain ⟨i, hi, e1⟩ := List.mem_iff_getElem.1 (g.mem he h0)
  have hi2 : i < q - 1 := by rw [← g.len]; exact hi
  refine ⟨i, hi2, ?_, ?_⟩
  · rw [← g.val i hi2, nth_getElem hi, e1]
  · rw [nth_getElem hi, e1]
theorem period (g : Gen P M mod q y ex) (a : Nat) : ∀ n, pw P M mod y (a + n * (q - 1)) = pw P M mod y a
  | 0 => by simp
  | n + 1 => by
    rw [show a + (n + 1) * (q - 1) = (a + n * (q - 1)) + (q - 1) by rw [Nat.add_mul]; omega, ← pw_add g.res, g.last, mulS_comm g.res, mulS_one g.res (pw_el g.res y _), period g a n]
theorem red (g : Gen P M mod q y ex) (a : Nat) : pw P M mod y (a % (q - 1)) = pw P M mod y a := by
  have h := g.period (a % (q - 1)) (a / (q - 1))
  rw [← h, Nat.mul_comm, Nat.mod_add_div]
theorem pw_ne (g : Gen P M mod q y ex) (a : Nat) : pw P M mod y a ≠ 0 := by
  have h5 := g.q2
  rw [← g.red a]
  have hlt : a % (q - 1) < q - 1 := Nat.mod_lt _ (by omega)
  rw [← g.val _ hlt]
  exact g.ne _ (nth_mem (by rw [g.len]; exact hlt))
theorem inj (g : Gen P M mod q y ex) {i j : Nat} (hi : i < q - 1) (hj : j < q - 1) (h : nth ex i = nth ex j) : i = j := by
  rw [nth_getElem (by rw [g.len]; exact hi), nth_getElem (by rw [g.len]; exact hj)] at h
  have hp := List.pairwise_iff_getElem.1 g.nodup
  rcases Nat.lt_trichotomy i j with h1 | h1 | h1
  · exact absurd h (hp i j _ _ h1)
  · exact h1
  · exact absurd h.symm (hp j i _ _ h1)
theorem ex_el (g : Gen P M mod q y ex) {k : Nat} (hk : k < q - 1) : ElP P M (nth ex k) := by rw [g.val k hk]; exact pw_el g.res y k
theorem logTo_nth (g : Gen P M mod q y ex) : ∀ k, k ≤ q - 1 → ∀ j, j < k → nth (logTo q ex k) (nth ex j).toNat = j
  | 0, _, j, hj => by omega
  | k + 1, hk, j, hj => by
    have hkel := g.ex_el (k := k) (by omega)
    have hjel := g.ex_el (k := j) (by omega)
    have h1 := hkel.1
    have h2 := hkel.2
    have h3 := hjel.1
    have h4 := g.pq
    rw [logTo, nth_set _ _ _ _ (by rw [logTo_length]; omega)]
    by_cases e : j = k
    · subst e; rw [if_pos rfl]
    · rw [if_neg]
      · exact logTo_nth g k (by omega) j (by omega)
      · intro e2
        exact e (g.inj (by omega) (by omega) (by omega))
theorem logs (g : Gen P M mod q y ex) {k : Nat} (hk : k < q - 1) : nth (logTo q ex (q - 1)) (pw P M mod y k).toNat = k := by
  rw [← g.val k hk]; exact g.logTo_nth (q - 1) (Nat.le_refl _) k hk

theorem mulT_eq (g : Gen P M mod q y ex) {x z : Int} (hx : ElP P M x) (hz : ElP P M z) : mulT q ex (logTo q ex (q - 1)) x z = mulS P M mod x z := by
  unfold mulT
  by_cases h0 : x = 0 ∨ z = 0
  · rw [if_pos h0]
    rcases h0 with rfl | rfl
    · rw [mulS_comm g.res, mulS_zero g.res]
    · rw [mulS_zero g.res]
  · rw [if_neg h0]
    obtain ⟨a, ha, rfl, _⟩ := g.log hx (fun e => h0 (.inl e))
    obtain ⟨b, hb, rfl, _⟩ := g.log hz (fun e => h0 (.inr e))
    have h5 := g.q2
    rw [g.logs ha, g.logs hb, pw_add g.res]
    have e1 : ((a : Int) + b) % ((q : Int) - 1) = (((a + b) % (q - 1) : Nat) : Int) := by
      rw [Int.natCast_emod, Int.natCast_add, Int.natCast_sub (by omega)]; rfl
    rw [e1, Int.toNat_natCast, g.val _ (Nat.mod_lt _ (by omega)), g.red]
theorem invT_mul (g : Gen P M mod q y ex) {x : Int} (hx : ElP P M x) (h0 : x ≠ 0) : mulS P M mod x (invT q ex (logTo q ex (q - 1)) x) = 1 := by
  obtain ⟨a, ha, rfl, _⟩ := g.log hx h0
  have h5 := g.q2
  unfold invT
  rw [g.logs ha]
  have e1 : ((q : Int) - 1 - a) % ((q : Int) - 1) = (((q - 1 - a) % (q - 1) : Nat) : Int) := by
    rw [Int.natCast_emod, Int.natCast_sub (by omega), Int.natCast_sub (by omega)]; rfl
  rw [e1, Int.toNat_natCast, g.val _ (Nat.mod_lt _ (by omega)), g.red, pw_add g.res, show a + (q - 1 - a) = q - 1 by omega, g.last]
theorem invT_el (g : Gen P M mod q y ex) (x : Int) : ElP P M (invT q ex (logTo q ex (q - 1)) x) := by
  have h5 := g.q2
  unfold invT
  refine g.ex_el ?_
  have h1 := Int.emod_nonneg ((q : Int) - 1 - nth (logTo q ex (q - 1)) x.toNat) (show (q : Int) - 1 ≠ 0 by omega)
  have h2 := Int.emod_lt_of_pos ((q : Int) - 1 - nth (logTo q ex (q - 1)) x.toNat) (show 0 < (q : Int) - 1 by omega)
  omega

/-- the operations by the tables are a field -/
theorem fld (g : Gen P M mod q y ex) : Fld (Tbl.ops ⟨P, M, q, ex, logTo q ex (q - 1)⟩) (ElP P M) := by
  have hmul : ∀ {x z : Int}, ElP P M x → ElP P M z → (Tbl.ops ⟨P, M, q, ex, logTo q ex (q - 1)⟩).mul x z = mulS P M mod x z := fun hx hz => g.mulT_eq hx hz
  have h := g.res
  have hinv : ∀ x, ElP P M ((Tbl.ops ⟨P, M, q, ex, logTo q ex (q - 1)⟩).inv x) := fun x => g.invT_el x
  refine ⟨⟨fun x z _ _ => fsum_el h x z, fun x z hx hz => ?_, fun x _ => fneg_el h x, fun x _ _ => hinv x⟩, zero_el h, one_el h, fun x z _ _ => fsum_comm h x z, fun x z u _ _ _ => fsum_assoc h x z u, fun x hx => fsum_id h hx, fun x _ => fsum_fneg h x, ?_, ?_, ?_, ?_, ?_⟩
  · rw [hmul hx hz]; exact mulS_el h x z
  · intro x z hx hz; rw [hmul hx hz, hmul hz hx, mulS_comm h]
  · intro x z u hx hz hu
    rw [hmul hx hz, hmul hz hu, hmul (mulS_el h x z) hu, hmul hx (mulS_el h z u), mulS_assoc h]
  · intro x hx; rw [hmul (one_el h) hx, mulS_one h hx]
  · intro x z u hx hz hu
    have hs : (Tbl.ops ⟨P, M, q, ex, logTo q ex (q - 1)⟩).add = fsum P M := rfl
    rw [hs, hmul hx (fsum_el h z u), hmul hx hz, hmul hx hu, mulS_add h]
  · intro x hx h0
    rw [hmul hx (hinv x)]
    exact g.invT_mul hx h0
end Gen

/-- what fieldB says -/
theorem fieldB_gen {P M : Int} {mod : List Int} (h : fieldB P M mod = true) : ∃ (m : Nat) (y : Int), M = m ∧ Res P m ∧ P ^ m ≤ 256 ∧ shapeB P m mod = true ∧ (orderS P m).toNat = P ^ m ∧ Gen P m mod (orderS P m).toNat y (genS P m mod (orderS P m).toNat) := by
  unfold fieldB at h
  rw [Bool.and_eq_true] at h
  obtain ⟨hs, hg⟩ := h
  have hs2 := hs
  simp only [shapeB, Bool.and_eq_true, bne_iff_ne, ne_eq] at hs2
  obtain ⟨b1, b2, b3, b4, b5, b6⟩ := orderS_ne hs2.1.1
  obtain ⟨m, rfl⟩ : ∃ m : Nat, M = m := ⟨M.toNat, by omega⟩
  rw [Int.toNat_natCast] at *
  have hres : Res P m := ⟨b1, by omega⟩
  have hq : ((orderS P m).toNat : Int) = P ^ m := by have := one_lt_pow hres; omega
  have hne : genS P m mod (orderS P m).toNat ≠ [] := by
    intro e; rw [e] at hg; simp at hg
  obtain ⟨y, hy1, hy2, hy3, hy4⟩ := genS_spec hne
  refine ⟨m, y, rfl, hres, b5, hs, hq, ?_⟩
  rw [hy4]
  exact Gen.of_isGen hres hq ⟨by omega, by omega⟩ hy3
theorem fieldB_fld {P M : Int} {mod : List Int} (h : fieldB P M mod = true) : Fld (tblOf P M.toNat mod).ops (tblOf P M.toNat mod).El := by
  obtain ⟨m, y, rfl, hr, _, _, hq, g⟩ := fieldB_gen h
  have e : (tblOf P ((m : Int).toNat) mod).El = ElP P m := by
    funext x; simp only [Tbl.El, tblOf, ElP, Int.toNat_natCast]; rw [hq]
  rw [e]
  exact g.fld
end

/- The walks of space.Check, code.gen, length, Check. -/
section
open Go.RowKit

set_option maxRecDepth 100000 in
set_option maxHeartbeats 1600000 in
theorem spaceCheck_any (P M : Int) (am : Option Addr) (mn cm : Nat) (mod : List Int) (cols : Int) (a : Option Addr) (n c : Nat) (L : List (List Int)) (w : World) (hmod : Ints w am mn mod) (hi : Mat w a n L) :
    Calls Tryz.prog 109 #[.agg #[.int .i64 P, .int .i64 M, .slice am mn cm], .agg #[.int .i64 cols, .slice a n c]] w fun e w' => e = .returned (.int .i64 (spaceE P M mod cols L)) ∧ Below w.heap.size w w' := by
  have Hal := Lib.hid (below2 w (.cells #[.int .i64 P, .int .i64 M, .slice am mn cm] 24) (.cells #[.int .i64 cols, .slice a n c] 62))
  go_enter Tryz.func109, Tryz.ntmps109
  go_wp2_with fail
  have hb := Hal.out
  generalize (w.alloc (.cells #[.int .i64 P, .int .i64 M, .slice am mn cm] 24)).alloc (.cells #[.int .i64 cols, .slice a n c] 62) = W at *
  refine (spaceOpen_any P M am mn cm mod cols a n c L W (hmod.keep hb) (hi.keep hb)).mono ?_
  rintro e w1 ⟨hb1, ⟨he, rfl⟩ | ⟨he, m, b, rfl, ap, cp, rfl, hG, hbl, hp⟩⟩
  · have hbw := Below.next hb hb1
    clear he
    go_wp2_with fail
    go_ret
    exact ⟨rfl, hbw.alloc hbw.size _⟩
  · have hbw := Below.next hb hb1
    have He := Lib.hid he
    clear he hp
    generalize (pivS (tblOf P M.toNat mod) L m).length = k at *
    go_wp2_with fail
    go_ret
    exact ⟨ret_int He.out.symm, hbw.alloc hbw.size _⟩

theorem gen_any (P M : Int) (am : Option Addr) (mn cm : Nat) (N : Int) (a : Option Addr) (n c : Nat) (w : World) :
    Calls Tryz.prog 70 #[.agg #[.int .i64 P, .int .i64 M, .slice am mn cm, .int .i64 N, .slice a n c]] w fun e w' => e = .returned (.agg #[.int .i64 N, .slice a n c]) ∧ Below w.heap.size w w' := by
  go_enter Tryz.func70, Tryz.ntmps70
  go_wp2_with fail
  exact bodyPost_ret (v := .agg #[.int .i64 N, .slice a n c]) (by simp [results, Tryz.results70, go_sem]) rfl ⟨rfl, below2 _ _ _⟩

def lenE (n : Int) : Int := if n < 1 ∨ 64 < n then 4 else 0
theorem length_any (n : Int) (w : World) : Calls Tryz.prog 95 #[.int .i64 n] w fun e w' => e = .returned (.int .i64 (lenE n)) ∧ w = w' := by
  by_cases h1 : n < 1
  · have Hf : Hid (lenE n = 4) := by show _ = _; rw [lenE, if_pos (.inl h1)]
    go_enter Tryz.func95, Tryz.ntmps95
    go_wp2
    go_ret
    exact ⟨ret_int Hf.out.symm, rfl⟩
  · have h1' : decide (n < 1) = false := by simpa using h1
    by_cases h2 : 64 < n
    · have Hf : Hid (lenE n = 4) := by show _ = _; rw [lenE, if_pos (.inr h2)]
      go_enter Tryz.func95, Tryz.ntmps95
      go_wp2
      go_ret
      exact ⟨ret_int Hf.out.symm, rfl⟩
    · have Hf : Hid (lenE n = 0) := by show _ = _; rw [lenE, if_neg (by omega)]
      have h2' : decide (64 < n) = false := by simpa using h2
      go_enter Tryz.func95, Tryz.ntmps95
      go_wp2
      go_ret
      exact ⟨ret_int Hf.out.symm, rfl⟩

def codeE (P M : Int) (mod : List Int) (N : Int) (L : List (List Int)) : Int :=
  if fieldB P M mod = true then (if lenE N = 0 then spaceE P M mod N L else 4) else 1

set_option maxRecDepth 100000 in
set_option maxHeartbeats 1600000 in
theorem codeCheck_any (P M : Int) (am : Option Addr) (mn cm : Nat) (mod : List Int) (N : Int) (a : Option Addr) (n c : Nat) (L : List (List Int)) (w : World) (hmod : Ints w am mn mod) (hi : Mat w a n L) :
    Calls Tryz.prog 63 #[.agg #[.int .i64 P, .int .i64 M, .slice am mn cm, .int .i64 N, .slice a n c]] w fun e w' => e = .returned (.int .i64 (codeE P M mod N L)) ∧ Below w.heap.size w w' := by
  go_enter Tryz.func63, Tryz.ntmps63
  go_wp2_with fail
  obtain ⟨W, hW⟩ : ∃ W : World, W = w.alloc (.cells #[.int .i64 P, .int .i64 M, .slice am mn cm, .int .i64 N, .slice a n c] 27) := ⟨_, rfl⟩
  rw [← hW]
  have hbW : Below w.heap.size w W := by rw [hW]; exact below1 _ _
  have x0 : Box W w.heap.size [.int .i64 P, .int .i64 M, .slice am mn cm, .int .i64 N, .slice a n c] := by rw [hW]; exact Box.new _ _ _ rfl
  have HX := Lib.hid x0
  clear hW x0
  refine (fieldCheck_any P M am mn cm mod W (hmod.keep hbW)).mono ?_
  rintro e w1 ⟨rfl, hb1⟩
  have hbw1 := Below.next hbW hb1
  by_cases hB : fieldB P M mod = true
  · have hE : errField (fieldB P M mod) = 0 := by rw [hB]; rfl
    rw [hE]
    have HB : Hid (codeE P M mod N L = if lenE N = 0 then spaceE P M mod N L else 4) := by show _ = _; rw [codeE, if_pos hB]
    have x1 := HX.out.keep hb1
    have c3 := x1.cell 3 rfl
    clear hE hB x1
    go_wp2_with fail
    refine (length_any N w1).mono ?_
    rintro e w2 ⟨rfl, rfl⟩
    by_cases hl : lenE N = 0
    · have HB2 : Hid (codeE P M mod N L = spaceE P M mod N L) := by show _ = _; rw [HB.out, if_pos hl]
      rw [hl]
      clear hl
      go_wp2_with fail
      have hS : ∀ V, Below w1.heap.size w1 V → V.cell? ⟨w.heap.size, 0, none⟩ = some (.int .i64 P) ∧ V.cell? ⟨w.heap.size, 1, none⟩ = some (.int .i64 M) ∧ V.cell? ⟨w.heap.size, 2, none⟩ = some (.slice am mn cm) ∧ V.cell? ⟨w.heap.size, 3, none⟩ = some (.int .i64 N) ∧ V.cell? ⟨w.heap.size, 4, none⟩ = some (.slice a n c) ∧ Ints V am mn mod ∧ Mat V a n L ∧ Below w1.heap.size w1 V := by
        intro V hV
        have x1 := (HX.out.keep hb1).keep hV
        exact ⟨x1.cell 0 rfl, x1.cell 1 rfl, x1.cell 2 rfl, x1.cell 3 rfl, x1.cell 4 rfl, ((hmod.keep hbW).keep hb1).keep hV, ((hi.keep hbW).keep hb1).keep hV, hV⟩
      have HS := Lib.hid hS
      clear hS c3
      go_region_held3 (fun V => V.cell? ⟨w.heap.size, 0, none⟩ = some (.int .i64 P) ∧ V.cell? ⟨w.heap.size, 1, none⟩ = some (.int .i64 M) ∧ V.cell? ⟨w.heap.size, 2, none⟩ = some (.slice am mn cm) ∧ V.cell? ⟨w.heap.size, 3, none⟩ = some (.int .i64 N) ∧ V.cell? ⟨w.heap.size, 4, none⟩ = some (.slice a n c) ∧ Ints V am mn mod ∧ Mat V a n L ∧ Below w1.heap.size w1 V)
        ((refine HS.out _ ?_; first | exact (Below.refl _ _).drew | (go_split_ands; exact Below.next (by assumption) (by assumption))))
        (first
          | (go_at_call 70; ((with_reducible refine (gen_any P M am mn cm N a n c _).mono ?_); rintro e w4 ⟨rfl, hb4⟩))
          | (go_at_call 109; ((with_reducible refine (spaceCheck_any P M am mn cm mod N a n c L _ (by go_split_ands; assumption) (by go_split_ands; assumption)).mono ?_); rintro e w5 ⟨rfl, hb5⟩)))
      go_wp2_with fail
      go_ret
      exact ⟨ret_int HB2.out.symm, Below.next hbw1 (by go_split_ands; assumption)⟩
    · have HB2 : Hid (codeE P M mod N L = 4) := by show _ = _; rw [HB.out, if_neg hl]
      have hl4 : lenE N = 4 := by unfold lenE at hl ⊢; split <;> simp_all
      rw [hl4]
      clear hl hl4
      go_wp2_with fail
      go_ret
      exact ⟨ret_int HB2.out.symm, hbw1⟩
  · have hE : errField (fieldB P M mod) = 1 := by have : fieldB P M mod = false := by simpa using hB
                                                  rw [this]; rfl
    rw [hE]
    have HB : Hid (codeE P M mod N L = 1) := by show _ = _; rw [codeE, if_neg hB]
    clear hE hB
    go_wp2_with fail
    go_ret
    exact ⟨ret_int HB.out.symm, hbw1⟩
end

end Go.Proofs.YtakmnncmeefceaaGreat
