/- The walks of package field: digits. -/
import Derived.WalkKit
import Derived.WalkSpells
import Derived.WalkLawsBesides
import Derived.Lib.Hide
import Derived.Laws.CopyOwn
import Derived.Test.YtcflcogbpnmjeaaGreatProg
namespace Go.Proofs.YtcflcogbpnmjeaaGreat
set_option linter.unusedVariables false
set_option linter.unusedSimpArgs false
set_option linter.unusedSectionVars false

/- What the functions of package field compute, as plain Lean functions. -/
section
/-- the m lowest digits of x in base p -/
def digs (x p : Int) : Nat → List Int
  | 0 => []
  | m + 1 => (x % p) :: digs (x / p) p m

/-- the number with the digits d in base p -/
def valu (p : Int) : List Int → Int
  | [] => 0
  | c :: d => c + p * valu p d

/-- what is left of x behind k digits -/
def dquo (x p : Int) : Nat → Int
  | 0 => x
  | k + 1 => dquo x p k / p

theorem digs_length (p : Int) : ∀ (m : Nat) (x : Int), (digs x p m).length = m
  | 0, _ => rfl
  | m + 1, x => by simp [digs, digs_length p m]

theorem dquo_succ (x p : Int) : ∀ k, dquo x p (k + 1) = dquo (x / p) p k
  | 0 => rfl
  | k + 1 => by rw [dquo, dquo_succ x p k]; rfl

theorem digs_snoc (p : Int) : ∀ (k : Nat) (x : Int), digs x p (k + 1) = digs x p k ++ [dquo x p k % p]
  | 0, x => rfl
  | k + 1, x => by
    rw [digs, digs_snoc p k (x / p), dquo_succ]; rfl

theorem dquo_bd (x p : Int) (hx : 0 ≤ x) (hp : 1 ≤ p) : ∀ k, 0 ≤ dquo x p k ∧ dquo x p k ≤ x
  | 0 => ⟨hx, Int.le_refl _⟩
  | k + 1 => by
    have h := dquo_bd x p hx hp k
    exact ⟨Int.ediv_nonneg h.1 (by omega), Int.le_trans (Int.ediv_le_self _ h.1) h.2⟩

/-- a list filled from the left, round k -/
def fillTo (l : List Int) (k m : Nat) : List Int := l ++ List.replicate (m - k) 0
theorem fillTo_set (l : List Int) (k m : Nat) (x : Int) (hl : l.length = k) (hk : k < m) : (fillTo l k m).set k x = fillTo (l ++ [x]) (k + 1) m := by
  unfold fillTo
  rw [List.set_append_right _ _ (by omega), hl, Nat.sub_self]
  rw [show m - k = (m - (k + 1)) + 1 from by omega, List.replicate_succ, List.set_cons_zero]
  simp
theorem fillTo_all (l : List Int) (m : Nat) : fillTo l m m = l := by simp [fillTo]

/-- an element; simp does not look in -/
def nth (l : List Int) (i : Nat) : Int := l.getD i 0

/-- one round of the product: out * X + b * a -/
def shl (out : List Int) : List Int := 0 :: out.dropLast
def stepE (P : Int) (low a : List Int) (top bi : Int) (sh : List Int) (j : Nat) : Int := (nth sh j + (P - top) * nth low j + bi * nth a j) % P
def stepF (P : Int) (low a : List Int) (m : Nat) (bi : Int) (out : List Int) : List Int :=
  (List.range m).map fun j => stepE P low a (nth out (m - 1)) bi (shl out) j
/-- the rounds of the product, from the highest digit of b on -/
def horn (P : Int) (low a b : List Int) (m : Nat) : Nat → List Int
  | 0 => List.replicate m 0
  | k + 1 => stepF P low a m (nth b (m - 1 - k)) (horn P low a b m k)
/-- the low coefficients that the product uses -/
def lowF (M : Nat) (mod : List Int) : List Int := if 1 < M then mod else [0]
def mulS (P : Int) (M : Nat) (mod : List Int) (x y : Int) : Int :=
  valu P (horn P (lowF M mod) (digs x P M) (digs y P M) M M)

theorem nth_getElem {l : List Int} {i : Nat} (h : i < l.length) : nth l i = l[i] := by simp [nth, h]
theorem nth_mem {l : List Int} {i : Nat} (h : i < l.length) : nth l i ∈ l := by rw [nth_getElem h]; exact List.getElem_mem h
theorem nth_out {l : List Int} {i : Nat} (h : l.length ≤ i) : nth l i = 0 := by simp [nth, h]
theorem nth_ext {l l' : List Int} (hl : l.length = l'.length) (h : ∀ i, i < l.length → nth l i = nth l' i) : l = l' := by
  apply List.ext_getElem hl
  intro i h1 h2
  have := h i h1
  rwa [nth_getElem h1, nth_getElem h2] at this

/-- all entries are digits -/
def Dig (P : Int) (l : List Int) : Prop := ∀ i, 0 ≤ nth l i ∧ nth l i < P
theorem Dig.of_mem {P : Int} (hP : 0 < P) {l : List Int} (h : ∀ x ∈ l, 0 ≤ x ∧ x < P) : Dig P l := by
  intro i
  rcases Nat.lt_or_ge i l.length with hi | hi
  · exact h _ (nth_mem hi)
  · rw [nth_out hi]; omega
theorem Dig.digs {P : Int} (hP : 0 < P) : ∀ (m : Nat) (x : Int), Dig P (digs x P m)
  | 0, x => fun i => by simp [Go.Proofs.YtcflcogbpnmjeaaGreat.digs, nth]; omega
  | m + 1, x => by
    intro i
    match i with
    | 0 => simp only [Go.Proofs.YtcflcogbpnmjeaaGreat.digs, nth, List.getD_cons_zero]; exact ⟨Int.emod_nonneg _ (by omega), Int.emod_lt_of_pos _ hP⟩
    | i + 1 => simpa only [Go.Proofs.YtcflcogbpnmjeaaGreat.digs, nth, List.getD_cons_succ] using Dig.digs hP m (x / P) i
theorem Dig.replicate {P : Int} (hP : 0 < P) (m : Nat) : Dig P (List.replicate m 0) := by
  refine Dig.of_mem hP fun x hx => ?_
  obtain ⟨_, rfl⟩ := List.mem_replicate.1 hx
  omega
theorem stepF_length (P : Int) (low a : List Int) (m : Nat) (bi : Int) (out : List Int) : (stepF P low a m bi out).length = m := by simp [stepF]
theorem nth_stepF (P : Int) (low a : List Int) (m : Nat) (bi : Int) (out : List Int) (j : Nat) (hj : j < m) :
    nth (stepF P low a m bi out) j = stepE P low a (nth out (m - 1)) bi (shl out) j := by
  rw [nth_getElem (by rw [stepF_length]; exact hj)]; simp [stepF]
theorem Dig.stepF {P : Int} (hP : 0 < P) (low a : List Int) (m : Nat) (bi : Int) (out : List Int) : Dig P (stepF P low a m bi out) := by
  intro j
  rcases Nat.lt_or_ge j m with hj | hj
  · rw [nth_stepF _ _ _ _ _ _ _ hj]
    exact ⟨Int.emod_nonneg _ (by omega), Int.emod_lt_of_pos _ hP⟩
  · rw [nth_out (by rw [stepF_length]; exact hj)]; omega
theorem horn_length (P : Int) (low a b : List Int) (m : Nat) : ∀ k, (horn P low a b m k).length = m
  | 0 => by simp [horn]
  | k + 1 => stepF_length ..
theorem Dig.horn {P : Int} (hP : 0 < P) (low a b : List Int) (m : Nat) : ∀ k, Dig P (horn P low a b m k)
  | 0 => Dig.replicate hP m
  | k + 1 => by simp only [Go.Proofs.YtcflcogbpnmjeaaGreat.horn]; exact Dig.stepF hP _ _ _ _ _
theorem shl_length (out : List Int) (h : 0 < out.length) : (shl out).length = out.length := by simp [shl]; omega
theorem Dig.shl {P : Int} (hP : 0 < P) {out : List Int} (h : Dig P out) : Dig P (shl out) := by
  intro i
  match i with
  | 0 => simp [Go.Proofs.YtcflcogbpnmjeaaGreat.shl, nth]; omega
  | i + 1 =>
    have e : nth (Go.Proofs.YtcflcogbpnmjeaaGreat.shl out) (i + 1) = if i < out.length - 1 then nth out i else 0 := by
      simp only [Go.Proofs.YtcflcogbpnmjeaaGreat.shl, nth, List.getD_eq_getElem?_getD, List.getElem?_cons_succ, List.getElem?_dropLast]
      split <;> rfl
    rw [e]; split
    · exact h i
    · omega

/-- the inner loop's list in round j: the new ones ahead, the old ones behind -/
def mixTo (new old : List Int) (j : Nat) : List Int := new.take j ++ old.drop j
theorem mixTo_zero (new old : List Int) : mixTo new old 0 = old := by simp [mixTo]
theorem mixTo_all (new old : List Int) (m : Nat) (h1 : new.length = m) (h2 : old.length = m) : mixTo new old m = new := by
  simp [mixTo, List.take_of_length_le (Nat.le_of_eq h1), List.drop_eq_nil_of_le (Nat.le_of_eq h2)]
theorem mixTo_length (new old : List Int) (j : Nat) (h : new.length = old.length) (hj : j ≤ old.length) : (mixTo new old j).length = old.length := by
  simp [mixTo]; omega
theorem nth_mixTo (new old : List Int) (j i : Nat) (h : new.length = old.length) (hj : j ≤ old.length) : nth (mixTo new old j) i = if i < j then nth new i else nth old i := by
  unfold mixTo nth
  simp only [List.getD_eq_getElem?_getD]
  split
  · rename_i hi
    rw [List.getElem?_append_left (by simp; omega), List.getElem?_take, if_pos hi]
  · rename_i hi
    rw [List.getElem?_append_right (by simp; omega), List.getElem?_drop]
    congr 2
    simp; omega
theorem nth_set (l : List Int) (i j : Nat) (x : Int) (hi : i < l.length) : nth (l.set i x) j = if j = i then x else nth l j := by
  unfold nth
  simp only [List.getD_eq_getElem?_getD, List.getElem?_set]
  by_cases h : i = j
  · subst h; simp [hi]
  · rw [if_neg h, if_neg (by omega)]
theorem mixTo_set (new old : List Int) (j : Nat) (h : new.length = old.length) (hj : j < old.length) : (mixTo new old j).set j (nth new j) = mixTo new old (j + 1) := by
  have hl := mixTo_length new old j h (by omega)
  have hl' := mixTo_length new old (j + 1) h (by omega)
  refine nth_ext (by simp [hl, hl']) fun i hi => ?_
  rw [nth_set _ _ _ _ (by omega), nth_mixTo _ _ _ _ h (by omega), nth_mixTo _ _ _ _ h (by omega)]
  by_cases e : i = j
  · subst e; simp
  · rw [if_neg e]
    by_cases e2 : i < j
    · rw [if_pos e2, if_pos (by omega)]
    · rw [if_neg e2, if_neg (by omega)]

theorem valu_bd {P : Int} (hP : 0 < P) : ∀ (l : List Int), Dig P l → 0 ≤ valu P l ∧ valu P l < P ^ l.length
  | [], _ => by simp [valu]
  | c :: l, h => by
    have h0 := h 0
    have ih := valu_bd hP l (fun i => by simpa [nth] using h (i + 1))
    simp only [nth, List.getD_cons_zero] at h0
    simp only [valu, List.length_cons, Int.pow_succ]
    have h1 : 0 ≤ P * valu P l := Int.mul_nonneg (by omega) ih.1
    have h2 : P * valu P l + P ≤ P ^ l.length * P := by
      have := Int.mul_le_mul_of_nonneg_left (show valu P l + 1 ≤ P ^ l.length by omega) (show 0 ≤ P by omega)
      rw [Int.mul_comm (P ^ l.length)]
      rw [Int.mul_add] at this
      omega
    omega
theorem pow_mono {P : Int} (hP : 1 ≤ P) {a b : Nat} (h : a ≤ b) : P ^ a ≤ P ^ b := by
  obtain ⟨n, rfl⟩ : ∃ n : Nat, P = n := ⟨P.toNat, by omega⟩
  have := Nat.pow_le_pow_right (n := n) (by omega) h
  exact_mod_cast this
theorem Dig.drop {P : Int} {l : List Int} (h : Dig P l) (k : Nat) : Dig P (l.drop k) := by
  intro i
  have := h (k + i)
  simpa [nth] using this
theorem Dig.tail_bd {P : Int} (hP : 0 < P) {l : List Int} (h : Dig P l) {m : Nat} (hl : l.length = m) (hpw : P ^ m ≤ 256) (k : Nat) : 0 ≤ valu P (l.drop k) ∧ valu P (l.drop k) < 256 := by
  have hb := valu_bd hP (l.drop k) (h.drop k)
  refine ⟨hb.1, Int.lt_of_lt_of_le hb.2 (Int.le_trans ?_ hpw)⟩
  rw [List.length_drop, hl]
  exact pow_mono (by omega) (by omega)
end

/- Ranks over a closure with the exchange property; they are submodular. -/
section
/-- a closure on positions, of lists -/
structure Clo (cl : List Nat → Nat → Prop) : Prop where
  mem : ∀ l x, x ∈ l → cl l x
  mono : ∀ l l', (∀ x ∈ l, cl l' x) → ∀ y, cl l y → cl l' y
  exch : ∀ l x y, cl (x :: l) y → ¬ cl l y → cl (y :: l) x

/-- n of the list's positions are not in the closure of those behind them -/
inductive Rk (cl : List Nat → Nat → Prop) : List Nat → Nat → Prop
  | nil : Rk cl [] 0
  | dep {l n} (x : Nat) : cl l x → Rk cl l n → Rk cl (x :: l) n
  | ind {l n} (x : Nat) : ¬ cl l x → Rk cl l n → Rk cl (x :: l) (n + 1)

variable {cl : List Nat → Nat → Prop}

theorem Rk.ex (cl : List Nat → Nat → Prop) : ∀ l, ∃ n, Rk cl l n
  | [] => ⟨0, .nil⟩
  | x :: l => by
    obtain ⟨n, h⟩ := Rk.ex cl l
    by_cases hx : cl l x
    · exact ⟨n, .dep x hx h⟩
    · exact ⟨n + 1, .ind x hx h⟩
theorem Rk.uniq {l : List Nat} {n : Nat} (h : Rk cl l n) : ∀ {m}, Rk cl l m → n = m := by
  induction h with
  | nil => intro m h; cases h; rfl
  | dep x hx _ ih =>
    intro m h
    cases h with
    | dep _ _ h => exact ih h
    | ind _ hn _ => exact absurd hx hn
  | ind x hx _ ih =>
    intro m h
    cases h with
    | dep _ hn _ => exact absurd hn hx
    | ind _ _ h => rw [ih h]

theorem Clo.sub (h : Clo cl) {l l' : List Nat} (hs : ∀ x ∈ l, x ∈ l') {y : Nat} (hy : cl l y) : cl l' y := h.mono l l' (fun x hx => h.mem l' x (hs x hx)) y hy
theorem Clo.drop (h : Clo cl) {l : List Nat} {x y : Nat} (hx : cl l x) (hy : cl (x :: l) y) : cl l y :=
  h.mono (x :: l) l (fun z hz => by
    rcases List.mem_cons.1 hz with rfl | hz
    · exact hx
    · exact h.mem l z hz) y hy

theorem Rk.swap (h : Clo cl) {l : List Nat} {x y n : Nat} (hr : Rk cl (x :: y :: l) n) : Rk cl (y :: x :: l) n := by
  have up : ∀ {z u}, cl l z → cl (u :: l) z := fun hz => h.sub (fun x hx => by simp [hx]) hz
  cases hr with
  | dep _ hx hr =>
    cases hr with
    | dep _ hy hr => exact .dep y (up hy) (.dep x (h.drop hy hx) hr)
    | ind _ hy hr =>
      by_cases hxl : cl l x
      · exact .ind y (fun hc => hy (h.drop hxl hc)) (.dep x hxl hr)
      · exact .dep y (h.exch l y x hx hxl) (.ind x hxl hr)
  | ind _ hx hr =>
    cases hr with
    | dep _ hy hr => exact .dep y (up hy) (.ind x (fun hc => hx (up hc)) hr)
    | ind _ hy hr =>
      have hxl : ¬ cl l x := fun hc => hx (up hc)
      exact .ind y (fun hc => hx (h.exch l x y hc hy)) (.ind x hxl hr)
theorem Clo.perm (h : Clo cl) {l l' : List Nat} (hp : l.Perm l') {x : Nat} : cl l x → cl l' x := h.sub fun y hy => hp.mem_iff.1 hy
theorem Rk.perm (h : Clo cl) {l l' : List Nat} (hp : l.Perm l') : ∀ {n}, Rk cl l n → Rk cl l' n := by
  induction hp with
  | nil => intro n hr; exact hr
  | cons x hp ih =>
    intro n hr
    cases hr with
    | dep _ hx hr => exact .dep x (h.perm hp hx) (ih hr)
    | ind _ hx hr => exact .ind x (fun hc => hx (h.perm hp.symm hc)) (ih hr)
  | swap x y l => intro n hr; exact hr.swap h
  | trans _ _ ih1 ih2 => intro n hr; exact ih2 (ih1 hr)
theorem Rk.absorb (h : Clo cl) {l : List Nat} {n : Nat} (hr : Rk cl l n) : ∀ l', (∀ x ∈ l', cl l x) → Rk cl (l' ++ l) n
  | [], _ => hr
  | x :: l', hx => .dep x (h.sub (fun y hy => List.mem_append.2 (.inr hy)) (hx x (by simp))) (Rk.absorb h hr l' fun y hy => hx y (by simp [hy]))
theorem Rk.grow {l : List Nat} {m : Nat} (hr : Rk cl l m) : ∀ (l' : List Nat) {n : Nat}, Rk cl (l' ++ l) n → m ≤ n
  | [], n, hn => by rw [hr.uniq hn]; exact Nat.le_refl _
  | x :: l', n, hn => by
    cases hn with
    | dep _ _ hn => exact Rk.grow hr l' hn
    | ind _ _ hn => exact Nat.le_succ_of_le (Rk.grow hr l' hn)
theorem Rk.le (h : Clo cl) {l l' : List Nat} {m n : Nat} (hm : Rk cl l m) (hn : Rk cl l' n) (hs : ∀ x ∈ l, cl l' x) : m ≤ n :=
  hm.grow l' ((hn.absorb h l hs).perm h List.perm_append_comm)
theorem Rk.same (h : Clo cl) {l l' : List Nat} {m n : Nat} (hm : Rk cl l m) (hn : Rk cl l' n) (hs : ∀ x, x ∈ l ↔ x ∈ l') : m = n :=
  Nat.le_antisymm (hm.le h hn fun x hx => h.mem _ _ ((hs x).1 hx)) (hn.le h hm fun x hx => h.mem _ _ ((hs x).2 hx))
theorem Rk.len {l : List Nat} {n : Nat} (hr : Rk cl l n) : n ≤ l.length := by
  induction hr with
  | nil => exact Nat.le_refl _
  | dep x _ _ ih => exact Nat.le_succ_of_le ih
  | ind x _ _ ih => exact Nat.succ_le_succ ih
theorem Rk.one_more (h : Clo cl) {l l' : List Nat} {m n : Nat} (hm : Rk cl l m) (hn : Rk cl l' n) {p : Nat} (hs : ∀ x, x ∈ l' ↔ x ∈ l ∨ x = p) : m ≤ n ∧ n ≤ m + 1 := by
  refine ⟨hm.le h hn fun x hx => h.mem _ _ ((hs x).2 (.inl hx)), ?_⟩
  have hs' : ∀ x, x ∈ p :: l ↔ x ∈ l' := fun x => by rw [hs x, List.mem_cons]; exact or_comm
  by_cases hp : cl l p
  · rw [(Rk.dep p hp hm).same h hn hs']; omega
  · rw [← (Rk.ind p hp hm).same h hn hs']; exact Nat.le_refl _

theorem Rk.sub_aux (h : Clo cl) {S V : List Nat} {a v : Nat} (ha : Rk cl S a) (hv : Rk cl V v) (hVS : ∀ x ∈ V, x ∈ S) : ∀ (T : List Nat) {u b : Nat}, Rk cl (T ++ S) u → Rk cl (T ++ V) b → u + v ≤ a + b
  | [], u, b, hu, hb => by rw [ha.uniq hu, hv.uniq hb]; exact Nat.le_refl _
  | x :: T, u, b, hu, hb => by
    have up : cl (T ++ V) x → cl (T ++ S) x := h.sub fun y hy => by
      rcases List.mem_append.1 hy with h1 | h1
      · exact List.mem_append.2 (.inl h1)
      · exact List.mem_append.2 (.inr (hVS y h1))
    cases hb with
    | dep _ hc hb =>
      cases hu with
      | dep _ _ hu => exact Rk.sub_aux h ha hv hVS T hu hb
      | ind _ hn _ => exact absurd (up hc) hn
    | ind _ _ hb =>
      cases hu with
      | dep _ _ hu => have := Rk.sub_aux h ha hv hVS T hu hb; omega
      | ind _ _ hu => have := Rk.sub_aux h ha hv hVS T hu hb; omega
/-- submodular -/
theorem Rk.modular (h : Clo cl) {S T U V : List Nat} {a b u v : Nat} (ha : Rk cl S a) (hb : Rk cl T b) (hu : Rk cl U u) (hv : Rk cl V v) (hU : ∀ x ∈ U, x ∈ S ∨ x ∈ T) (hV : ∀ x ∈ V, x ∈ S ∧ x ∈ T) : u + v ≤ a + b := by
  obtain ⟨u', hu'⟩ := Rk.ex cl (T ++ S)
  obtain ⟨b', hb'⟩ := Rk.ex cl (T ++ V)
  have h1 : u ≤ u' := hu.le h hu' fun x hx => h.mem _ _ (by rcases hU x hx with h2 | h2; exact List.mem_append.2 (.inr h2); exact List.mem_append.2 (.inl h2))
  have h2 : b' = b := hb'.same h hb fun x => ⟨fun hx => by rcases List.mem_append.1 hx with h3 | h3; exact h3; exact (hV x h3).2, fun hx => List.mem_append.2 (.inl hx)⟩
  have h3 := Rk.sub_aux h ha hv (fun x hx => (hV x hx).1) T hu' hb'
  omega
end

/- Memory predicates for the walks: slices of integers that are read, slices of the call's own. No program. -/
section
open Go.RowKit

/-- the block and the offset that a slice begins at -/
def ablk : Option Addr → Nat | some a => a.block | none => 0
def aoff : Option Addr → Nat | some a => a.off | none => 0
@[simp] theorem ablk_some (b o : Nat) (s : Option Nat) : ablk (some ⟨b, o, s⟩) = b := rfl
@[simp] theorem aoff_some (b o : Nat) (s : Option Nat) : aoff (some ⟨b, o, s⟩) = o := rfl

/-- where the slice has an element its address is plain -/
def Pl (a : Option Addr) (n : Nat) : Prop := 0 < n → a = some ⟨ablk a, aoff a, none⟩

/-- an element; simp does not look in -/
def nthR (l : List (List Int)) (i : Nat) : List Int := l.getD i []
def nthB (l : List Bool) (i : Nat) : Bool := l.getD i false

theorem nthR_getElem {l : List (List Int)} {i : Nat} (h : i < l.length) : nthR l i = l[i] := by simp [nthR, h]
theorem nthR_mem {l : List (List Int)} {i : Nat} (h : i < l.length) : nthR l i ∈ l := by rw [nthR_getElem h]; exact List.getElem_mem h
theorem nthB_getElem {l : List Bool} {i : Nat} (h : i < l.length) : nthB l i = l[i] := by simp [nthB, h]

/-- a slice reads as a list of ints -/
structure Ints (w : World) (a : Option Addr) (n : Nat) (l : List Int) : Prop where
  len : l.length = n
  pl : Pl a n
  max : n ≤ maxLen
  cell : ∀ i, i < n → w.cell? ⟨ablk a, aoff a + i, none⟩ = some (.int .i64 (nth l i))

/-- a slice reads as a list of bools -/
structure Bools (w : World) (a : Option Addr) (n : Nat) (l : List Bool) : Prop where
  len : l.length = n
  pl : Pl a n
  max : n ≤ maxLen
  cell : ∀ i, i < n → w.cell? ⟨ablk a, aoff a + i, none⟩ = some (.bool (nthB l i))

/-- a slice of slices of ints -/
structure Mat (w : World) (a : Option Addr) (n : Nat) (l : List (List Int)) : Prop where
  len : l.length = n
  pl : Pl a n
  max : n ≤ maxLen
  cell : ∀ i, i < n → ∃ b m c, w.cell? ⟨ablk a, aoff a + i, none⟩ = some (.slice b m c) ∧ Ints w b m (nthR l i)

/-- it lies in the call's own memory, from block B on, and may be written -/
def Mine (w : World) (B : Nat) (a : Option Addr) (n : Nat) : Prop := 0 < n → B ≤ ablk a ∧ ∀ i, i < n → w.frozen? ⟨ablk a, aoff a + i, none⟩ = false

theorem Ints.lt {w : World} {a : Option Addr} {n : Nat} {l : List Int} (h : Ints w a n l) (hn : 0 < n) : ablk a < w.heap.size :=
  World.block_lt_of_cell? w _ (h.cell 0 hn)
theorem Bools.lt {w : World} {a : Option Addr} {n : Nat} {l : List Bool} (h : Bools w a n l) (hn : 0 < n) : ablk a < w.heap.size :=
  World.block_lt_of_cell? w _ (h.cell 0 hn)
theorem Mat.lt {w : World} {a : Option Addr} {n : Nat} {l : List (List Int)} (h : Mat w a n l) (hn : 0 < n) : ablk a < w.heap.size := by
  obtain ⟨b, m, c, hc, _⟩ := h.cell 0 hn
  exact World.block_lt_of_cell? w _ hc

/-- what blocks say of cells -/
theorem Ints.of_block {w w' : World} {a : Option Addr} {n : Nat} {l : List Int} (h : Ints w a n l) (hb : 0 < n → w'.heap[ablk a]? = w.heap[ablk a]?) : Ints w' a n l :=
  ⟨h.len, h.pl, h.max, fun i hi => (World.cell?_of_block (w := w) (a := ⟨ablk a, aoff a + i, none⟩) (hb (by omega))).trans (h.cell i hi)⟩
theorem Bools.of_block {w w' : World} {a : Option Addr} {n : Nat} {l : List Bool} (h : Bools w a n l) (hb : 0 < n → w'.heap[ablk a]? = w.heap[ablk a]?) : Bools w' a n l :=
  ⟨h.len, h.pl, h.max, fun i hi => (World.cell?_of_block (w := w) (a := ⟨ablk a, aoff a + i, none⟩) (hb (by omega))).trans (h.cell i hi)⟩
theorem Mine.of_block {w w' : World} {B : Nat} {a : Option Addr} {n : Nat} (h : Mine w B a n) (hb : 0 < n → w'.heap[ablk a]? = w.heap[ablk a]?) : Mine w' B a n :=
  fun hn => ⟨(h hn).1, fun i hi => (World.frozen?_of_block (w := w) (a := ⟨ablk a, aoff a + i, none⟩) (hb hn)).trans ((h hn).2 i hi)⟩

theorem Ints.below {B : Nat} {w w' : World} {a : Option Addr} {n : Nat} {l : List Int} (h : Ints w a n l) (hb : Below B w w') (hB : 0 < n → ablk a < B) : Ints w' a n l :=
  h.of_block fun hn => hb.block _ (hB hn)
theorem Bools.below {B : Nat} {w w' : World} {a : Option Addr} {n : Nat} {l : List Bool} (h : Bools w a n l) (hb : Below B w w') (hB : 0 < n → ablk a < B) : Bools w' a n l :=
  h.of_block fun hn => hb.block _ (hB hn)
theorem Ints.keep {w w' : World} {a : Option Addr} {n : Nat} {l : List Int} (h : Ints w a n l) (hb : Below w.heap.size w w') : Ints w' a n l :=
  h.below hb fun hn => h.lt hn
theorem Bools.keep {w w' : World} {a : Option Addr} {n : Nat} {l : List Bool} (h : Bools w a n l) (hb : Below w.heap.size w w') : Bools w' a n l :=
  h.below hb fun hn => h.lt hn
theorem Mat.keep {w w' : World} {a : Option Addr} {n : Nat} {l : List (List Int)} (h : Mat w a n l) (hb : Below w.heap.size w w') : Mat w' a n l := by
  refine ⟨h.len, h.pl, h.max, fun i hi => ?_⟩
  obtain ⟨b, m, c, hc, hr⟩ := h.cell i hi
  exact ⟨b, m, c, (hb.cell (World.block_lt_of_cell? w _ hc)).trans hc, hr.keep hb⟩
theorem Mine.keep {w w' : World} {B : Nat} {a : Option Addr} {n : Nat} (h : Mine w B a n) (hb : Below w.heap.size w w') (hl : 0 < n → ablk a < w.heap.size) : Mine w' B a n :=
  h.of_block fun hn => hb.block _ (hl hn)
theorem Mine.mono {w : World} {B B' : Nat} {a : Option Addr} {n : Nat} (h : Mine w B a n) (hB : B' ≤ B) : Mine w B' a n :=
  fun hn => ⟨Nat.le_trans hB (h hn).1, (h hn).2⟩

theorem Ints.nil (w : World) (c : Option Addr) : Ints w c 0 [] := ⟨rfl, fun h => by omega, by unfold maxLen; omega, fun i h => by omega⟩
theorem Mine.nil (w : World) (B : Nat) (c : Option Addr) : Mine w B c 0 := fun h => by omega

/-- the walk's own rule: an element's place in a slice whose address is a variable -/
@[go_sem] theorem run_indexAt_pl {P : Program} (w : World) (t : TypeId) (a : Option Addr) (len cap : Nat) (k : IntKind) (i : Int) (h : P.underlying t = some (.slice (P.elem t)))
    (hp : Pl a len) (h0 : 0 ≤ i) (h1 : i < len) :
    (Instr.indexAt t (.slice a len cap) (.int k i)).run P w = ((sizeOf (P.elem t)).run P w).andThen fun s w => .ok (.pointer (some ((⟨ablk a, aoff a, none⟩ : Addr).add (i.toNat * s)))) w := by
  have e : a = some ⟨ablk a, aoff a, none⟩ := hp (by omega)
  generalize hb : ablk a = b at *
  generalize ho : aoff a = o at *
  subst e
  rw [run_indexAt_slice (h := h), if_pos ⟨h0, h1⟩]

/-- storing into a slice of ints: the list behind it -/
theorem nthB_set (l : List Bool) (i j : Nat) (x : Bool) (hi : i < l.length) : nthB (l.set i x) j = if j = i then x else nthB l j := by
  unfold nthB
  simp only [List.getD_eq_getElem?_getD, List.getElem?_set]
  by_cases h : i = j
  · subst h; simp [hi]
  · rw [if_neg h, if_neg (by omega)]

theorem Ints.set {w : World} {a : Option Addr} {n : Nat} {l : List Int} (h : Ints w a n l) (i : Nat) (hi : i < n) (x : Int) :
    Ints (w.setCell ⟨ablk a, aoff a + i, none⟩ (.int .i64 x)) a n (l.set i x) := by
  refine ⟨by rw [List.length_set]; exact h.len, h.pl, h.max, fun j hj => ?_⟩
  rw [nth_set _ _ _ _ (by rw [h.len]; exact hi)]
  by_cases e : j = i
  · subst e; rw [if_pos rfl]; exact World.cell?_setCell_same w _ _ (h.cell j hj)
  · rw [if_neg e, World.cell?_setCell_other _ _ _ _ (by simp <;> omega)]; exact h.cell j hj
theorem Bools.set {w : World} {a : Option Addr} {n : Nat} {l : List Bool} (h : Bools w a n l) (i : Nat) (hi : i < n) (x : Bool) :
    Bools (w.setCell ⟨ablk a, aoff a + i, none⟩ (.bool x)) a n (l.set i x) := by
  refine ⟨by rw [List.length_set]; exact h.len, h.pl, h.max, fun j hj => ?_⟩
  rw [nthB_set _ _ _ _ (by rw [h.len]; exact hi)]
  by_cases e : j = i
  · subst e; rw [if_pos rfl]; exact World.cell?_setCell_same w _ _ (h.cell j hj)
  · rw [if_neg e, World.cell?_setCell_other _ _ _ _ (by simp <;> omega)]; exact h.cell j hj
theorem Mine.set {w : World} {B : Nat} {a : Option Addr} {n : Nat} (h : Mine w B a n) (p : Addr) (x : Value) : Mine (w.setCell p x) B a n :=
  fun hn => ⟨(h hn).1, fun i hi => by rw [World.frozen?_setCell]; exact (h hn).2 i hi⟩
theorem Ints.setOther {w : World} {a : Option Addr} {n : Nat} {l : List Int} (h : Ints w a n l) {p : Addr} (x : Value) (hp : 0 < n → ablk a ≠ p.block) : Ints (w.setCell p x) a n l :=
  h.of_block fun hn => Below.heap_setCell _ _ _ _ (hp hn)
theorem Bools.setOther {w : World} {a : Option Addr} {n : Nat} {l : List Bool} (h : Bools w a n l) {p : Addr} (x : Value) (hp : 0 < n → ablk a ≠ p.block) : Bools (w.setCell p x) a n l :=
  h.of_block fun hn => Below.heap_setCell _ _ _ _ (hp hn)

/-- out of what the kit's laws on make and append leave -/
theorem Pl.own {w : World} {base : Nat} {e : TypeId} {v : Value} {n : Nat} {xs : List Value} (h : w.ownsRow base e 1 v n xs) : ∃ a c, v = .slice a n c ∧ Pl a n := by
  rcases h.2 with ⟨rfl, rfl⟩ | ⟨g, cap, cur, rfl, _⟩
  · exact ⟨none, 0, rfl, fun h => by omega⟩
  · exact ⟨_, cap, rfl, fun _ => rfl⟩

theorem ownsRow_cell {w : World} {base : Nat} {e : TypeId} {a : Option Addr} {c n : Nat} {xs : List Value} (h : w.ownsRow base e 1 (.slice a n c) n xs) (i : Nat) (hi : i < n) :
    w.cell? ⟨ablk a, aoff a + i, none⟩ = xs[i]? ∧ w.frozen? ⟨ablk a, aoff a + i, none⟩ = false ∧ base ≤ ablk a ∧ xs.length = n ∧ n ≤ maxLen := by
  obtain ⟨hl, h2⟩ := h
  rcases h2 with ⟨h2, rfl⟩ | ⟨g, cap, cur, hv, hg, hh, hn, hm, hs, ht⟩
  · omega
  · cases hv
    simp only [ablk_some, aoff_some, Nat.zero_add]
    refine ⟨?_, by simp [World.frozen?, hh], hg, by omega, by omega⟩
    rw [← ht, List.getElem?_take, if_pos (by omega)]
    simp [World.cell?, hh]

theorem Ints.own {w : World} {base : Nat} {e : TypeId} {a : Option Addr} {c n : Nat} {l : List Int} (h : w.ownsRow base e 1 (.slice a n c) n (l.map (Value.int .i64))) :
    Ints w a n l ∧ Mine w base a n := by
  have hl : l.length = n := by have := h.1; simpa using this
  obtain ⟨a', c', hv, hp⟩ := Pl.own h
  cases hv
  refine ⟨⟨hl, hp, ?_, fun i hi => ?_⟩, fun hn => ⟨(ownsRow_cell h 0 hn).2.2.1, fun i hi => (ownsRow_cell h i hi).2.1⟩⟩
  · rcases Nat.eq_zero_or_pos n with h0 | h0
    · subst h0; unfold maxLen; omega
    · exact (ownsRow_cell h 0 h0).2.2.2.2
  · rw [(ownsRow_cell h i hi).1]
    simp [nth, show i < l.length by omega]

theorem Bools.own {w : World} {base : Nat} {e : TypeId} {a : Option Addr} {c n : Nat} {l : List Bool} (h : w.ownsRow base e 1 (.slice a n c) n (l.map Value.bool)) :
    Bools w a n l ∧ Mine w base a n := by
  have hl : l.length = n := by have := h.1; simpa using this
  obtain ⟨a', c', hv, hp⟩ := Pl.own h
  cases hv
  refine ⟨⟨hl, hp, ?_, fun i hi => ?_⟩, fun hn => ⟨(ownsRow_cell h 0 hn).2.2.1, fun i hi => (ownsRow_cell h i hi).2.1⟩⟩
  · rcases Nat.eq_zero_or_pos n with h0 | h0
    · subst h0; unfold maxLen; omega
    · exact (ownsRow_cell h 0 h0).2.2.2.2
  · rw [(ownsRow_cell h i hi).1]
    simp [nthB, show i < l.length by omega]

/-! ### a slice of the call's own -/

theorem own_set {w : World} {B : Nat} {e : TypeId} {a : Option Addr} {c n : Nat} {xs : List Value} (h : w.ownsRow B e 1 (.slice a n c) n xs) (i : Nat) (hi : i < n) (u : Value) :
    (w.setCell ⟨ablk a, aoff a + i, none⟩ u).ownsRow B e 1 (.slice a n c) n (xs.set i u) := by
  have h' := h
  rcases h.2 with ⟨hv, h0⟩ | ⟨g, _, cur, hv, hg, hh, hn, hm, hs, ht⟩
  · omega
  · cases hv
    simpa using (h'.stored i u).1

theorem own_block {w w' : World} {B : Nat} {e : TypeId} {a : Option Addr} {c n : Nat} {xs : List Value} (h : w.ownsRow B e 1 (.slice a n c) n xs)
    (hb : w'.heap[ablk a]? = w.heap[ablk a]?) : w'.ownsRow B e 1 (.slice a n c) n xs := by
  refine ⟨h.1, ?_⟩
  rcases h.2 with h2 | ⟨g, cap, cur, hv, hg, hh, r⟩
  · exact .inl h2
  · cases hv
    exact .inr ⟨g, c, cur, rfl, hg, by rw [ablk_some] at hb; rw [hb]; exact hh, r⟩

/-- it lies in blocks from B on, or is nil -/
theorem own_lt {w : World} {B : Nat} {e : TypeId} {a : Option Addr} {c n : Nat} {xs : List Value} (h : w.ownsRow B e 1 (.slice a n c) n xs) :
    (a = none ∧ n = 0 ∧ c = 0) ∨ (B ≤ ablk a ∧ ablk a < w.heap.size) := by
  rcases h.2 with ⟨hv, hn⟩ | ⟨g, cap, cur, hv, hg, hh, r⟩
  · cases hv; exact .inl ⟨rfl, hn, rfl⟩
  · cases hv; exact .inr ⟨hg, (Array.getElem?_eq_some_iff.1 hh).1⟩

theorem own_none {w : World} {B : Nat} {e : TypeId} : w.ownsRow B e 1 (.slice none 0 0) 0 [] := World.ownsRow_nil _ _ _ _

/-- behind a store into another block -/
theorem own_setOther {w : World} {B : Nat} {e : TypeId} {a : Option Addr} {c n : Nat} {xs : List Value} (h : w.ownsRow B e 1 (.slice a n c) n xs) {p : Addr} (u : Value) (hp : a = none ∨ ablk a ≠ p.block) :
    (w.setCell p u).ownsRow B e 1 (.slice a n c) n xs := by
  rcases hp with rfl | hp
  · have h2 := own_lt h
    refine ⟨h.1, .inl ?_⟩
    rcases h.2 with h2 | ⟨g, cap, cur, hv, _⟩
    · exact h2
    · cases hv
  · exact own_block h (Below.heap_setCell _ _ _ _ hp)

/-- behind a callee that leaves what was there -/
theorem own_keep {w w' : World} {B : Nat} {e : TypeId} {a : Option Addr} {c n : Nat} {xs : List Value} (h : w.ownsRow B e 1 (.slice a n c) n xs) (hb : Below w.heap.size w w') :
    w'.ownsRow B e 1 (.slice a n c) n xs := by
  refine ⟨h.1, ?_⟩
  rcases h.2 with h2 | ⟨g, cap, cur, hv, hg, hh, r⟩
  · exact .inl h2
  · exact .inr ⟨g, cap, cur, hv, hg, by rw [hb.block g (Array.getElem?_eq_some_iff.1 hh).1]; exact hh, r⟩
theorem own_mono {w : World} {B B' : Nat} {e : TypeId} {v : Value} {n : Nat} {xs : List Value} (h : w.ownsRow B e 1 v n xs) (hB : B' ≤ B) : w.ownsRow B' e 1 v n xs := by
  refine ⟨h.1, ?_⟩
  rcases h.2 with h2 | ⟨g, cap, cur, hv, hg, r⟩
  · exact .inl h2
  · exact .inr ⟨g, cap, cur, hv, Nat.le_trans hB hg, r⟩
theorem own_len {w : World} {B : Nat} {e : TypeId} {v : Value} {n : Nat} {xs : List Value} (h : w.ownsRow B e 1 v n xs) : xs.length = n := by simpa using h.1

theorem Ints.grown {w w' : World} {a : Option Addr} {n : Nat} {l : List Int} {row : Option Nat} (h : Ints w a n l) (hg : w.grownBy w' row) (hne : 0 < n → row ≠ some (ablk a)) : Ints w' a n l :=
  h.of_block fun hn => hg.block _ (h.lt hn) (fun e => hne hn e.symm)
theorem Bools.grown {w w' : World} {a : Option Addr} {n : Nat} {l : List Bool} {row : Option Nat} (h : Bools w a n l) (hg : w.grownBy w' row) (hne : 0 < n → row ≠ some (ablk a)) : Bools w' a n l :=
  h.of_block fun hn => hg.block _ (h.lt hn) (fun e => hne hn e.symm)

/-- 'make([]T, n)' -/
theorem wpList_mk {P : Program} {w : World} {ops : Array Oper} {rest : List Oper} {o : Oper} {ac : Act} {Q : Exit → Act → World → Prop}
    (hg : o.guard = none) (l c : Operand) (t e : TypeId) (hop : o.op = Op.makeSlice t l c) (z : Value) (bytes : Nat)
    (h1 : P.underlying t = some (.slice e)) (h2 : (P.info? e).map (fun i => (i.zero, i.size, i.bytes)) = some (some z, 1, bytes)) (hz : z.cells = #[z])
    (n : Nat) (hl : ac.eval l = .int .i64 n) (hc : ac.eval c = .int .i64 n) (b2 : bytes * n ≤ 281474976710656) (b3 : n ≤ maxLen)
    (hK : ∀ a w', w'.ownsRow w.heap.size e 1 (.slice a n n) n (List.replicate n z) → Below w.heap.size w w' → w.heap.size ≤ ablk a → ablk a < w'.heap.size → wpList P ops Q rest (ac.put o.dst (.slice a n n)) w') :
    wpList P ops Q (o :: rest) ac w := by
  obtain ⟨i, hi, hz0, hz1, hz2⟩ := info_parts h2
  refine wpList_make_full w hg l c t hop w.heap.size e i z 1 h1 hi hz0 hz1 .i64 .i64 n n n hl hc rfl rfl (by rw [hz2]; exact b2) b3 (Nat.le_refl _) fun w' hown hgr => ?_
  refine hK _ w' ?_ ((Below.refl _ _).grown hgr (Nat.le_refl _) (fun k hk => by cases hk)) (by simp) ?_
  · simpa [hz, toList_madeCells_one] using hown
  · rcases hown.2 with ⟨hv, _⟩ | ⟨g, cap, cur, hv, _, hh, _⟩
    · cases hv
    · cases hv; exact (Array.getElem?_eq_some_iff.1 hh).1

/-- what a grown row leaves below B -/
theorem Below.app {B B0 : Nat} {w0 w w' : World} {e : TypeId} {a : Option Addr} {n c : Nat} {xs : List Value} (h : Below B0 w0 w) (hown : w.ownsRow B e 1 (.slice a n c) n xs)
    (hg : w.grownBy w' (Value.slice a n c).ownBlock) (h0 : B0 ≤ B) (h1 : B0 ≤ w.heap.size) : Below B0 w0 w' :=
  h.grown hg h1 fun k hk => Nat.le_trans h0 (hown.lt k hk).1

theorem cell_keep {w w' : World} (hb : Below w.heap.size w w') {a : Addr} {v : Value} (h : w.cell? a = some v) : w'.cell? a = some v :=
  (hb.cell (World.block_lt_of_cell? w a h)).trans h
theorem Below.next {w0 w w' : World} (h : Below w0.heap.size w0 w) (hb : Below w.heap.size w w') : Below w0.heap.size w0 w' :=
  h.trans (hb.mono h.size)

/-- a row that is full, whole -/
theorem own_row {w : World} {B : Nat} {e : TypeId} {a : Option Addr} {n : Nat} {xs : List Value} (h : w.ownsRow B e 1 (.slice a n n) n xs) (hn : 0 < n) :
    ∃ g, a = some ⟨g, 0, none⟩ ∧ B ≤ g ∧ w.heap[g]? = some (.cells xs.toArray e (0, 0)) := by
  rcases h.2 with ⟨hv, h0⟩ | ⟨g, cap, cur, hv, hg, hh, hle, hm, hs, ht⟩
  · omega
  · cases hv
    refine ⟨g, rfl, hg, ?_⟩
    rw [hh, ← ht, List.take_of_length_le (by rw [Array.length_toList, hs]; exact Nat.le_refl _)]
theorem own_of_row {w : World} {B : Nat} {e : TypeId} {g n : Nat} {xs : List Value} (hB : B ≤ g) (h : w.heap[g]? = some (.cells xs.toArray e (0, 0))) (hl : xs.length = n) (hm : n ≤ maxLen) :
    w.ownsRow B e 1 (.slice (some ⟨g, 0, none⟩) n n) n xs :=
  ⟨by simpa using hl, .inr ⟨g, n, xs.toArray, rfl, hB, h, Nat.le_refl _, hm, by simpa using hl, by simpa using List.take_of_length_le (by omega)⟩⟩

theorem row_int {w : World} {g : Nat} {e : TypeId} {l : List Int} (h : w.heap[g]? = some (.cells (l.map (Value.int .i64)).toArray e (0, 0))) (j : Nat) (hj : j < l.length) :
    w.cell? ⟨g, j, none⟩ = some (.int .i64 (nth l j)) ∧ w.frozen? ⟨g, j, none⟩ = false := by
  refine ⟨?_, by simp [World.frozen?, h]⟩
  simp [World.cell?, h, nth, hj]
theorem row_setInt {w : World} {g : Nat} {e : TypeId} {l : List Int} (h : w.heap[g]? = some (.cells (l.map (Value.int .i64)).toArray e (0, 0))) (j : Nat) (x : Int) :
    (w.setCell ⟨g, j, none⟩ (.int .i64 x)).heap[g]? = some (.cells ((l.set j x).map (Value.int .i64)).toArray e (0, 0)) := by
  have := heap_setCell_same w g j _ e (.int .i64 x) h
  simpa [List.map_set] using this

theorem add_lit0 (g j : Nat) : (⟨g, 0, none⟩ : Addr).add j = ⟨g, j, none⟩ := by unfold Addr.add; split <;> simp_all
theorem row_dropLast {w : World} {g : Nat} {e : TypeId} {l : List Int} (h : w.heap[g]? = some (.cells (l.map (Value.int .i64)).toArray e (0, 0))) :
    ∀ j v, (l.dropLast.map (Value.int .i64))[j]? = some v → w.cell? ((⟨g, 0, none⟩ : Addr).add j) = some v := by
  intro j v hj
  have hlt := (List.getElem?_eq_some_iff.1 hj).1
  simp only [List.length_map, List.length_dropLast] at hlt
  rw [add_lit0, (row_int h j (by omega)).1]
  rw [List.getElem?_map, List.getElem?_dropLast, if_pos hlt, List.getElem?_eq_getElem (by omega)] at hj
  rw [nth_getElem (by omega)]
  simpa using hj

theorem splice_shl (l : List Int) (h : 0 < l.length) : splice (l.map (Value.int .i64)) 1 (l.dropLast.map (Value.int .i64)) = (nth l 0 :: l.dropLast).map (Value.int .i64) := by
  unfold splice
  match l, h with
  | x :: l, _ =>
    have e : (List.map (Value.int .i64) (x :: l)).drop (1 + (List.map (Value.int .i64) (x :: l).dropLast).length) = [] := by
      apply List.drop_eq_nil_of_le; simp; omega
    rw [e]
    simp [nth]
end

/- The walks of package field: digits. -/
section
open Go.RowKit

theorem infoInt : (Tryz.prog.info? 3).map (fun i => (i.zero, i.size, i.bytes)) = some (some (.int .i64 0), 1, 8) := by kernel_rfl

set_option maxHeartbeats 400000 in
theorem digitsOf_any (x p : Int) (m : Nat) (w : World) (hx : 0 ≤ x) (hx2 : x ≤ 9223372036854775807) (hp : 1 ≤ p) (hm : m ≤ 256) :
    Calls Tryz.prog 222 #[.int .i64 x, .int .i64 p, .int .i64 m] w fun e w' =>
      ∃ a c, e = .returned (.slice a m c) ∧ Ints w' a m (digs x p m) ∧ Mine w' w.heap.size a m ∧ Below w.heap.size w w' := by
  go_enter Tryz.func222, Tryz.ntmps222
  go_wp2_with (at_make; refine wpList_mk rfl _ _ 22 3 rfl (.int .i64 0) 8 Tryz.underlying22 infoInt rfl m rfl rfl (by omega) (by unfold maxLen; omega) ?_; intro a w1 hown hbel hge hlt)
  go_loopw [0, 13] (fun xv iv wr => ∃ k : Nat, k ≤ m ∧ iv = .int .i64 k ∧ xv = .int .i64 (dquo x p k) ∧
      wr.ownsRow w.heap.size 3 1 (.slice a m m) m ((fillTo (digs x p k) k m).map (Value.int .i64)) ∧ Below w.heap.size w wr)
    (fun _ i _ => m - (intOf i).toNat)
  case atStart => exact ⟨0, Nat.zero_le _, rfl, rfl, by simpa [fillTo, digs] using hown, hbel⟩
  case round =>
    obtain ⟨k, hk, rfl, rfl, hown, hbel⟩ := hrel
    obtain ⟨hints, hmine⟩ := Ints.own hown
    have hq := dquo_bd x p hx hp k
    have hpl := hints.pl
    by_cases hlt : k < m
    · have hc := hints.cell k hlt
      have hf := (hmine (by omega)).2 k hlt
      have hB := (hmine (by omega)).1
      go_wp2
      go_roundw
      case rel =>
        refine ⟨k + 1, by omega, by go_num, rfl, ?_, hbel.setCell hB _⟩
        have h := own_set hown k hlt (.int .i64 (dquo x p k % p))
        rw [← List.map_set, fillTo_set _ _ _ _ (digs_length p k x) hlt, ← digs_snoc] at h
        exact h
      case measure => simp [intOf] <;> omega
    · obtain rfl : k = m := by omega
      go_wp2
      go_ret
      rw [fillTo_all] at hints
      exact ⟨_, _, rfl, hints, hmine, hbel⟩
end

end Go.Proofs.YtcflcogbpnmjeaaGreat
