/- The walk of the reference of layer 48: Greedy. -/
import Derived.Test.YtnielheglicbmaaC4
import Derived.Test.YtnielheglicbmaaE1
namespace Go.Proofs.Ytnielheglicbmaa
set_option linter.unusedVariables false
set_option linter.unusedSimpArgs false
set_option linter.unusedSectionVars false

/- The walks of codewrightref11.Compare, Same. -/
section
open Go.RowKit

def CmpPost (l l' : List Int) (w : World) (e : Ending) (w' : World) : Prop := ∃ z : Int, e = .returned (.int .i64 z) ∧ (z = 0 ↔ l = l') ∧ Drawn w w'

set_option maxRecDepth 100000 in
set_option maxHeartbeats 1600000 in
theorem rCompare_any (a : Option Addr) (n c : Nat) (l : List Int) (a' : Option Addr) (n' c' : Nat) (l' : List Int) (w : World) (h : Ints w a n l) (h' : Ints w a' n' l') :
    Calls Try.prog 34 #[.slice a n c, .slice a' n' c'] w (CmpPost l l' w) := by
  have Hl := Lib.hid h.len
  have Hl' := Lib.hid h'.len
  have hpl := h.pl
  have hpl' := h'.pl
  have hmax := h.max
  have hmax' := h'.max
  unfold maxLen at hmax hmax'
  have hne : ∀ (z : Int) w', z ≠ 0 → l ≠ l' → Drawn w w' → CmpPost l l' w (.returned (.int .i64 z)) w' := fun z w' h1 h2 h3 => ⟨z, rfl, ⟨fun h => absurd h h1, fun h => absurd h h2⟩, h3⟩
  have Hne := Lib.hid hne
  have heq : ∀ w', l = l' → Drawn w w' → CmpPost l l' w (.returned (.int .i64 0)) w' := fun w' h2 h3 => ⟨0, rfl, ⟨fun _ => h2, fun _ => rfl⟩, h3⟩
  have Heq := Lib.hid heq
  clear hne heq
  go_enter Try.func34, Try.ntmps34
  go_wp2_with fail
  go_loopw [5] (fun iv wr => ∃ k : Nat, k ≤ n ∧ k ≤ n' ∧ iv = .int .i64 k ∧ Hid (l.take k = l'.take k) ∧ Drawn w wr) (fun i _ => n - (intOf i).toNat)
  case atStart => exact ⟨0, Nat.zero_le _, Nat.zero_le _, rfl, rfl, Drawn.refl _⟩
  case round =>
    obtain ⟨k, hk, hk', rfl, htk, hd⟩ := hrel
    by_cases hlt : k < n
    · by_cases hlt' : k < n'
      · have c1 := (h.drawn hd).cell k hlt
        have c2 := (h'.drawn hd).cell k hlt'
        have HX : Hid (∀ V, Drawn w V → V.cell? ⟨ablk a, aoff a + k, none⟩ = some (.int .i64 (nth l k)) ∧ V.cell? ⟨ablk a', aoff a' + k, none⟩ = some (.int .i64 (nth l' k))) := fun V hV => ⟨(h.drawn hV).cell k hlt, (h'.drawn hV).cell k hlt'⟩
        by_cases h1 : nth l k < nth l' k
        · have h1' : decide (nth l k < nth l' k) = true := by simpa using h1
          have Hs : Hid (l ≠ l') := fun e => by rw [e] at h1; omega
          clear h1
          go_wp2_with fail
          go_quiet (fail)
          go_wp2
          go_ret
          exact Hne.out _ _ (by decide) Hs.out (hd.drewN _)
        · have h1' : decide (nth l k < nth l' k) = false := by simpa using h1
          by_cases h2 : nth l' k < nth l k
          · have h2' : decide (nth l' k < nth l k) = true := by simpa using h2
            have Hs : Hid (l ≠ l') := fun e => by rw [e] at h2; omega
            clear h1 h2
            go_wp2_with fail
            go_cut [26] (fun v wx => v = .bool false ∧ Drawn w wx)
            case first => go_wp2_with fail; go_quiet (fail); go_wp2_with fail; go_meet; exact ⟨rfl, hd.drewN _⟩
            obtain ⟨rfl, hcut⟩ := hcut
            clear c1 c2
            generalize wc = wx at *
            obtain ⟨c1, c2⟩ := HX.out wx hcut
            go_wp2_with fail
            go_quiet (fail)
            go_wp2
            go_ret
            exact Hne.out _ _ (by decide) Hs.out (hcut.drewN _)
          · have h2' : decide (nth l' k < nth l k) = false := by simpa using h2
            have Hs : Hid (l.take (k + 1) = l'.take (k + 1)) := nth_take_eq htk.out (by rw [Hl.out]; exact hlt) (by rw [Hl'.out]; exact hlt') (by omega)
            clear h1 h2
            go_wp2_with fail
            go_cut [26] (fun v wx => v = .bool false ∧ Drawn w wx)
            case first => go_wp2_with fail; go_quiet (fail); go_wp2_with fail; go_meet; exact ⟨rfl, hd.drewN _⟩
            obtain ⟨rfl, hcut⟩ := hcut
            clear c1 c2
            generalize wc = wx at *
            obtain ⟨c1, c2⟩ := HX.out wx hcut
            go_wp2_with fail
            go_quiet (fail)
            go_wp2
            go_roundw
            case rel => exact ⟨k + 1, by omega, by omega, by go_num, Hs.out, hcut.drewN _⟩
            case measure => simp [intOf] <;> omega
      · obtain rfl : k = n' := by omega
        have h3 : decide ((n : Int) < k) = false := by simp; omega
        have h4 : decide ((k : Int) < n) = true := by simp; omega
        have Hs : Hid (l ≠ l') := fun e => by have h1 := Hl.out; have h2 := Hl'.out; rw [e] at h1; omega
        go_wp2_with fail
        go_ret
        exact Hne.out _ _ (by decide) Hs.out hd
    · obtain rfl : k = n := by omega
      by_cases hlt' : k < n'
      · have h3 : decide ((k : Int) < n') = true := by simp; omega
        have Hs : Hid (l ≠ l') := fun e => by have h1 := Hl.out; have h2 := Hl'.out; rw [e] at h1; omega
        go_wp2_with fail
        go_ret
        exact Hne.out _ _ (by decide) Hs.out hd
      · obtain rfl : k = n' := by omega
        have Hs : Hid (l = l') := by
          show _ = _
          have h1 := htk.out
          rwa [List.take_of_length_le (by rw [Hl.out]; exact Nat.le_refl _), List.take_of_length_le (by rw [Hl'.out]; exact Nat.le_refl _)] at h1
        go_wp2_with fail
        go_ret
        exact Heq.out _ Hs.out hd

theorem rSame_any (a : Option Addr) (n c : Nat) (l : List Int) (a' : Option Addr) (n' c' : Nat) (l' : List Int) (w : World) (h : Ints w a n l) (h' : Ints w a' n' l') :
    Calls Try.prog 18 #[.slice a n c, .slice a' n' c'] w (QuietBool w (decide (l = l'))) := by
  go_enter Try.func18, Try.ntmps18
  go_wp2_with fail
  refine (rCompare_any a n c l a' n' c' l' w h h').mono ?_
  rintro e w1 ⟨z, rfl, hz, hd⟩
  by_cases h0 : z = 0
  · have Hz : Hid (decide (l = l') = true) := by show _ = _; simpa using hz.1 h0
    subst h0
    clear hz
    go_wp2_with fail
    go_ret
    exact ⟨ret_bool Hz.out.symm, hd⟩
  · have Hz : Hid (decide (l = l') = false) := by show _ = _; simpa using fun h => h0 (hz.2 h)
    have h0' : (z == 0) = false := by simpa using h0
    clear hz h0
    go_wp2_with fail
    go_ret
    exact ⟨ret_bool Hz.out.symm, hd⟩
end

/- The greedy order, as plain Lean functions. -/
section
/-- the first position below i, not in x, of least value, and its value -/
def bestTo (f : Nat → Int) (N x : Nat) : Nat → Int × Int
  | 0 => (-1, N + 1)
  | i + 1 => if x.testBit i = true then bestTo f N x i else if f (x ||| 2 ^ i) < (bestTo f N x i).2 then ((i : Int), f (x ||| 2 ^ i)) else bestTo f N x i
def greedyTo (f : Nat → Int) (N : Nat) : Nat → List Int
  | 0 => []
  | k + 1 => greedyTo f N k ++ [(bestTo f N (maskS (greedyTo f N k)) N).1]
/-- the same over a list of the positions that are left -/
def rbTo (f : Nat → Int) (N x : Nat) (left : List Int) : Nat → Int × Int
  | 0 => (nth left 0, N + 1)
  | i + 1 => if f (x ||| 2 ^ (nth left i).toNat) < (rbTo f N x left i).2 then (nth left i, f (x ||| 2 ^ (nth left i).toNat)) else rbTo f N x left i

theorem greedyTo_len (f : Nat → Int) (N : Nat) : ∀ k, (greedyTo f N k).length = k
  | 0 => rfl
  | k + 1 => by rw [greedyTo, List.length_append, greedyTo_len f N k]; rfl

section
variable {f : Nat → Int} {N : Nat} (hf : ∀ y, f y ≤ N)
include hf
theorem bestTo_spec (x : Nat) : ∀ i, (bestTo f N x i = (-1, (N : Int) + 1) ∧ ∀ j, j < i → x.testBit j = true) ∨ ((bestTo f N x i).2 ≤ N ∧ ∃ b : Nat, (bestTo f N x i).1 = b ∧ b < i ∧ x.testBit b = false)
  | 0 => .inl ⟨rfl, fun j hj => by omega⟩
  | i + 1 => by
    have ih := bestTo_spec x i
    unfold bestTo
    by_cases hx : x.testBit i = true
    · rw [if_pos hx]
      rcases ih with ⟨h1, h2⟩ | ⟨h1, b, h2, h3, h4⟩
      · exact .inl ⟨h1, fun j hj => by
          by_cases e : j = i
          · subst e; exact hx
          · exact h2 j (by omega)⟩
      · exact .inr ⟨h1, b, h2, by omega, h4⟩
    · rw [if_neg hx]
      have hx' : x.testBit i = false := by simpa using hx
      split
      · exact .inr ⟨hf _, i, rfl, by omega, hx'⟩
      · rename_i hlt
        rcases ih with ⟨h1, h2⟩ | ⟨h1, b, h2, h3, h4⟩
        · rw [h1] at hlt
          have := hf (x ||| 2 ^ i)
          exact absurd (show f (x ||| 2 ^ i) < (N : Int) + 1 by omega) hlt
        · exact .inr ⟨h1, b, h2, by omega, h4⟩
end

theorem bits_more {x b : Nat} (h : x.testBit b = false) : ∀ k, (bitsTo (x ||| 2 ^ b) k).length = (bitsTo x k).length + if b < k then 1 else 0
  | 0 => rfl
  | k + 1 => by
    have ih := bits_more h k
    have hb : (x ||| 2 ^ b).testBit k = (x.testBit k || decide (b = k)) := by rw [Nat.testBit_or, Nat.testBit_two_pow]
    rw [bitsTo, bitsTo, hb]
    by_cases e : b = k
    · subst e
      rw [h, if_pos (by simp), if_neg (by simp), List.length_append, ih, if_neg (by omega), if_pos (by omega)]; rfl
    · have : decide (b = k) = false := by simpa using e
      rw [this, Bool.or_false]
      split
      · rw [List.length_append, List.length_append, ih]
        simp only [List.length_singleton]
        by_cases h1 : b < k
        · rw [if_pos h1, if_pos (by omega)]
        · rw [if_neg h1, if_neg (by omega)]
      · rw [ih]
        by_cases h1 : b < k
        · rw [if_pos h1, if_pos (by omega)]
        · rw [if_neg h1, if_neg (by omega)]
theorem bits_full {x : Nat} : ∀ k, (∀ j, j < k → x.testBit j = true) → (bitsTo x k).length = k
  | 0, _ => rfl
  | k + 1, h => by rw [bitsTo, if_pos (h k (by omega)), List.length_append, bits_full k fun j hj => h j (by omega)]; rfl
theorem maskTo_append (Q R : List Int) : ∀ k, k ≤ Q.length → maskTo (Q ++ R) k = maskTo Q k
  | 0, _ => rfl
  | k + 1, h => by
    have e : nth (Q ++ R) k = nth Q k := by simp only [nth, List.getD_eq_getElem?_getD]; rw [List.getElem?_append_left (by omega)]
    rw [maskTo, maskTo, maskTo_append Q R k (by omega), e]
theorem maskS_snoc (Q : List Int) (b : Int) : maskS (Q ++ [b]) = maskS Q ||| 2 ^ b.toNat := by
  unfold maskS
  rw [List.length_append, List.length_singleton, maskTo, maskTo_append Q [b] _ (Nat.le_refl _)]
  congr 3
  rw [nth_push, if_neg (by omega), if_pos rfl]

/-- the first k positions: within N, different, and the next one -/
theorem greedy_inv {f : Nat → Int} {N : Nat} (hf : ∀ y, f y ≤ N) : ∀ k, k ≤ N → InN N (greedyTo f N k) ∧ (bitsTo (maskS (greedyTo f N k)) N).length = k
  | 0, _ => ⟨fun j hj => by simp [greedyTo] at hj, by
      have : ∀ n, bitsTo (maskS (greedyTo f N 0)) n = [] := fun n => by
        induction n with
        | zero => rfl
        | succ n ih => rw [bitsTo, if_neg (by simp [maskS, maskTo, greedyTo]), ih]
      rw [this]; rfl⟩
  | k + 1, hk => by
    obtain ⟨h1, h2⟩ := greedy_inv hf k (by omega)
    rcases bestTo_spec hf (maskS (greedyTo f N k)) N with ⟨_, h3⟩ | ⟨_, b, h4, h5, h6⟩
    · have := bits_full N h3; omega
    · refine ⟨fun j hj => ?_, ?_⟩
      · rw [greedyTo_len] at hj
        rw [greedyTo, nth_push, greedyTo_len, h4]
        by_cases e : j < k
        · rw [if_pos e]; exact h1 j (by rw [greedyTo_len]; exact e)
        · rw [if_neg e, if_pos (by omega)]; omega
      · rw [greedyTo, maskS_snoc, h4, Int.toNat_natCast, bits_more h6, h2, if_pos h5]
theorem greedy_next {f : Nat → Int} {N : Nat} (hf : ∀ y, f y ≤ N) {k : Nat} (hk : k < N) : ∃ b : Nat, (bestTo f N (maskS (greedyTo f N k)) N).1 = b ∧ b < N ∧ (maskS (greedyTo f N k)).testBit b = false := by
  obtain ⟨_, h2⟩ := greedy_inv hf k (by omega)
  rcases bestTo_spec hf (maskS (greedyTo f N k)) N with ⟨_, h3⟩ | ⟨_, b, h4, h5, h6⟩
  · have := bits_full N h3; omega
  · exact ⟨b, h4, h5, h6⟩

theorem bits_prefix (y : Nat) {k N : Nat} (h : k ≤ N) : ∃ r, bitsTo y N = bitsTo y k ++ r := by
  obtain ⟨d, rfl⟩ : ∃ d, N = k + d := ⟨N - k, by omega⟩
  clear h
  induction d with
  | zero => exact ⟨[], by simp⟩
  | succ d ih =>
    obtain ⟨r, hr⟩ := ih
    rw [← Nat.add_assoc, bitsTo]
    split
    · exact ⟨r ++ [((k + d : Nat) : Int)], by rw [hr, List.append_assoc]⟩
    · exact ⟨r, hr⟩
theorem nth_bits_at (y : Nat) {k N : Nat} (h : k < N) (hb : y.testBit k = true) : nth (bitsTo y N) (bitsTo y k).length = k := by
  obtain ⟨r, hr⟩ := bits_prefix y (k := k + 1) (N := N) (by omega)
  rw [hr, bitsTo, if_pos hb]
  simp [nth, List.getD_eq_getElem?_getD]

theorem rb_best {f : Nat → Int} {N : Nat} (hf : ∀ y, f y ≤ N) (hN : N ≤ 64) (x : Nat) : ∀ k, k ≤ N →
    (bitsTo (cplU x) k = [] ∧ bestTo f N x k = (-1, (N : Int) + 1)) ∨ (bitsTo (cplU x) k ≠ [] ∧ rbTo f N x (bitsTo (cplU x) N) (bitsTo (cplU x) k).length = bestTo f N x k)
  | 0, _ => .inl ⟨rfl, rfl⟩
  | k + 1, hk => by
    have ih := rb_best hf hN x k (by omega)
    have hc := cplU_test x k (by omega)
    by_cases hx : x.testBit k = true
    · rw [hx] at hc
      have e1 : bitsTo (cplU x) (k + 1) = bitsTo (cplU x) k := by rw [bitsTo, if_neg (by rw [hc]; simp)]
      have e2 : bestTo f N x (k + 1) = bestTo f N x k := by rw [bestTo, if_pos hx]
      rw [e1, e2]; exact ih
    · have hx' : x.testBit k = false := by simpa using hx
      rw [hx'] at hc
      have e1 : bitsTo (cplU x) (k + 1) = bitsTo (cplU x) k ++ [(k : Int)] := by rw [bitsTo, if_pos (by rw [hc]; rfl)]
      have e2 : bestTo f N x (k + 1) = if f (x ||| 2 ^ k) < (bestTo f N x k).2 then ((k : Int), f (x ||| 2 ^ k)) else bestTo f N x k := by rw [bestTo, if_neg hx]
      have e3 := nth_bits_at (cplU x) (k := k) (N := N) (by omega) (by rw [hc]; rfl)
      refine .inr ⟨by rw [e1]; simp, ?_⟩
      rw [e1, e2, List.length_append, List.length_singleton, rbTo, e3, Int.toNat_natCast]
      rcases ih with ⟨h1, h2⟩ | ⟨h1, h2⟩
      · have := hf (x ||| 2 ^ k)
        rw [h2, h1]
        show (if f (x ||| 2 ^ k) < (N : Int) + 1 then _ else _) = if f (x ||| 2 ^ k) < (N : Int) + 1 then _ else _
        rw [if_pos (by omega), if_pos (by omega)]
      · rw [h2]
theorem rb_all {f : Nat → Int} {N : Nat} (hf : ∀ y, f y ≤ N) (hN : N ≤ 64) {x : Nat} (h0 : 0 < (bitsTo (cplU x) N).length) : rbTo f N x (bitsTo (cplU x) N) (bitsTo (cplU x) N).length = bestTo f N x N := by
  rcases rb_best hf hN x N (Nat.le_refl _) with ⟨h1, _⟩ | ⟨_, h1⟩
  · rw [h1] at h0; exact absurd h0 (by decide)
  · exact h1
end

/- The walk of ordering.Greedy. -/
section
open Go.RowKit

theorem dim_le {P M : Int} {mod : List Int} {N : Nat} {L : List (List Int)} (hE : codeE P M mod N L = 0) (x : Nat) : dimS (tblOf P M.toNat mod).ops L N x ≤ N := by
  have h1 := (dim_law hE x).2.2
  omega
theorem or_lt {x i : Nat} (hx : x < 18446744073709551616) (hi : i < 64) : x ||| 2 ^ i < 18446744073709551616 := by
  have : 2 ^ i < 2 ^ 64 := Nat.pow_lt_pow_right (by omega) hi
  exact Nat.or_lt_two_pow (n := 64) hx this

def GreedyPost (P M : Int) (mod : List Int) (N : Int) (L : List (List Int)) (w : World) (e : Ending) (w' : World) : Prop :=
  Below w.heap.size w w' ∧ (
    (codeE P M mod N L ≠ 0 ∧ e = .returned (.tuple #[.slice none 0 0, .int .i64 (codeE P M mod N L)])) ∨
    (codeE P M mod N L = 0 ∧ ∃ a c, e = .returned (.tuple #[.slice a N.toNat c, .int .i64 0]) ∧ IntsN w.heap.size w' a N.toNat (greedyTo (dimS (tblOf P M.toNat mod).ops L N.toNat) N.toNat N.toNat)))

set_option maxRecDepth 100000 in
set_option maxHeartbeats 4000000 in
theorem ordGreedy_any (P M : Int) (am : Option Addr) (mn cm : Nat) (mod : List Int) (N : Int) (a : Option Addr) (n c : Nat) (L : List (List Int)) (w : World)
    (hmod : Ints w am mn mod) (hi : Mat w a n L) :
    Calls Try.prog 17 #[.agg #[.int .i64 P, .int .i64 M, .slice am mn cm, .int .i64 N, .slice a n c]] w (GreedyPost P M mod N L w) := by
  go_enter Try.func17, Try.ntmps17
  go_wp2_with fail
  obtain ⟨W, hW⟩ : ∃ W : World, W = w.alloc (.cells #[.int .i64 P, .int .i64 M, .slice am mn cm, .int .i64 N, .slice a n c] 27) := ⟨_, rfl⟩
  rw [← hW]
  have hbW : Below w.heap.size w W := by rw [hW]; exact below1 _ _
  have x0 : Box W w.heap.size [.int .i64 P, .int .i64 M, .slice am mn cm, .int .i64 N, .slice a n c] := by rw [hW]; exact Box.new _ _ _ rfl
  clear hW
  refine (codeCheck_any P M am mn cm mod N a n c L W (hmod.keep hbW) (hi.keep hbW)).mono ?_
  rintro e w1 ⟨rfl, hb1⟩
  have hbw1 := Below.next hbW hb1
  have x1 := x0.keep hb1
  clear x0
  by_cases hE : codeE P M mod N L = 0
  · have HE := Lib.hid hE
    obtain ⟨m, rfl, hm1, hm64, _⟩ := codeE_fld hE
    rw [hE]
    have hm1' := hmod.keep hbw1
    have hi1 := hi.keep hbw1
    have hfl : ∀ y : Nat, dimS (tblOf P M.toNat mod).ops L m y ≤ m := fun y => dim_le hE y
    have Hcd : Hid (∀ y : Nat, y < 18446744073709551616 → ∀ V, Below w1.heap.size w1 V → Calls Try.prog 30 #[.agg #[.int .i64 P, .int .i64 M, .slice am mn cm, .int .i64 m, .slice a n c], .int .u64 y] V
        fun e w' => e = .returned (.int .i64 (dimS (tblOf P M.toNat mod).ops L m y)) ∧ Below V.heap.size V w') := fun y hy V hV => ordDim_any P M am mn cm mod m a n c L y V (hm1'.keep hV) (hi1.keep hV) hE hy
    have HP : Hid (∀ (a : Option Addr) (c : Nat) (w' : World), IntsN w.heap.size w' a m (greedyTo (dimS (tblOf P M.toNat mod).ops L m) m m) → Below w.heap.size w w' → GreedyPost P M mod m L w (.returned (.tuple #[.slice a m c, .int .i64 0])) w') := by
      intro a c w' h hb
      unfold GreedyPost
      rw [Int.toNat_natCast]
      exact ⟨hb, Or.inr ⟨hE, a, c, rfl, h⟩⟩
    have hS : ∀ V, Below w1.heap.size w1 V → V.cell? ⟨w.heap.size, 0, none⟩ = some (.int .i64 P) ∧ V.cell? ⟨w.heap.size, 1, none⟩ = some (.int .i64 M) ∧ V.cell? ⟨w.heap.size, 2, none⟩ = some (.slice am mn cm) ∧ V.cell? ⟨w.heap.size, 3, none⟩ = some (.int .i64 m) ∧ V.cell? ⟨w.heap.size, 4, none⟩ = some (.slice a n c) ∧ Below w1.heap.size w1 V := by
      intro V hV
      have x2 := x1.keep hV
      exact ⟨x2.cell 0 rfl, x2.cell 1 rfl, x2.cell 2 rfl, x2.cell 3 rfl, x2.cell 4 rfl, hV⟩
    have HS := Lib.hid hS
    obtain ⟨f, hf⟩ : ∃ f, dimS (tblOf P M.toNat mod).ops L m = f := ⟨_, rfl⟩
    rw [hf] at HP
    have Hfl : Hid (∀ y : Nat, f y ≤ m) := by rw [← hf]; exact hfl
    have Hcd2 : Hid (∀ y : Nat, y < 18446744073709551616 → ∀ V, Below w1.heap.size w1 V → Calls Try.prog 30 #[.agg #[.int .i64 P, .int .i64 M, .slice am mn cm, .int .i64 m, .slice a n c], .int .u64 y] V
        fun e w' => e = .returned (.int .i64 (f y)) ∧ Below V.heap.size V w') := by rw [← hf]; exact Hcd.out
    have c3 := x1.cell 3 rfl
    clear hE hfl Hcd hS hf hm1' hi1 x1
    go_wp2_with fail
    go_loopw [5, 6, 18] (fun mv sv iv wr => ∃ (k : Nat) (aq : Option Addr) (cq : Nat), k ≤ m ∧ iv = .int .i64 k ∧ mv = .int .u64 (maskS (greedyTo f m k)) ∧ sv = .slice aq k cq ∧
        wr.ownsRow w1.heap.size 3 1 (.slice aq k cq) k ((greedyTo f m k).map (Value.int .i64)) ∧ Below w1.heap.size w1 wr) (fun _ _ iv _ => m - (intOf iv).toNat)
    case atStart => exact ⟨0, none, 0, Nat.zero_le _, rfl, rfl, rfl, own_none, Below.refl _ _⟩
    case round =>
      clear c3
      obtain ⟨k, aq, cq, hk, rfl, rfl, rfl, hop, hbr⟩ := hrel
      by_cases hlt : k < m
      · obtain ⟨b, hb1', hb2', hb3'⟩ := greedy_next Hfl.out hlt
        have hX64 := (greedy_inv Hfl.out k hk).1.mask hm64
        have hG : greedyTo f m (k + 1) = greedyTo f m k ++ [(b : Int)] := by rw [greedyTo, hb1']
        have hM : maskS (greedyTo f m (k + 1)) = maskS (greedyTo f m k) ||| 2 ^ b := by rw [hG, maskS_snoc, Int.toNat_natCast]
        have HG := Lib.hid hG
        have HM := Lib.hid hM
        obtain ⟨X, hX⟩ : ∃ X, maskS (greedyTo f m k) = X := ⟨_, rfl⟩
        rw [hX] at hb1' hb3' hX64 HM
        rw [hX]
        have hgl := greedyTo_len f m k
        have Hgl := Lib.hid hgl
        have HbB : Hid ((bestTo f m X m).1 = b) := hb1'
        clear hX hG hM hb1' hgl
        generalize greedyTo f m k = Gk at *
        obtain ⟨q0, q1, q2, q3, q4, _⟩ := HS.out wr hbr
        have kw : IntKind.i64.wrap ((m : Int) + 1) = (m : Int) + 1 := IntWalk.i64_in _ (by omega)
        go_wp2_with fail
        go_cut [7, 8] (fun v1 v2 wx => v1 = .int .i64 (-1) ∧ v2 = .int .i64 ((m : Int) + 1) ∧ Below wr.heap.size wr wx)
        case first => go_wp2_with fail; go_quiet (fail); go_wp2_with fail; go_meet; exact ⟨rfl, rfl, below_drewN (Below.refl _ _) _⟩
        obtain ⟨rfl, rfl, hcb⟩ := hcut
        generalize wc = wx0 at *
        have hop0 := own_keep hop hcb
        have hbr0 := Below.next hbr hcb
        clear hop hbr hcb
        have hop := hop0
        have hbr := hbr0
        clear hop0 hbr0 q0 q1 q2 q3 q4
        obtain ⟨q0, q1, q2, q3, q4, _⟩ := HS.out wx0 hbr
        go_wp2_with fail
        go_loopw [7, 8, 25] (fun bv lv iv wx => ∃ i : Nat, i ≤ m ∧ iv = .int .i64 i ∧ bv = .int .i64 (bestTo f m X i).1 ∧ lv = .int .i64 (bestTo f m X i).2 ∧ Below wx0.heap.size wx0 wx) (fun _ _ iv _ => m - (intOf iv).toNat)
        case atStart => exact ⟨0, Nat.zero_le _, rfl, rfl, rfl, Below.refl _ _⟩
        case round =>
          obtain ⟨i, hi', rfl, rfl, rfl, hbx⟩ := hrel
          by_cases hli : i < m
          · have hand := and_one_u64 X i hX64
            have htb := testBit_div X i
            by_cases ht : X.testBit i = true
            · have hs : Hid (bestTo f m X (i + 1) = bestTo f m X i) := by show _ = _; rw [bestTo, if_pos ht]
              have h1 : X / 2 ^ i % 2 = 1 := by rw [ht] at htb; simpa using htb.symm
              rw [h1] at hand
              clear ht htb h1
              generalize bestTo f m X i = bl at *
              go_wp2_with fail
              go_roundw
              case rel => exact ⟨i + 1, by omega, by go_num, by rw [hs.out], by rw [hs.out], hbx⟩
              case measure => simp [intOf] <;> omega
            · have h1 : X / 2 ^ i % 2 = 0 := by
                have h2 := Nat.mod_two_eq_zero_or_one (X / 2 ^ i)
                have h3 : ¬ X / 2 ^ i % 2 = 1 := fun h => by rw [h] at htb; simp at htb; exact ht htb
                omega
              rw [h1] at hand
              have Hor := Lib.hid (mask_or X i hX64 (by omega))
              obtain ⟨d, hd⟩ : ∃ d, f (X ||| 2 ^ i) = d := ⟨_, rfl⟩
              have hs : Hid (bestTo f m X (i + 1) = if d < (bestTo f m X i).2 then ((i : Int), d) else bestTo f m X i) := by show _ = _; rw [bestTo, if_neg ht, hd]
              have Hc : Hid (∀ V, Below w1.heap.size w1 V → Calls Try.prog 30 #[.agg #[.int .i64 P, .int .i64 M, .slice am mn cm, .int .i64 m, .slice a n c], .int .u64 ((X ||| 2 ^ i : Nat) : Int)] V
                  fun e w' => e = .returned (.int .i64 d) ∧ Below V.heap.size V w') := by rw [← hd]; exact Hcd2.out _ (or_lt hX64 (by omega))
              have HS2 : Hid (∀ V, Below wx0.heap.size wx0 V → V.cell? ⟨w.heap.size, 0, none⟩ = some (.int .i64 P) ∧ V.cell? ⟨w.heap.size, 1, none⟩ = some (.int .i64 M) ∧ V.cell? ⟨w.heap.size, 2, none⟩ = some (.slice am mn cm) ∧ V.cell? ⟨w.heap.size, 3, none⟩ = some (.int .i64 m) ∧ V.cell? ⟨w.heap.size, 4, none⟩ = some (.slice a n c) ∧ Below wx0.heap.size wx0 V) :=
                fun V hV => ⟨(HS.out V (Below.next hbr hV)).1, (HS.out V (Below.next hbr hV)).2.1, (HS.out V (Below.next hbr hV)).2.2.1, (HS.out V (Below.next hbr hV)).2.2.2.1, (HS.out V (Below.next hbr hV)).2.2.2.2.1, hV⟩
              have Hbr := Lib.hid hbr
              have Hbx := Lib.hid hbx
              clear ht htb h1 hd hbr hbx q0 q1 q2 q3 q4
              generalize bestTo f m X i = bl at *
              by_cases hdl : d < bl.2
              · have hdl' : decide (d < bl.2) = true := by simpa using hdl
                have hs2 : Hid (bestTo f m X (i + 1) = ((i : Int), d)) := by show _ = _; rw [hs.out, if_pos hdl]
                clear hdl
                go_wp2_with fail
                go_region_held3 (fun V => V.cell? ⟨w.heap.size, 0, none⟩ = some (.int .i64 P) ∧ V.cell? ⟨w.heap.size, 1, none⟩ = some (.int .i64 M) ∧ V.cell? ⟨w.heap.size, 2, none⟩ = some (.slice am mn cm) ∧ V.cell? ⟨w.heap.size, 3, none⟩ = some (.int .i64 m) ∧ V.cell? ⟨w.heap.size, 4, none⟩ = some (.slice a n c) ∧ Below wx0.heap.size wx0 V)
                  ((refine HS2.out _ ?_; first | exact Hbx.out.drew | exact Below.next Hbx.out.drew hb4 | (go_split_ands; exact Below.next (by assumption) (by assumption))))
                  (first
                    | (go_at_call 30; ((rw [Hor.out]); ((with_reducible refine (Hc.out _ (Below.next Hbr.out Hbx.out.drew)).mono ?_); rintro e w4 ⟨rfl, hb4⟩))))
                have hbx4 := Below.next Hbx.out.drew hb4
                go_wp2_with fail
                go_roundw
                case rel => exact ⟨i + 1, by omega, by go_num, by rw [hs2.out], by rw [hs2.out], hbx4⟩
                case measure => simp [intOf] <;> omega
              · have hdl' : decide (d < bl.2) = false := by simpa using hdl
                have hs2 : Hid (bestTo f m X (i + 1) = bl) := by show _ = _; rw [hs.out, if_neg hdl]
                clear hdl
                go_wp2_with fail
                go_region_held3 (fun V => V.cell? ⟨w.heap.size, 0, none⟩ = some (.int .i64 P) ∧ V.cell? ⟨w.heap.size, 1, none⟩ = some (.int .i64 M) ∧ V.cell? ⟨w.heap.size, 2, none⟩ = some (.slice am mn cm) ∧ V.cell? ⟨w.heap.size, 3, none⟩ = some (.int .i64 m) ∧ V.cell? ⟨w.heap.size, 4, none⟩ = some (.slice a n c) ∧ Below wx0.heap.size wx0 V)
                  ((refine HS2.out _ ?_; first | exact Hbx.out.drew | exact Below.next Hbx.out.drew hb4 | (go_split_ands; exact Below.next (by assumption) (by assumption))))
                  (first
                    | (go_at_call 30; ((rw [Hor.out]); ((with_reducible refine (Hc.out _ (Below.next Hbr.out Hbx.out.drew)).mono ?_); rintro e w4 ⟨rfl, hb4⟩))))
                have hbx4 := Below.next Hbx.out.drew hb4
                go_wp2_with fail
                go_roundw
                case rel => exact ⟨i + 1, by omega, by go_num, by rw [hs2.out], by rw [hs2.out], hbx4⟩
                case measure => simp [intOf] <;> omega
          · obtain rfl : i = m := by omega
            rw [HbB.out]
            generalize (bestTo f i X i).2 = l9 at *
            have Hor := Lib.hid (mask_or X b hX64 (by omega))
            have hop2 := own_keep hop hbx
            have hcn := cell_new wr (.int .i64 b) 3
            have hbn := below1 wr (.cells #[.int .i64 b] 3)
            have hb01 := Below.next hbr hbx
            have hsz := hb01.size
            clear q0 q1 q2 q3 q4
            go_wp2_with (at_builtin; refine wpList_push rfl _ _ 22 3 rfl (.int .i64 0) 8 Try.underlying22 infoInt rfl w1.heap.size aq k cq _ rfl (hop2.alloc _) ⟨wr.heap.size, 0, none⟩ 1 (.int .i64 b) rfl hcn rfl (by omega) (by unfold maxLen; omega) (by simp; omega) ?_; intro a5 c5 w5 hown5 hgr5 hap5)
            go_roundw
            case rel =>
              refine ⟨k + 1, a5, c5, by omega, by go_num, by rw [Hor.out, HM.out], rfl, ?_, Below.app (Below.trans hb01 (hbn.mono hsz)) (hop2.alloc _) hgr5 (Nat.le_refl _) (Nat.le_trans hsz hbn.size)⟩
              rw [HG.out]; simpa using hown5
            case measure => simp [intOf] <;> omega
      · obtain rfl : k = m := by omega
        have hF := HP.out aq cq wr ((IntsN.own hop).mono hbw1.size) (Below.next hbw1 hbr)
        have HF := Lib.hid hF
        clear hF hop
        go_wp2_with fail
        go_ret2
        exact HF.out
  · have HE := Lib.hid hE
    have hE2 : (codeE P M mod N L != 0) = true := by simpa using hE
    clear hE
    go_wp2_with fail
    go_ret2
    exact ⟨hbw1, .inl ⟨HE.out, rfl⟩⟩
end

/- The walk of the reference of layer 48: Greedy. -/
section
open Go.RowKit

set_option maxRecDepth 100000 in
set_option maxHeartbeats 4000000 in
theorem rGreedy_any (P M : Int) (am : Option Addr) (mn cm : Nat) (mod : List Int) (m : Nat) (a : Option Addr) (n c : Nat) (L : List (List Int)) (w : World)
    (hmod : Ints w am mn mod) (hi : Mat w a n L) (hE : codeE P M mod m L = 0) :
    Calls Try.prog 19 #[.agg #[.int .i64 P, .int .i64 M, .slice am mn cm, .int .i64 m, .slice a n c]] w (NewInts w (greedyTo (dimS (tblOf P M.toNat mod).ops L m) m m)) := by
  obtain ⟨N', e, hm1, hm64, _⟩ := codeE_fld hE
  obtain rfl : m = N' := by omega
  have hfl : ∀ y : Nat, dimS (tblOf P M.toNat mod).ops L m y ≤ m := fun y => dim_le hE y
  have hof : ∀ V a5 c5 Q, Below w.heap.size w V → Q.length ≤ 64 → InN m Q → V.ownsRow 0 3 1 (.slice a5 Q.length c5) Q.length (Q.map (Value.int .i64)) →
      Calls Try.prog 31 #[.agg #[.int .i64 P, .int .i64 M, .slice am mn cm, .int .i64 m, .slice a n c], .slice a5 Q.length c5] V
        fun e w' => e = .returned (.int .i64 (dimS (tblOf P M.toNat mod).ops L m (maskS Q))) ∧ Below V.heap.size V w' := fun V a5 c5 Q hV h64 hQ ho =>
    rOf_any P M am mn cm mod m a n c L a5 _ c5 Q V (hmod.keep hV) (hi.keep hV) hE (Ints.own ho).1 hQ h64
  obtain ⟨f, hf⟩ : ∃ f, dimS (tblOf P M.toNat mod).ops L m = f := ⟨_, rfl⟩
  rw [hf]
  have Hfl : Hid (∀ y : Nat, f y ≤ m) := by rw [← hf]; exact hfl
  have Hof : Hid (∀ V a5 c5 Q, Below w.heap.size w V → Q.length ≤ 64 → InN m Q → V.ownsRow 0 3 1 (.slice a5 Q.length c5) Q.length (Q.map (Value.int .i64)) →
      Calls Try.prog 31 #[.agg #[.int .i64 P, .int .i64 M, .slice am mn cm, .int .i64 m, .slice a n c], .slice a5 Q.length c5] V
        fun e w' => e = .returned (.int .i64 (f (maskS Q))) ∧ Below V.heap.size V w') := by rw [← hf]; exact hof
  clear hE hfl hof hf hmod hi e
  go_enter Try.func19, Try.ntmps19
  go_wp2_with fail
  obtain ⟨W, hW⟩ : ∃ W : World, W = w.alloc (.cells #[.int .i64 P, .int .i64 M, .slice am mn cm, .int .i64 m, .slice a n c] 27) := ⟨_, rfl⟩
  have hsW : w.heap.size + 1 = W.heap.size := by rw [hW]; simp
  rw [← hW]
  try rw [hsW]
  have hbW : Below w.heap.size w W := by rw [hW]; exact below1 _ _
  have x0 : Box W w.heap.size [.int .i64 P, .int .i64 M, .slice am mn cm, .int .i64 m, .slice a n c] := by rw [hW]; exact Box.new _ _ _ rfl
  have hS : ∀ V, Below W.heap.size W V → V.cell? ⟨w.heap.size, 0, none⟩ = some (.int .i64 P) ∧ V.cell? ⟨w.heap.size, 1, none⟩ = some (.int .i64 M) ∧ V.cell? ⟨w.heap.size, 2, none⟩ = some (.slice am mn cm) ∧ V.cell? ⟨w.heap.size, 3, none⟩ = some (.int .i64 m) ∧ V.cell? ⟨w.heap.size, 4, none⟩ = some (.slice a n c) ∧ Below W.heap.size W V := by
    intro V hV
    have x2 := x0.keep hV
    exact ⟨x2.cell 0 rfl, x2.cell 1 rfl, x2.cell 2 rfl, x2.cell 3 rfl, x2.cell 4 rfl, hV⟩
  have HS := Lib.hid hS
  clear hW hS hsW x0
  go_loopw [3] (fun ov wr => ∃ (k : Nat) (aq : Option Addr) (cq : Nat), k ≤ m ∧ ov = .slice aq k cq ∧
      wr.ownsRow W.heap.size 3 1 (.slice aq k cq) k ((greedyTo f m k).map (Value.int .i64)) ∧ Below W.heap.size W wr) (fun ov _ => m - lenVal ov)
  case atStart => exact ⟨0, _, _, Nat.zero_le _, rfl, by simpa [greedyTo] using own_mk W 3 (.int .i64 0) 0 (Nat.le_refl _) (by unfold maxLen; omega), below1 _ _⟩
  case round =>
    obtain ⟨k, aq, cq, hk, rfl, hop, hbr⟩ := hrel
    obtain ⟨q0, q1, q2, q3, q4, _⟩ := HS.out wr hbr
    by_cases hlt : k < m
    · obtain ⟨b, hb1', hb2', hb3'⟩ := greedy_next Hfl.out hlt
      obtain ⟨hgi1, hgi2⟩ := greedy_inv Hfl.out k hk
      have hX64 := hgi1.mask hm64
      have hG : greedyTo f m (k + 1) = greedyTo f m k ++ [(b : Int)] := by rw [greedyTo, hb1']
      have HG := Lib.hid hG
      have hgl := greedyTo_len f m k
      have Hgl := Lib.hid hgl
      have hparts := bits_parts (maskS (greedyTo f m k)) m hm64
      rw [hgi2] at hparts
      have hrb := rb_all Hfl.out hm64 (x := maskS (greedyTo f m k)) (by omega)
      have hIq := (Ints.own hop).1
      have hplq := hIq.pl
      have hoth := rOthers_any m aq k cq (greedyTo f m k) wr hIq hgi1 hm1 hm64
      have Hgi := Lib.hid hgi1
      have hbk := bitsTo_len (cplU (maskS (greedyTo f m k))) m
      have HIn : Hid (InN m (bitsTo (cplU (maskS (greedyTo f m k))) m)) := InN.bits _ _
      have Hms : Hid (∀ z, maskS (greedyTo f m k ++ [z]) = maskS (greedyTo f m k) ||| 2 ^ z.toNat) := maskS_snoc _
      obtain ⟨X, hX⟩ : ∃ X, maskS (greedyTo f m k) = X := ⟨_, rfl⟩
      rw [hX] at hb1' hb3' hX64 hrb hoth hbk hparts HIn Hms
      have HbB : Hid ((bestTo f m X m).1 = b) := hb1'
      clear hX hG hb1' hgl hb3' hgi1 hgi2
      obtain ⟨left, hleft⟩ : ∃ l, bitsTo (cplU X) m = l := ⟨_, rfl⟩
      rw [hleft] at hrb hoth hbk hparts HIn
      have Hrb := Lib.hid hrb
      clear hleft hrb
      generalize greedyTo f m k = Gk at *
      go_wp2_with fail
      refine hoth.mono ?_
      rintro e w3 ⟨al, cl, rfl, hownl, hb3⟩
      have hIl := (Ints.own hownl).1
      have hpll := hIl.pl
      have hbr3 := Below.next hbr hb3
      have hop3 := own_keep hop hb3
      have cl0 := hIl.cell 0 (by omega)
      rw [Nat.add_zero] at cl0
      have hl0 : (0 : Int) < left.length := by omega
      have hl1 : left ≠ [] := fun h => by rw [h] at hl0; exact absurd hl0 (by decide)
      have hl2 : 0 < left.length := by omega
      clear q0 q1 q2 q3 q4 hoth
      obtain ⟨q0, q1, q2, q3, q4, _⟩ := HS.out w3 hbr3
      have kw : IntKind.i64.wrap ((m : Int) + 1) = (m : Int) + 1 := IntWalk.i64_in _ (by omega)
      go_wp2_with fail
      go_loopw [5, 6, 7] (fun bv lv iv wx => ∃ i : Nat, i ≤ left.length ∧ iv = .int .i64 i ∧ bv = .int .i64 (rbTo f m X left i).1 ∧ lv = .int .i64 (rbTo f m X left i).2 ∧ Below w3.heap.size w3 wx) (fun _ _ iv _ => left.length - (intOf iv).toNat)
      case atStart => exact ⟨0, Nat.zero_le _, rfl, rfl, rfl, Below.refl _ _⟩
      case round =>
        obtain ⟨i, hi', rfl, rfl, rfl, hbx⟩ := hrel
        by_cases hli : i < left.length
        · generalize wr = U at *
          have hbU := Below.next hbr3 hbx
          have hopU := own_keep hop3 hbx
          have hIlU := hIl.keep hbx
          have hzb := HIn.out i hli
          have hsx : rbTo f m X left (i + 1) = if f (X ||| 2 ^ (nth left i).toNat) < (rbTo f m X left i).2 then (nth left i, f (X ||| 2 ^ (nth left i).toNat)) else rbTo f m X left i := rfl
          obtain ⟨z, hz⟩ : ∃ z, nth left i = z := ⟨_, rfl⟩
          rw [hz] at hsx hzb
          obtain ⟨d, hd⟩ : ∃ d, f (X ||| 2 ^ z.toNat) = d := ⟨_, rfl⟩
          rw [hd] at hsx
          have Hsx := Lib.hid hsx
          have HOf : Hid (∀ V a5 c5, Below U.heap.size U V → V.ownsRow U.heap.size 3 1 (.slice a5 (k + 1) c5) (k + 1) (Gk.map (Value.int .i64) ++ [.int .i64 z]) →
              Calls Try.prog 31 #[.agg #[.int .i64 P, .int .i64 M, .slice am mn cm, .int .i64 m, .slice a n c], .slice a5 (k + 1) c5] V fun e w' => e = .returned (.int .i64 d) ∧ Below V.heap.size V w') := by
            intro V a5 c5 hV ho
            have hl : (Gk ++ [z]).length = k + 1 := by rw [List.length_append, Hgl.out]; rfl
            have h1 := Hof.out V a5 c5 (Gk ++ [z]) (Below.next (Below.next hbW hbU) hV) (by omega) (fun j hj => by
              rw [nth_push, Hgl.out]
              by_cases e : j < k
              · rw [if_pos e]; exact Hgi.out j (by rw [Hgl.out]; exact e)
              · rw [if_neg e, if_pos (by omega)]; exact hzb) (by rw [hl]; exact own_mono (by simpa using ho) (Nat.zero_le _))
            rw [hl, Hms.out, hd] at h1
            exact h1
          have HS4 : Hid (∀ V, Below U.heap.size U V → V.cell? ⟨w.heap.size, 0, none⟩ = some (.int .i64 P) ∧ V.cell? ⟨w.heap.size, 1, none⟩ = some (.int .i64 M) ∧ V.cell? ⟨w.heap.size, 2, none⟩ = some (.slice am mn cm) ∧ V.cell? ⟨w.heap.size, 3, none⟩ = some (.int .i64 m) ∧ V.cell? ⟨w.heap.size, 4, none⟩ = some (.slice a n c) ∧
              V.cell? ⟨ablk al, aoff al + i, none⟩ = some (.int .i64 z) ∧ Ints V aq k Gk ∧ Below U.heap.size U V) := by
            intro V hV
            obtain ⟨g0, g1, g2, g3, g4, _⟩ := HS.out V (Below.next hbU hV)
            have g5 := (hIlU.keep hV).cell i hli
            rw [hz] at g5
            exact ⟨g0, g1, g2, g3, g4, g5, (Ints.own (own_keep hopU hV)).1, hV⟩
          have Hbx := Lib.hid hbx
          have hGl := Hgl.out
          clear hz hd hsx hzb hop hop3 hopU hIl hIlU hbx hownl q0 q1 q2 q3 q4 cl0 hIq hbU hbr3
          go_wp2_with fail
          go_cut [8] (fun v wx => v = .int .i64 d ∧ Below U.heap.size U wx)
          case first =>
            have hO := own_emp U 3
            have hO2 : ((U.alloc (.cells #[.int .i64 z] 3)).alloc (.cells #[] 3)).ownsRow U.heap.size 3 1 (.slice (some ⟨U.heap.size + 1, 0, none⟩) 0 0) 0 [] := by
              have h := own_mono (own_emp (U.alloc (.cells #[.int .i64 z] 3)) 3) (B' := U.heap.size) (by simp)
              rwa [World.size_alloc] at h
            go_region_held3 (fun V => V.cell? ⟨w.heap.size, 0, none⟩ = some (.int .i64 P) ∧ V.cell? ⟨w.heap.size, 1, none⟩ = some (.int .i64 M) ∧ V.cell? ⟨w.heap.size, 2, none⟩ = some (.slice am mn cm) ∧ V.cell? ⟨w.heap.size, 3, none⟩ = some (.int .i64 m) ∧ V.cell? ⟨w.heap.size, 4, none⟩ = some (.slice a n c) ∧
                V.cell? ⟨ablk al, aoff al + i, none⟩ = some (.int .i64 z) ∧ Ints V aq k Gk ∧ Below U.heap.size U V)
              ((refine HS4.out _ ?_; first | exact (Below.refl _ _).drew | exact hb5 | exact Below.next hb5 hb6 | exact hb4 | exact Below.allocN hb4 _ | exact ((Below.refl _ _).alloc (Nat.le_refl _) _).drew | (go_split_ands; exact Below.allocN (by assumption) _)))
              (first
                | (obtain ⟨_, _, _, _, _, _, hI9, hB9⟩ := (by assumption : _ ∧ _ ∧ _ ∧ _ ∧ _ ∧ _ ∧ Ints _ aq k Gk ∧ Below U.heap.size U _); refine step_appAll (by rfl) (.tmp 32) (.tmp 33) 22 3 (by rfl) (.int .i64 0) 8 Try.underlying22 infoInt (by rfl) U.heap.size _ 0 0 [] (by rfl) (by first | exact hO | exact hO.alloc _ | exact hO2) aq k cq (Gk.map (Value.int .i64)) (by rfl) hplq (by simp [hGl]) (Ints.news hI9) (ints_oneCell _ _) (by omega) (by unfold maxLen; omega) (Below.size hB9) ?_; intro a4 c4 w4 hown4 hgr4 hap4; have hb4 : Below U.heap.size U w4 := Below.app (B := U.heap.size) (e := 3) (xs := []) hB9 (by first | exact hO | exact hO.alloc _ | exact hO2) hgr4 (Nat.le_refl _) (Below.size hB9); rw [Nat.zero_add] at hown4 ⊢; rw [List.nil_append] at hown4; (first | (have hc4 := cell_grownApt (ad := ⟨U.heap.size + 1, 0, none⟩) (v := .int .i64 z) hgr4 (cell_new' _ _ _ (by simp)) (.inr (by simp))) | (have hc4 := cell_grownApt (ad := ⟨U.heap.size, 0, none⟩) (v := .int .i64 z) hgr4 (cell_box (cell_new' _ _ _ rfl) _) (.inr (by simp))) | skip))
                | (refine step_appAll (by rfl) (.tmp 34) (.tmp 39) 22 3 (by rfl) (.int .i64 0) 8 Try.underlying22 infoInt (by rfl) U.heap.size a4 k c4 (Gk.map (Value.int .i64)) (by rfl) (by first | exact hown4 | exact hown4.alloc _) _ 1 1 [.int .i64 z] (by rfl) (fun _ => rfl) rfl (by intro j hj; obtain rfl : j = 0 := (by omega); first | exact cell_new' _ _ _ rfl | exact hc4) (by intro y hy; simp at hy; subst hy; rfl) (by omega) (by unfold maxLen; omega) (by first | exact hb4.size | exact (Below.allocN hb4 _).size) ?_; intro a5 c5 w5 hown5 hgr5 hap5; have hb5 : Below U.heap.size U w5 := (by first | exact Below.app (Below.allocN hb4 _) (hown4.alloc _) hgr5 (Nat.le_refl _) (Below.allocN hb4 _).size | exact Below.app hb4 hown4 hgr5 (Nat.le_refl _) hb4.size))
                | (go_at_call 31; ((with_reducible refine (HOf.out w5 a5 c5 hb5 hown5).mono ?_); rintro e w6 ⟨rfl, hb6⟩)))
            all_goals (go_wp2_with fail; go_meet; exact ⟨rfl, Below.next hb5 hb6⟩)
          obtain ⟨rfl, hbc⟩ := hcut
          have hbx2 := Below.next Hbx.out hbc
          obtain ⟨_, _, _, _, _, g5, _, _⟩ := HS4.out _ hbc
          generalize wc = V at *
          generalize rbTo f m X left i = bl at *
          by_cases hdl : d < bl.2
          · have hdl' : decide (d < bl.2) = true := by simpa using hdl
            have hs2 : Hid (rbTo f m X left (i + 1) = (z, d)) := by show _ = _; rw [Hsx.out, if_pos hdl]
            clear hdl
            go_wp2_with fail
            go_roundw
            case rel => exact ⟨i + 1, by omega, by go_num, by rw [hs2.out], by rw [hs2.out], hbx2⟩
            case measure => simp [intOf] <;> omega
          · have hdl' : decide (d < bl.2) = false := by simpa using hdl
            have hs2 : Hid (rbTo f m X left (i + 1) = bl) := by show _ = _; rw [Hsx.out, if_neg hdl]
            clear hdl
            go_wp2_with fail
            go_roundw
            case rel => exact ⟨i + 1, by omega, by go_num, by rw [hs2.out], by rw [hs2.out], hbx2⟩
            case measure => simp [intOf] <;> omega
        · have hie : i = left.length := by omega
          have hbest : (rbTo f m X left i).1 = b := by rw [hie, Hrb.out]; exact HbB.out
          rw [hbest]
          have hlt2 : ¬ (i : Int) < left.length := by omega
          generalize (rbTo f m X left i).2 = l9 at *
          generalize wr = U at *
          have hbU := Below.next hbr3 hbx
          have hopU := own_keep hop3 hbx
          have hcn := cell_new U (.int .i64 b) 3
          have hbn := below1 U (.cells #[.int .i64 b] 3)
          have hsz := hbU.size
          clear hie hbest q0 q1 q2 q3 q4
          go_wp2_with (at_builtin; refine wpList_push rfl _ _ 22 3 rfl (.int .i64 0) 8 Try.underlying22 infoInt rfl W.heap.size aq k cq _ rfl (hopU.alloc _) ⟨U.heap.size, 0, none⟩ 1 (.int .i64 b) rfl hcn rfl (by omega) (by unfold maxLen; omega) (by simp; omega) ?_; intro a5 c5 w5 hown5 hgr5 hap5)
          go_roundw
          case rel =>
            refine ⟨k + 1, a5, c5, by omega, rfl, ?_, Below.app (Below.trans hbU (hbn.mono hsz)) (hopU.alloc _) hgr5 (Nat.le_refl _) (Nat.le_trans hsz hbn.size)⟩
            rw [HG.out]; simpa using hown5
          case measure => simp [lenVal] <;> omega
    · obtain rfl : k = m := by omega
      have hF : NewInts w (greedyTo f k k) (.returned (.slice aq k cq)) wr := ⟨aq, cq, by rw [greedyTo_len], by rw [greedyTo_len]; exact own_mono hop hbW.size, Below.next hbW hbr⟩
      have HF := Lib.hid hF
      clear hF hop
      go_wp2_with fail
      go_ret
      exact HF.out
end

end Go.Proofs.Ytnielheglicbmaa
