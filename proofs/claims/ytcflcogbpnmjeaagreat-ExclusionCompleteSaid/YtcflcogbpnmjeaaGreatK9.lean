/- The walk of infoset.greedy. -/
import Derived.Test.YtcflcogbpnmjeaaGreatK8
import Derived.Test.YtcflcogbpnmjeaaGreatK5
namespace Go.Proofs.YtcflcogbpnmjeaaGreat
set_option linter.unusedVariables false
set_option linter.unusedSimpArgs false
set_option linter.unusedSectionVars false

/- The tables of a field are a field: its axioms. -/
section
/-- the axioms of a field, for numbers that are elements -/
structure Fld (O : FOps) (El : Int → Prop) : Prop where
  cl : FCl O El
  zero : El 0
  one : El 1
  add_comm : ∀ x y, El x → El y → O.add x y = O.add y x
  add_assoc : ∀ x y z, El x → El y → El z → O.add (O.add x y) z = O.add x (O.add y z)
  add_zero : ∀ x, El x → O.add x 0 = x
  add_neg : ∀ x, El x → O.add x (O.neg x) = 0
  mul_comm : ∀ x y, El x → El y → O.mul x y = O.mul y x
  mul_assoc : ∀ x y z, El x → El y → El z → O.mul (O.mul x y) z = O.mul x (O.mul y z)
  one_mul : ∀ x, El x → O.mul 1 x = x
  mul_add : ∀ x y z, El x → El y → El z → O.mul x (O.add y z) = O.add (O.mul x y) (O.mul x z)
  mul_inv : ∀ x, El x → x ≠ 0 → O.mul x (O.inv x) = 1

/-- the powers of y -/
def pw (P : Int) (M : Nat) (mod : List Int) (y : Int) : Nat → Int
  | 0 => 1
  | k + 1 => mulS P M mod (pw P M mod y k) y

variable {P : Int} {M : Nat} {mod : List Int} {q : Nat} {y : Int}

theorem pw_el (h : Res P M) (y : Int) : ∀ k, ElP P M (pw P M mod y k)
  | 0 => one_el h
  | k + 1 => mulS_el h _ _
theorem pw_add (h : Res P M) (y : Int) (a : Nat) : ∀ b, mulS P M mod (pw P M mod y a) (pw P M mod y b) = pw P M mod y (a + b)
  | 0 => by rw [pw, mulS_comm h, mulS_one h (pw_el h y a)]; rfl
  | b + 1 => by rw [pw, ← mulS_assoc h, pw_add h y a b]; rfl

/-- the list of the powers: what it holds is pairwise different, not 0, and powers in order -/
theorem powTo_inv (y : Int) : ∀ (n : Nat) (l : List Int), (∀ i, i < l.length → nth l i = pw P M mod y i) → l.Nodup → (∀ e ∈ l, e ≠ 0) →
    (∀ i, i < (powTo (fun z => mulS P M mod z y) n l (pw P M mod y l.length)).length → nth (powTo (fun z => mulS P M mod z y) n l (pw P M mod y l.length)) i = pw P M mod y i) ∧
    (powTo (fun z => mulS P M mod z y) n l (pw P M mod y l.length)).Nodup ∧ ∀ e ∈ powTo (fun z => mulS P M mod z y) n l (pw P M mod y l.length), e ≠ 0
  | 0, l, h1, h2, h3 => ⟨h1, h2, h3⟩
  | n + 1, l, h1, h2, h3 => by
    by_cases hs : pw P M mod y l.length = 0 ∨ pw P M mod y l.length ∈ l
    · rw [powTo_stop _ _ _ _ hs]; exact ⟨h1, h2, h3⟩
    · rw [powTo_go _ _ _ _ hs]
      have e : mulS P M mod (pw P M mod y l.length) y = pw P M mod y (l ++ [pw P M mod y l.length]).length := by simp [pw]
      rw [e]
      refine powTo_inv y n _ (fun i hi => ?_) ?_ ?_
      · simp only [List.length_append, List.length_singleton] at hi
        by_cases hl : i < l.length
        · rw [nth, List.getD_eq_getElem?_getD, List.getElem?_append_left hl, ← List.getD_eq_getElem?_getD]; exact h1 i hl
        · obtain rfl : i = l.length := by omega
          simp [nth]
      · rw [List.nodup_append]
        refine ⟨h2, by simp, fun a ha b hb => ?_⟩
        rw [List.mem_singleton.1 hb]
        intro e; exact hs (.inr (e ▸ ha))
      · intro e he
        rcases List.mem_append.1 he with h | h
        · exact h3 e h
        · rw [List.mem_singleton.1 h]; intro e; exact hs (.inl e)

theorem powS_inv (h : Res P M) (hy : ElP P M y) (q : Nat) :
    (∀ i, i < (powS P M mod q y).length → nth (powS P M mod q y) i = pw P M mod y i) ∧ (powS P M mod q y).Nodup ∧ ∀ e ∈ powS P M mod q y, e ≠ 0 := by
  have e : pw P M mod y [(1 : Int)].length = y := by show mulS P M mod (pw P M mod y 0) y = y; rw [pw, mulS_one h hy]
  have := powTo_inv (P := P) (M := M) (mod := mod) y q [1] (fun i hi => by
    have : i = 0 := by simp at hi; omega
    subst this; rfl) (by simp) (by simp)
  rw [e] at this
  exact this

/-- a generator: its powers are all residues but 0 -/
structure Gen (P : Int) (M : Nat) (mod : List Int) (q : Nat) (y : Int) (ex : List Int) : Prop where
  res : Res P M
  q2 : 2 ≤ q
  pq : (q : Int) = P ^ M
  yel : ElP P M y
  len : ex.length = q - 1
  val : ∀ i, i < q - 1 → nth ex i = pw P M mod y i
  nodup : ex.Nodup
  ne : ∀ e ∈ ex, e ≠ 0
  last : pw P M mod y (q - 1) = 1

theorem Gen.of_isGen (h : Res P M) (hq : (q : Int) = P ^ M) (hy : ElP P M y) (hg : isGen P M mod q y = true) : Gen P M mod q y (powS P M mod q y) := by
  have hq2 : 2 ≤ q := by have := one_lt_pow h; omega
  simp only [isGen, Bool.and_eq_true, beq_iff_eq] at hg
  obtain ⟨h1, h2, h3⟩ := powS_inv (mod := mod) h hy q
  refine ⟨h, hq2, hq, hy, hg.1, fun i hi => h1 i (by omega), h2, h3, ?_⟩
  have := hg.2
  rw [h1 _ (by omega)] at this
  rw [show q - 1 = (q - 2) + 1 by omega]
  exact this

namespace Gen
variable {ex : List Int}
theorem mem (g : Gen P M mod q y ex) {e : Int} (he : ElP P M e) (h0 : e ≠ 0) : e ∈ ex := by
  apply Classical.byContradiction
  intro hn
  have hnd : (e :: ex).Nodup := List.nodup_cons.2 ⟨hn, g.nodup⟩
  have hsub : ∀ x ∈ e :: ex, x ∈ (List.range (q - 1)).map (fun i : Nat => (i : Int) + 1) := by
    intro x hx
    have hx2 : ElP P M x ∧ x ≠ 0 := by
      rcases List.mem_cons.1 hx with rfl | hx
      · exact ⟨he, h0⟩
      · refine ⟨?_, g.ne x hx⟩
        obtain ⟨i, hi, rfl⟩ := List.mem_iff_getElem.1 hx
        rw [← nth_getElem hi, g.val i (by rw [← g.len]; exact hi)]
        exact pw_el g.res y i
    rw [List.mem_map]
    have h1 := hx2.1.1
    have h2 := hx2.1.2
    have h3 := hx2.2
    have h4 := g.pq
    have h5 := g.q2
    exact ⟨(x - 1).toNat, by rw [List.mem_range]; omega, by omega⟩
  have hle := List.Nodup.length_le_of_subset hnd hsub
  simp at hle
  have h5 := g.q2
  have h6 := g.len
  omega
theorem log (g : Gen P M mod q y ex) {e : Int} (he : ElP P M e) (h0 : e ≠ 0) : ∃ k, k < q - 1 ∧ e = pw P M mod y k ∧ nth ex k = e := by
  obtain ⟨i, hi, e1⟩ := List.mem_iff_getElem.1 (g.mem he h0)
  have hi2 : i < q - 1 := by rw [← g.len]; exact hi
  refine ⟨i, hi2, ?_, ?_⟩
  · rw [← g.val i hi2, nth_getElem hi, e1]
  · rw [nth_getElem hi, e1]
theorem period (g : Gen P M mod q y ex) (a : Nat) : ∀ n, pw P M mod y (a + n * (q - 1)) = pw P M mod y a
  | 0 => by simp
  | n + 1 => by
    rw [show a + (n + 1) * (q - 1) = (a + n * (q - 1)) + (q - 1) by rw [Nat.add_mul]; omega, ← pw_add g.res, g.last, mulS_comm g.res, mulS_one g.res (pw_el g.res y _), period g a n]
theorem red (g : Gen P M mod q y ex) (a : Nat) : pw P M mod y (a % (q - 1)) = pw P M mod y a := by
  have h := g.period (a % (q - 1)) (a / (q - 1))
  rw [← h, Nat.mul_comm, Nat.mod_add_div]
theorem pw_ne (g : Gen P M mod q y ex) (a : Nat) : pw P M mod y a ≠ 0 := by
  have h5 := g.q2
  rw [← g.red a]
  have hlt : a % (q - 1) < q - 1 := Nat.mod_lt _ (by omega)
  rw [← g.val _ hlt]
  exact g.ne _ (nth_mem (by rw [g.len]; exact hlt))
theorem inj (g : Gen P M mod q y ex) {i j : Nat} (hi : i < q - 1) (hj : j < q - 1) (h : nth ex i = nth ex j) : i = j := by
  rw [nth_getElem (by rw [g.len]; exact hi), nth_getElem (by rw [g.len]; exact hj)] at h
  have hp := List.pairwise_iff_getElem.1 g.nodup
  rcases Nat.lt_trichotomy i j with h1 | h1 | h1
  · exact absurd h (hp i j _ _ h1)
  · exact h1
  · exact absurd h.symm (hp j i _ _ h1)
theorem ex_el (g : Gen P M mod q y ex) {k : Nat} (hk : k < q - 1) : ElP P M (nth ex k) := by rw [g.val k hk]; exact pw_el g.res y k
theorem logTo_nth (g : Gen P M mod q y ex) : ∀ k, k ≤ q - 1 → ∀ j, j < k → nth (logTo q ex k) (nth ex j).toNat = j
  | 0, _, j, hj => by omega
  | k + 1, hk, j, hj => by
    have hkel := g.ex_el (k := k) (by omega)
    have hjel := g.ex_el (k := j) (by omega)
    have h1 := hkel.1
    have h2 := hkel.2
    have h3 := hjel.1
    have h4 := g.pq
    rw [logTo, nth_set _ _ _ _ (by rw [logTo_length]; omega)]
    by_cases e : j = k
    · subst e; rw [if_pos rfl]
    · rw [if_neg]
      · exact logTo_nth g k (by omega) j (by omega)
      · intro e2
        exact e (g.inj (by omega) (by omega) (by omega))
theorem logs (g : Gen P M mod q y ex) {k : Nat} (hk : k < q - 1) : nth (logTo q ex (q - 1)) (pw P M mod y k).toNat = k := by
  rw [← g.val k hk]; exact g.logTo_nth (q - 1) (Nat.le_refl _) k hk

theorem mulT_eq (g : Gen P M mod q y ex) {x z : Int} (hx : ElP P M x) (hz : ElP P M z) : mulT q ex (logTo q ex (q - 1)) x z = mulS P M mod x z := by
  unfold mulT
  by_cases h0 : x = 0 ∨ z = 0
  · rw [if_pos h0]
    rcases h0 with rfl | rfl
    · rw [mulS_comm g.res, mulS_zero g.res]
    · rw [mulS_zero g.res]
  · rw [if_neg h0]
    obtain ⟨a, ha, rfl, _⟩ := g.log hx (fun e => h0 (.inl e))
    obtain ⟨b, hb, rfl, _⟩ := g.log hz (fun e => h0 (.inr e))
    have h5 := g.q2
    rw [g.logs ha, g.logs hb, pw_add g.res]
    have e1 : ((a : Int) + b) % ((q : Int) - 1) = (((a + b) % (q - 1) : Nat) : Int) := by
      rw [Int.natCast_emod, Int.natCast_add, Int.natCast_sub (by omega)]; rfl
    rw [e1, Int.toNat_natCast, g.val _ (Nat.mod_lt _ (by omega)), g.red]
theorem invT_mul (g : Gen P M mod q y ex) {x : Int} (hx : ElP P M x) (h0 : x ≠ 0) : mulS P M mod x (invT q ex (logTo q ex (q - 1)) x) = 1 := by
  obtain ⟨a, ha, rfl, _⟩ := g.log hx h0
  have h5 := g.q2
  unfold invT
  rw [g.logs ha]
  have e1 : ((q : Int) - 1 - a) % ((q : Int) - 1) = (((q - 1 - a) % (q - 1) : Nat) : Int) := by
    rw [Int.natCast_emod, Int.natCast_sub (by omega), Int.natCast_sub (by omega)]; rfl
  rw [e1, Int.toNat_natCast, g.val _ (Nat.mod_lt _ (by omega)), g.red, pw_add g.res, show a + (q - 1 - a) = q - 1 by omega, g.last]
theorem invT_el (g : Gen P M mod q y ex) (x : Int) : ElP P M (invT q ex (logTo q ex (q - 1)) x) := by
  have h5 := g.q2
  unfold invT
  refine g.ex_el ?_
  have h1 := Int.emod_nonneg ((q : Int) - 1 - nth (logTo q ex (q - 1)) x.toNat) (show (q : Int) - 1 ≠ 0 by omega)
  have h2 := Int.emod_lt_of_pos ((q : Int) - 1 - nth (logTo q ex (q - 1)) x.toNat) (show 0 < (q : Int) - 1 by omega)
  omega

/-- the operations by the tables are a field -/
theorem fld (g : Gen P M mod q y ex) : Fld (Tbl.ops ⟨P, M, q, ex, logTo q ex (q - 1)⟩) (ElP P M) := by
  have hmul : ∀ {x z : Int}, ElP P M x → ElP P M z → (Tbl.ops ⟨P, M, q, ex, logTo q ex (q - 1)⟩).mul x z = mulS P M mod x z := fun hx hz => g.mulT_eq hx hz
  have h := g.res
  have hinv : ∀ x, ElP P M ((Tbl.ops ⟨P, M, q, ex, logTo q ex (q - 1)⟩).inv x) := fun x => g.invT_el x
  refine ⟨⟨fun x z _ _ => fsum_el h x z, fun x z hx hz => ?_, fun x _ => fneg_el h x, fun x _ _ => hinv x⟩, zero_el h, one_el h, fun x z _ _ => fsum_comm h x z, fun x z u _ _ _ => fsum_assoc h x z u, fun x hx => fsum_id h hx, fun x _ => fsum_fneg h x, ?_, ?_, ?_, ?_, ?_⟩
  · rw [hmul hx hz]; exact mulS_el h x z
  · intro x z hx hz; rw [hmul hx hz, hmul hz hx, mulS_comm h]
  · intro x z u hx hz hu
    rw [hmul hx hz, hmul hz hu, hmul (mulS_el h x z) hu, hmul hx (mulS_el h z u), mulS_assoc h]
  · intro x hx; rw [hmul (one_el h) hx, mulS_one h hx]
  · intro x z u hx hz hu
    have hs : (Tbl.ops ⟨P, M, q, ex, logTo q ex (q - 1)⟩).add = fsum P M := rfl
    rw [hs, hmul hx (fsum_el h z u), hmul hx hz, hmul hx hu, mulS_add h]
  · intro x hx h0
    rw [hmul hx (hinv x)]
    exact g.invT_mul hx h0
end Gen

/-- what fieldB says -/
theorem fieldB_gen {P M : Int} {mod : List Int} (h : fieldB P M mod = true) : ∃ (m : Nat) (y : Int), M = m ∧ Res P m ∧ P ^ m ≤ 256 ∧ shapeB P m mod = true ∧ (orderS P m).toNat = P ^ m ∧ Gen P m mod (orderS P m).toNat y (genS P m mod (orderS P m).toNat) := by
  unfold fieldB at h
  rw [Bool.and_eq_true] at h
  obtain ⟨hs, hg⟩ := h
  have hs2 := hs
  simp only [shapeB, Bool.and_eq_true, bne_iff_ne, ne_eq] at hs2
  obtain ⟨b1, b2, b3, b4, b5, b6⟩ := orderS_ne hs2.1.1
  obtain ⟨m, rfl⟩ : ∃ m : Nat, M = m := ⟨M.toNat, by omega⟩
  rw [Int.toNat_natCast] at *
  have hres : Res P m := ⟨b1, by omega⟩
  have hq : ((orderS P m).toNat : Int) = P ^ m := by have := one_lt_pow hres; omega
  have hne : genS P m mod (orderS P m).toNat ≠ [] := by
    intro e; rw [e] at hg; simp at hg
  obtain ⟨y, hy1, hy2, hy3, hy4⟩ := genS_spec hne
  refine ⟨m, y, rfl, hres, b5, hs, hq, ?_⟩
  rw [hy4]
  exact Gen.of_isGen hres hq ⟨by omega, by omega⟩ hy3
theorem fieldB_fld {P M : Int} {mod : List Int} (h : fieldB P M mod = true) : Fld (tblOf P M.toNat mod).ops (tblOf P M.toNat mod).El := by
  obtain ⟨m, y, rfl, hr, _, _, hq, g⟩ := fieldB_gen h
  have e : (tblOf P ((m : Int).toNat) mod).El = ElP P m := by
    funext x; simp only [Tbl.El, tblOf, ElP, Int.toNat_natCast]; rw [hq]
  rw [e]
  exact g.fld
end

/- The walks of space.Check, code.gen, length, Check. -/
section
open Go.RowKit

set_option maxRecDepth 100000 in
set_option maxHeartbeats 1600000 in
theorem spaceCheck_any (P M : Int) (am : Option Addr) (mn cm : Nat) (mod : List Int) (cols : Int) (a : Option Addr) (n c : Nat) (L : List (List Int)) (w : World) (hmod : Ints w am mn mod) (hi : Mat w a n L) :
    Calls Tryz.prog 126 #[.agg #[.int .i64 P, .int .i64 M, .slice am mn cm], .agg #[.int .i64 cols, .slice a n c]] w fun e w' => e = .returned (.int .i64 (spaceE P M mod cols L)) ∧ Below w.heap.size w w' := by
  have Hal := Lib.hid (below2 w (.cells #[.int .i64 P, .int .i64 M, .slice am mn cm] 24) (.cells #[.int .i64 cols, .slice a n c] 73))
  go_enter Tryz.func126, Tryz.ntmps126
  go_wp2_with fail
  have hb := Hal.out
  generalize (w.alloc (.cells #[.int .i64 P, .int .i64 M, .slice am mn cm] 24)).alloc (.cells #[.int .i64 cols, .slice a n c] 73) = W at *
  refine (spaceOpen_any P M am mn cm mod cols a n c L W (hmod.keep hb) (hi.keep hb)).mono ?_
  rintro e w1 ⟨hb1, ⟨he, rfl⟩ | ⟨he, m, b, rfl, ap, cp, rfl, hG, hbl, hp⟩⟩
  · have hbw := Below.next hb hb1
    clear he
    go_wp2_with fail
    go_ret
    exact ⟨rfl, hbw.alloc hbw.size _⟩
  · have hbw := Below.next hb hb1
    have He := Lib.hid he
    clear he hp
    generalize (pivS (tblOf P M.toNat mod) L m).length = k at *
    go_wp2_with fail
    go_ret
    exact ⟨ret_int He.out.symm, hbw.alloc hbw.size _⟩

theorem gen_any (P M : Int) (am : Option Addr) (mn cm : Nat) (N : Int) (a : Option Addr) (n c : Nat) (w : World) :
    Calls Tryz.prog 95 #[.agg #[.int .i64 P, .int .i64 M, .slice am mn cm, .int .i64 N, .slice a n c]] w fun e w' => e = .returned (.agg #[.int .i64 N, .slice a n c]) ∧ Below w.heap.size w w' := by
  go_enter Tryz.func95, Tryz.ntmps95
  go_wp2_with fail
  exact bodyPost_ret (v := .agg #[.int .i64 N, .slice a n c]) (by simp [results, Tryz.results95, go_sem]) rfl ⟨rfl, below2 _ _ _⟩

def lenE (n : Int) : Int := if n < 1 ∨ 64 < n then 4 else 0
theorem length_any (n : Int) (w : World) : Calls Tryz.prog 100 #[.int .i64 n] w fun e w' => e = .returned (.int .i64 (lenE n)) ∧ w = w' := by
  by_cases h1 : n < 1
  · have Hf : Hid (lenE n = 4) := by show _ = _; rw [lenE, if_pos (.inl h1)]
    go_enter Tryz.func100, Tryz.ntmps100
    go_wp2
    go_ret
    exact ⟨ret_int Hf.out.symm, rfl⟩
  · have h1' : decide (n < 1) = false := by simpa using h1
    by_cases h2 : 64 < n
    · have Hf : Hid (lenE n = 4) := by show _ = _; rw [lenE, if_pos (.inr h2)]
      go_enter Tryz.func100, Tryz.ntmps100
      go_wp2
      go_ret
      exact ⟨ret_int Hf.out.symm, rfl⟩
    · have Hf : Hid (lenE n = 0) := by show _ = _; rw [lenE, if_neg (by omega)]
      have h2' : decide (64 < n) = false := by simpa using h2
      go_enter Tryz.func100, Tryz.ntmps100
      go_wp2
      go_ret
      exact ⟨ret_int Hf.out.symm, rfl⟩

def codeE (P M : Int) (mod : List Int) (N : Int) (L : List (List Int)) : Int :=
  if fieldB P M mod = true then (if lenE N = 0 then spaceE P M mod N L else 4) else 1

set_option maxRecDepth 100000 in
set_option maxHeartbeats 1600000 in
theorem codeCheck_any (P M : Int) (am : Option Addr) (mn cm : Nat) (mod : List Int) (N : Int) (a : Option Addr) (n c : Nat) (L : List (List Int)) (w : World) (hmod : Ints w am mn mod) (hi : Mat w a n L) :
    Calls Tryz.prog 76 #[.agg #[.int .i64 P, .int .i64 M, .slice am mn cm, .int .i64 N, .slice a n c]] w fun e w' => e = .returned (.int .i64 (codeE P M mod N L)) ∧ Below w.heap.size w w' := by
  go_enter Tryz.func76, Tryz.ntmps76
  go_wp2_with fail
  obtain ⟨W, hW⟩ : ∃ W : World, W = w.alloc (.cells #[.int .i64 P, .int .i64 M, .slice am mn cm, .int .i64 N, .slice a n c] 27) := ⟨_, rfl⟩
  rw [← hW]
  have hbW : Below w.heap.size w W := by rw [hW]; exact below1 _ _
  have x0 : Box W w.heap.size [.int .i64 P, .int .i64 M, .slice am mn cm, .int .i64 N, .slice a n c] := by rw [hW]; exact Box.new _ _ _ rfl
  have HX := Lib.hid x0
  clear hW x0
  refine (fieldCheck_any P M am mn cm mod W (hmod.keep hbW)).mono ?_
  rintro e w1 ⟨rfl, hb1⟩
  have hbw1 := Below.next hbW hb1
  by_cases hB : fieldB P M mod = true
  · have hE : errField (fieldB P M mod) = 0 := by rw [hB]; rfl
    rw [hE]
    have HB : Hid (codeE P M mod N L = if lenE N = 0 then spaceE P M mod N L else 4) := by show _ = _; rw [codeE, if_pos hB]
    have x1 := HX.out.keep hb1
    have c3 := x1.cell 3 rfl
    clear hE hB x1
    go_wp2_with fail
    refine (length_any N w1).mono ?_
    rintro e w2 ⟨rfl, rfl⟩
    by_cases hl : lenE N = 0
    · have HB2 : Hid (codeE P M mod N L = spaceE P M mod N L) := by show _ = _; rw [HB.out, if_pos hl]
      rw [hl]
      clear hl
      go_wp2_with fail
      have hS : ∀ V, Below w1.heap.size w1 V → V.cell? ⟨w.heap.size, 0, none⟩ = some (.int .i64 P) ∧ V.cell? ⟨w.heap.size, 1, none⟩ = some (.int .i64 M) ∧ V.cell? ⟨w.heap.size, 2, none⟩ = some (.slice am mn cm) ∧ V.cell? ⟨w.heap.size, 3, none⟩ = some (.int .i64 N) ∧ V.cell? ⟨w.heap.size, 4, none⟩ = some (.slice a n c) ∧ Ints V am mn mod ∧ Mat V a n L ∧ Below w1.heap.size w1 V := by
        intro V hV
        have x1 := (HX.out.keep hb1).keep hV
        exact ⟨x1.cell 0 rfl, x1.cell 1 rfl, x1.cell 2 rfl, x1.cell 3 rfl, x1.cell 4 rfl, ((hmod.keep hbW).keep hb1).keep hV, ((hi.keep hbW).keep hb1).keep hV, hV⟩
      have HS := Lib.hid hS
      clear hS c3
      go_region_held3 (fun V => V.cell? ⟨w.heap.size, 0, none⟩ = some (.int .i64 P) ∧ V.cell? ⟨w.heap.size, 1, none⟩ = some (.int .i64 M) ∧ V.cell? ⟨w.heap.size, 2, none⟩ = some (.slice am mn cm) ∧ V.cell? ⟨w.heap.size, 3, none⟩ = some (.int .i64 N) ∧ V.cell? ⟨w.heap.size, 4, none⟩ = some (.slice a n c) ∧ Ints V am mn mod ∧ Mat V a n L ∧ Below w1.heap.size w1 V)
        ((refine HS.out _ ?_; first | exact (Below.refl _ _).drew | (go_split_ands; exact Below.next (by assumption) (by assumption))))
        (first
          | (go_at_call 95; ((with_reducible refine (gen_any P M am mn cm N a n c _).mono ?_); rintro e w4 ⟨rfl, hb4⟩))
          | (go_at_call 126; ((with_reducible refine (spaceCheck_any P M am mn cm mod N a n c L _ (by go_split_ands; assumption) (by go_split_ands; assumption)).mono ?_); rintro e w5 ⟨rfl, hb5⟩)))
      go_wp2_with fail
      go_ret
      exact ⟨ret_int HB2.out.symm, Below.next hbw1 (by go_split_ands; assumption)⟩
    · have HB2 : Hid (codeE P M mod N L = 4) := by show _ = _; rw [HB.out, if_neg hl]
      have hl4 : lenE N = 4 := by unfold lenE at hl ⊢; split <;> simp_all
      rw [hl4]
      clear hl hl4
      go_wp2_with fail
      go_ret
      exact ⟨ret_int HB2.out.symm, hbw1⟩
  · have hE : errField (fieldB P M mod) = 1 := by have : fieldB P M mod = false := by simpa using hB
                                                  rw [this]; rfl
    rw [hE]
    have HB : Hid (codeE P M mod N L = 1) := by show _ = _; rw [codeE, if_neg hB]
    clear hE hB
    go_wp2_with fail
    go_ret
    exact ⟨ret_int HB.out.symm, hbw1⟩
end

/- The walks of infoset.open, sets, column, slices.IndexFunc. -/
section
open Go.RowKit

theorem codeE_zero {P M : Int} {mod : List Int} {N : Int} {L : List (List Int)} (h : codeE P M mod N L = 0) : fieldB P M mod = true ∧ 1 ≤ N ∧ N ≤ 64 ∧ spaceE P M mod N L = 0 := by
  unfold codeE at h
  split at h
  · rename_i h1
    split at h
    · rename_i h2
      unfold lenE at h2
      split at h2
      · omega
      · exact ⟨h1, by omega, by omega, h⟩
    · omega
  · omega
theorem spaceE_zero {P M : Int} {mod : List Int} {N : Int} {L : List (List Int)} (h : spaceE P M mod N L = 0) : fmatE P M mod N L = 0 ∧ canS (tblOf P M.toNat mod) L N.toNat = L := by
  unfold spaceE at h
  split at h
  · rename_i h1
    split at h
    · rename_i h2; exact ⟨h1, h2⟩
    · omega
  · rename_i h1; exact absurd h h1
theorem fmatE_zero {P M : Int} {mod : List Int} {N : Int} {L : List (List Int)} (h : fmatE P M mod N L = 0) : fieldB P M mod = true ∧ matE (tblOf P M.toNat mod).q N L = 0 := by
  unfold fmatE at h
  split at h
  · rename_i h1; exact ⟨h1, h⟩
  · omega

/-- a strictly ascending list of numbers from 0 to N - 1 -/
def okAt (N : Int) (l : List Int) (k : Nat) : Bool := decide (0 ≤ nth l k) && decide (nth l k < N) && (k == 0 || decide (nth l (k - 1) < nth l k))
def okTo (N : Int) (l : List Int) (k : Nat) : Bool := (List.range k).all (okAt N l)
def okSet (N : Int) (l : List Int) : Bool := okTo N l l.length
theorem okTo_succ {N : Int} {l : List Int} {k : Nat} (h : okTo N l k = true) (hk : okAt N l k = true) : okTo N l (k + 1) = true := by
  unfold okTo at *
  rw [List.range_succ, List.all_append, h]; simp [hk]
theorem okTo_no {N : Int} {l : List Int} {k n : Nat} (hk : k < n) (h : okAt N l k = false) : okTo N l n = false := by
  unfold okTo
  rw [List.all_eq_false]
  exact ⟨k, List.mem_range.2 hk, by simp [h]⟩
theorem okSet_at {N : Int} {l : List Int} (h : okSet N l = true) {k : Nat} (hk : k < l.length) : 0 ≤ nth l k ∧ nth l k < N ∧ (0 < k → nth l (k - 1) < nth l k) := by
  unfold okSet okTo at h
  rw [List.all_eq_true] at h
  have := h k (List.mem_range.2 hk)
  unfold okAt at this
  simp only [Bool.and_eq_true, Bool.or_eq_true, decide_eq_true_eq, beq_iff_eq] at this
  exact ⟨this.1.1, this.1.2, fun h0 => by rcases this.2 with h1 | h1; omega; exact h1⟩
end

/- The walks of infoset.column, slices.IndexFunc. -/
section
open Go.RowKit

/-- a column -/
def colS (L : List (List Int)) (i : Nat) : List Int := L.map fun r => nth r i
theorem colS_length (L : List (List Int)) (i : Nat) : (colS L i).length = L.length := by simp [colS]
theorem nth_colS (L : List (List Int)) (i k : Nat) (hk : k < L.length) : nth (colS L i) k = nth (nthR L k) i := by
  rw [nth_getElem (by rw [colS_length]; exact hk), nthR_getElem hk]; simp [colS]

/-- the first entry that is not 0, or the length -/
def fnz : List Int → Nat
  | [] => 0
  | x :: l => if x = 0 then fnz l + 1 else 0
theorem fnz_le : ∀ l, fnz l ≤ l.length
  | [] => Nat.le_refl _
  | x :: l => by have := fnz_le l; unfold fnz; split <;> simp <;> omega
theorem fnz_at : ∀ (l : List Int) (k : Nat), k < l.length → (∀ j, j < k → nth l j = 0) → nth l k ≠ 0 → fnz l = k
  | [], k, h, _, _ => by simp at h
  | x :: l, 0, _, _, h => by unfold fnz; rw [if_neg (by simpa [nth] using h)]
  | x :: l, k + 1, h, h0, h1 => by
    have hx : x = 0 := by simpa [nth] using h0 0 (by omega)
    unfold fnz
    rw [if_pos hx, fnz_at l k (by simpa using h) (fun j hj => by simpa [nth] using h0 (j + 1) (by omega)) (by simpa [nth] using h1)]
theorem fnz_none : ∀ (l : List Int), (∀ j, j < l.length → nth l j = 0) → fnz l = l.length
  | [], _ => rfl
  | x :: l, h => by
    have hx : x = 0 := by simpa [nth] using h 0 (by simp)
    unfold fnz
    rw [if_pos hx, fnz_none l (fun j hj => by simpa [nth] using h (j + 1) (by simpa using hj))]; rfl
theorem fnz_ne : ∀ (l : List Int), fnz l < l.length → nth l (fnz l) ≠ 0
  | [], h => by simp at h
  | x :: l, h => by
    unfold fnz at h ⊢
    split
    · rename_i hx
      rw [if_pos hx] at h
      have := fnz_ne l (by simpa using h)
      simpa [nth] using this
    · rename_i hx; simpa [nth] using hx
theorem fnz_zero : ∀ (l : List Int) (j : Nat), j < fnz l → nth l j = 0
  | [], j, h => by simp [fnz] at h
  | x :: l, j, h => by
    unfold fnz at h
    split at h
    · rename_i hx
      match j with
      | 0 => simpa [nth] using hx
      | j + 1 => have := fnz_zero l j (by omega); simpa [nth] using this
    · omega

def fnzV (l : List Int) : Int := if fnz l < l.length then fnz l else -1
end

/- A basis of vectors: what basis.add computes; where it lies. -/
section
open Go.RowKit

def subRow (O : FOps) (v : List Int) (x : Int) (r : List Int) : List Int := List.zipWith (fun p y => O.add p (O.neg (O.mul x y))) v r
theorem subRow_length (O : FOps) (v : List Int) (x : Int) (r : List Int) (h : r.length = v.length) : (subRow O v x r).length = v.length := by simp [subRow, h]
theorem nth_subRow (O : FOps) (v : List Int) (x : Int) (r : List Int) (i : Nat) (h : r.length = v.length) (hi : i < v.length) : nth (subRow O v x r) i = O.add (nth v i) (O.neg (O.mul x (nth r i))) := by
  rw [nth_getElem (show i < (subRow O v x r).length by rw [subRow_length _ _ _ _ h]; exact hi), nth_getElem (show i < r.length by omega), nth_getElem hi]
  simp [subRow]
/-- v, reduced by the first k vectors -/
def redStep (O : FOps) (u : List Int) (p : Int) (r : List Int) : List Int := if nth u p.toNat = 0 then u else subRow O u (nth u p.toNat) r
def redTo (O : FOps) (L : List (List Int)) (Q : List Int) (v : List Int) : Nat → List Int
  | 0 => v
  | k + 1 => redStep O (redTo O L Q v k) (nth Q k) (nthR L k)

structure BS where
  rows : List (List Int)
  place : List Int
def BS.red (O : FOps) (s : BS) (v : List Int) : List Int := redTo O s.rows s.place v s.rows.length
def BS.takes (O : FOps) (s : BS) (v : List Int) : Bool := decide (fnz (s.red O v) < (s.red O v).length)
def BS.next (O : FOps) (s : BS) (v : List Int) : BS :=
  if s.takes O v = true then ⟨s.rows ++ [(s.red O v).map (O.mul (O.inv (nth (s.red O v) (fnz (s.red O v)))))], s.place ++ [(fnz (s.red O v) : Int)]⟩ else s

/-- vectors of n elements, and as many places below n -/
structure BS.Ok (El : Int → Prop) (n : Nat) (s : BS) : Prop where
  rws : Rws El n s.rows
  len : s.place.length = s.rows.length
  plc : ∀ i, i < s.rows.length → 0 ≤ nth s.place i ∧ nth s.place i < n

theorem subRow_el {O : FOps} {El : Int → Prop} (hO : FCl O El) {v r : List Int} {x : Int} (hv : ∀ y ∈ v, El y) (hr : ∀ y ∈ r, El y) (hx : El x) : ∀ y ∈ subRow O v x r, El y := by
  intro y hy
  unfold subRow at hy
  rw [List.mem_iff_getElem] at hy
  obtain ⟨i, hi, rfl⟩ := hy
  rw [List.getElem_zipWith]
  exact hO.add _ _ (hv _ (List.getElem_mem _)) (hO.neg _ (hO.mul _ _ hx (hr _ (List.getElem_mem _))))
theorem redTo_el {O : FOps} {El : Int → Prop} (hO : FCl O El) {n : Nat} {L : List (List Int)} {Q v : List Int} (hL : Rws El n L) (hQ : ∀ i, i < L.length → 0 ≤ nth Q i ∧ nth Q i < n)
    (hv : v.length = n ∧ ∀ y ∈ v, El y) : ∀ k, k ≤ L.length → (redTo O L Q v k).length = n ∧ ∀ y ∈ redTo O L Q v k, El y
  | 0, _ => hv
  | k + 1, hk => by
    have ih := redTo_el hO hL hQ hv k (by omega)
    have hr := hL.row (i := k) (by omega)
    have hq := hQ k (by omega)
    rw [redTo, redStep]
    split
    · exact ih
    · exact ⟨by rw [subRow_length _ _ _ _ (by omega)]; exact ih.1, subRow_el hO ih.2 hr.2 (ih.2 _ (nth_mem (by omega)))⟩
theorem BS.Ok.next {O : FOps} {El : Int → Prop} (hO : FCl O El) {n : Nat} {s : BS} (h : s.Ok El n) {v : List Int} (hv : v.length = n ∧ ∀ y ∈ v, El y) : (s.next O v).Ok El n := by
  unfold BS.next
  split
  · rename_i ht
    have hu := redTo_el hO h.rws h.plc hv s.rows.length (Nat.le_refl _)
    have hf : fnz (s.red O v) < (s.red O v).length := by simpa [BS.takes] using ht
    have hne := fnz_ne _ hf
    have hul : (s.red O v).length = n := hu.1
    have hue : ∀ y ∈ s.red O v, El y := hu.2
    refine ⟨fun r hr => ?_, by simp [h.len], fun i hi => ?_⟩
    · rcases List.mem_append.1 hr with h1 | h1
      · exact h.rws r h1
      · rw [List.mem_singleton.1 h1]
        refine ⟨by rw [List.length_map]; exact hul, fun y hy => ?_⟩
        obtain ⟨z, hz, rfl⟩ := List.mem_map.1 hy
        exact hO.mul _ _ (hO.inv _ (hue _ (nth_mem hf)) hne) (hue z hz)
    · simp only [List.length_append, List.length_singleton] at hi
      by_cases h1 : i < s.rows.length
      · have := h.plc i h1
        have e : nth (s.place ++ [(fnz (s.red O v) : Int)]) i = nth s.place i := by
          simp only [nth, List.getD_eq_getElem?_getD]; rw [List.getElem?_append_left (by rw [h.len]; exact h1)]
        rw [e]; exact this
      · obtain rfl : i = s.rows.length := by omega
        have e : nth (s.place ++ [(fnz (s.red O v) : Int)]) s.rows.length = fnz (s.red O v) := by
          simp only [nth, List.getD_eq_getElem?_getD]; rw [← h.len]; simp
        rw [e]; omega
  · exact h

/-- a basis in memory, in blocks from B on -/
structure Bas (w : World) (B bb b : Nat) (ar : Option Addr) (cr : Nat) (R : List (Option Addr × Nat)) (ap : Option Addr) (cp : Nat) (s : BS) : Prop where
  bB : B ≤ bb
  c0 : w.cell? ⟨bb, 0, none⟩ = some (.pointer (some ⟨b, 0, none⟩))
  c1 : w.cell? ⟨bb, 1, none⟩ = some (.slice ar s.rows.length cr)
  c2 : w.cell? ⟨bb, 2, none⟩ = some (.slice ap s.rows.length cp)
  fr : ∀ i, w.frozen? ⟨bb, i, none⟩ = false
  om : OMat w B ar s.rows.length cr R s.rows
  pl : w.ownsRow B 3 1 (.slice ap s.rows.length cp) s.rows.length (s.place.map (Value.int .i64))
  d1 : ¬ OIn ar R bb
  d2 : Apt ap bb
  d3 : ap ≠ none → ¬ OIn ar R (ablk ap)

def BIn (bb : Nat) (ar : Option Addr) (R : List (Option Addr × Nat)) (ap : Option Addr) (x : Nat) : Prop := x = bb ∨ OIn ar R x ∨ (ap ≠ none ∧ x = ablk ap)

theorem own_of {w w' : World} {B : Nat} {e : TypeId} {a : Option Addr} {c n : Nat} {xs : List Value} (h : w.ownsRow B e 1 (.slice a n c) n xs) (hb : a ≠ none → w'.heap[ablk a]? = w.heap[ablk a]?) : w'.ownsRow B e 1 (.slice a n c) n xs := by
  by_cases ha : a = none
  · subst ha
    refine ⟨h.1, ?_⟩
    rcases h.2 with h2 | ⟨g, cap, cur, hv, _⟩
    · exact .inl h2
    · cases hv
  · exact own_block h (hb ha)

namespace Bas
variable {w w' : World} {B bb b : Nat} {ar : Option Addr} {cr : Nat} {R : List (Option Addr × Nat)} {ap : Option Addr} {cp : Nat} {s : BS}
theorem lt (h : Bas w B bb b ar cr R ap cp s) (x : Nat) (hx : BIn bb ar R ap x) : B ≤ x ∧ x < w.heap.size := by
  rcases hx with rfl | hx | ⟨h1, rfl⟩
  · exact ⟨h.bB, World.block_lt_of_cell? w _ h.c0⟩
  · exact h.om.lt x hx
  · exact own_ne h.pl h1
theorem of_blocks (h : Bas w B bb b ar cr R ap cp s) (hb : ∀ x, BIn bb ar R ap x → w'.heap[x]? = w.heap[x]?) : Bas w' B bb b ar cr R ap cp s := by
  have hbb := hb bb (.inl rfl)
  exact ⟨h.bB, (World.cell?_of_block (w := w) (a := ⟨bb, 0, none⟩) hbb).trans h.c0, (World.cell?_of_block (w := w) (a := ⟨bb, 1, none⟩) hbb).trans h.c1, (World.cell?_of_block (w := w) (a := ⟨bb, 2, none⟩) hbb).trans h.c2,
    fun i => (World.frozen?_of_block (w := w) (a := ⟨bb, i, none⟩) hbb).trans (h.fr i), h.om.of_blocks fun x hx => hb x (.inr (.inl hx)), own_of h.pl fun ha => hb _ (.inr (.inr ⟨ha, rfl⟩)), h.d1, h.d2, h.d3⟩
theorem keep (h : Bas w B bb b ar cr R ap cp s) (hb : Below w.heap.size w w') : Bas w' B bb b ar cr R ap cp s := h.of_blocks fun x hx => hb.block x (h.lt x hx).2
theorem only (h : Bas w B bb b ar cr R ap cp s) {av : Option Addr} (ho : Only av w w') (hav : av ≠ none → ¬ BIn bb ar R ap (ablk av)) : Bas w' B bb b ar cr R ap cp s :=
  h.of_blocks fun x hx => ho.block x (h.lt x hx).2 fun ⟨h1, h2⟩ => hav h1 (h2 ▸ hx)
end Bas

/-- a row is put behind an own matrix -/
theorem OMat.push {w w' : World} {B : Nat} {a : Option Addr} {n c : Nat} {R : List (Option Addr × Nat)} {L : List (List Int)} (h : OMat w B a n c R L) {r : Option Addr} {rc : Nat} {l : List Int}
    (hr : w.ownsRow B 3 1 (.slice r l.length rc) l.length (l.map (Value.int .i64))) (hra : r ≠ none → ¬ OIn a R (ablk r))
    {a' : Option Addr} {c' : Nat} (hown : w'.ownsRow B 22 1 (.slice a' (n + 1) c') (n + 1) (List.zipWith rowV R L ++ [.slice r l.length rc])) (hg : w.grownBy w' (Value.slice a n c).ownBlock)
    (hap : ∀ b, b < w.heap.size → Apt a b → Apt a' b) : OMat w' B a' (n + 1) c' (R ++ [(r, rc)]) (L ++ [l]) := by
  have hn' : a' ≠ none := by
    intro e
    have := (Pl.own hown)
    obtain ⟨x, y, hv, hp⟩ := this
    cases hv
    have := hp (by omega)
    rw [e] at this; cases this
  have nthL : ∀ i, nthR (L ++ [l]) i = if i < n then nthR L i else if i = n then l else [] := by
    intro i
    simp only [nthR, List.getD_eq_getElem?_getD]
    by_cases h1 : i < n
    · rw [if_pos h1, List.getElem?_append_left (by rw [h.ll]; exact h1)]
    · rw [if_neg h1]
      by_cases h2 : i = n
      · subst h2; rw [if_pos rfl, ← h.ll]; simp
      · rw [if_neg h2, List.getElem?_eq_none (by simp [h.ll]; omega)]; rfl
  have nthAA : ∀ i, nthA (R ++ [(r, rc)]) i = if i < n then nthA R i else if i = n then (r, rc) else (none, 0) := by
    intro i
    simp only [nthA, List.getD_eq_getElem?_getD]
    by_cases h1 : i < n
    · rw [if_pos h1, List.getElem?_append_left (by rw [h.rl]; exact h1)]
    · rw [if_neg h1]
      by_cases h2 : i = n
      · subst h2; rw [if_pos rfl, ← h.rl]; simp
      · rw [if_neg h2, List.getElem?_eq_none (by simp [h.rl]; omega)]; rfl
  have rowKeep : ∀ {x : Option Addr} {cx m : Nat} {xs : List Value}, w.ownsRow B 3 1 (.slice x m cx) m xs → (x ≠ none → Apt a (ablk x)) → w'.ownsRow B 3 1 (.slice x m cx) m xs := by
    intro x cx m xs ho h2
    exact own_of ho fun hx => hg.block _ (own_ne ho hx).2 fun e => (h2 hx).own n c e.symm
  have rA : r ≠ none → Apt a (ablk r) := fun hr0 => by
    by_cases ha : a = none
    · exact .inl ha
    · exact .inr fun e => hra hr0 (.inl ⟨ha, e.symm⟩)
  have oA : ∀ i, i < n → (nthA R i).1 ≠ none → Apt a (ablk (nthA R i).1) := fun i hi hx => by
    rcases h.apt i hi with h2 | h2
    · exact absurd h2 hx
    · exact .inr fun e => h2 e.symm
  have toA : ∀ {x : Option Addr} {cx m : Nat} {xs : List Value}, w.ownsRow B 3 1 (.slice x m cx) m xs → (x ≠ none → Apt a (ablk x)) → Apt x (ablk a') := by
    intro x cx m xs ho h2
    by_cases hx : x = none
    · exact .inl hx
    · rcases hap _ (own_ne ho hx).2 (h2 hx) with h3 | h3
      · exact absurd h3 hn'
      · exact .inr fun e => h3 e.symm
  have ezip : List.zipWith rowV (R ++ [(r, rc)]) (L ++ [l]) = List.zipWith rowV R L ++ [.slice r l.length rc] := by
    rw [List.zipWith_append (by rw [h.rl, h.ll])]; rfl
  refine ⟨by simp [h.rl], by simp [h.ll], by rw [ezip]; exact hown, fun i hi => ?_, fun i hi => ?_, fun i j hi hj hij => ?_⟩
  · rw [nthL, nthAA]
    by_cases h1 : i < n
    · simp only [if_pos h1]
      exact rowKeep (h.row i h1) (oA i h1)
    · obtain rfl : i = n := by omega
      simp only [if_neg h1, if_true]
      exact rowKeep hr rA
  · rw [nthAA]
    by_cases h1 : i < n
    · simp only [if_pos h1]
      exact toA (h.row i h1) (oA i h1)
    · obtain rfl : i = n := by omega
      simp only [if_neg h1, if_true]
      exact toA hr rA
  · rw [nthAA, nthAA]
    by_cases h1 : i < n
    · by_cases h2 : j < n
      · simp only [if_pos h1, if_pos h2]; exact h.sep i j h1 h2 hij
      · obtain rfl : j = n := by omega
        simp only [if_pos h1, if_neg h2, if_true]
        by_cases hr0 : r = none
        · exact .inr (.inl hr0)
        · by_cases hx : (nthA R i).1 = none
          · exact .inl hx
          · exact .inr (.inr fun e => hra hr0 (by rw [e]; exact OMat.inRow (by rw [h.rl]; exact h1) hx))
    · obtain rfl : i = n := by omega
      have h2 : j < i := by omega
      simp only [if_neg h1, if_pos h2, if_true]
      by_cases hr0 : r = none
      · exact .inl hr0
      · by_cases hx : (nthA R j).1 = none
        · exact .inr (.inl hx)
        · exact .inr (.inr fun e => hra hr0 (by rw [← e]; exact OMat.inRow (by rw [h.rl]; exact h2) hx))

/-- where the blocks of the longer matrix lie -/
theorem OIn.push {w : World} {B : Nat} {a : Option Addr} {n c : Nat} {R : List (Option Addr × Nat)} {L : List (List Int)} (h : OMat w B a n c R L) {r : Option Addr} {rc : Nat} {a' : Option Addr}
    (hap : ∀ b, b < w.heap.size → Apt a b → Apt a' b) {x : Nat} (hx : OIn a' (R ++ [(r, rc)]) x) : OIn a R x ∨ (r ≠ none ∧ x = ablk r) ∨ w.heap.size ≤ x := by
  rcases hx with ⟨h1, rfl⟩ | ⟨i, hi, h1, rfl⟩
  · by_cases hlt : ablk a' < w.heap.size
    · by_cases h2 : Apt a (ablk a')
      · rcases hap _ hlt h2 with h3 | h3
        · exact absurd h3 h1
        · exact absurd rfl h3
      · left; left
        refine ⟨fun e => h2 (.inl e), ?_⟩
        apply Classical.byContradiction
        intro e
        exact h2 (.inr fun e2 => e e2.symm)
    · exact .inr (.inr (by omega))
  · simp only [List.length_append, List.length_singleton] at hi
    by_cases h2 : i < R.length
    · have e : nthA (R ++ [(r, rc)]) i = nthA R i := by simp only [nthA, List.getD_eq_getElem?_getD]; rw [List.getElem?_append_left h2]
      rw [e] at h1 ⊢
      exact .inl (OMat.inRow h2 h1)
    · obtain rfl : i = R.length := by omega
      have e : nthA (R ++ [(r, rc)]) R.length = (r, rc) := by simp [nthA]
      rw [e] at h1 ⊢
      exact .inr (.inl ⟨h1, rfl⟩)

namespace Bas
variable {V w4 w5 X w6 : World} {B bb b : Nat} {ar : Option Addr} {cr : Nat} {R : List (Option Addr × Nat)} {ap : Option Addr} {cp : Nat} {s : BS}
/-- a row is put behind the rows -/
theorem push16 {a4 a5 : Option Addr} {c4 c5 k : Nat} {N : List Int} {o : Obj} (h : Bas V B bb b ar cr R ap cp s) (hk : s.rows.length = k) (hVB : B ≤ V.heap.size) (hb4 : Below V.heap.size V w4)
    (hown4 : w4.ownsRow V.heap.size 3 1 (.slice a4 N.length c4) N.length (N.map (Value.int .i64)))
    (hown5 : w5.ownsRow B 22 1 (.slice a5 (k + 1) c5) (k + 1) (List.zipWith rowV R s.rows ++ [.slice a4 N.length c4])) (hgr5 : (w4.alloc o).grownBy w5 (Value.slice ar k cr).ownBlock)
    (hap5 : ∀ x, x < (w4.alloc o).heap.size → Apt ar x → Apt a5 x) (p1 : ∃ v, w5.cell? ⟨bb, 1, none⟩ = some v) :
    ∃ ar' cr' R', (w5.setCell ⟨bb, 1, none⟩ (.slice a5 (k + 1) c5)).cell? ⟨bb, 1, none⟩ = some (.slice ar' (k + 1) cr') ∧ OMat (w5.setCell ⟨bb, 1, none⟩ (.slice a5 (k + 1) c5)) B ar' (k + 1) cr' R' (s.rows ++ [N]) ∧
      Moves V (w5.setCell ⟨bb, 1, none⟩ (.slice a5 (k + 1) c5)) (fun x => x = bb ∨ OIn ar R x) (fun x => x = bb ∨ OIn ar' R' x) ∧ ¬ OIn ar' R' bb ∧
      (∀ i v, i ≠ 1 → V.cell? ⟨bb, i, none⟩ = some v → (w5.setCell ⟨bb, 1, none⟩ (.slice a5 (k + 1) c5)).cell? ⟨bb, i, none⟩ = some v) ∧ ∀ i, (w5.setCell ⟨bb, 1, none⟩ (.slice a5 (k + 1) c5)).frozen? ⟨bb, i, none⟩ = false := by
  have hbo : Below V.heap.size V (w4.alloc o) := Below.next hb4 (below1 _ _)
  have hO4 := h.om.keep hbo
  rw [hk] at hO4
  have hr : (w4.alloc o).ownsRow B 3 1 (.slice a4 N.length c4) N.length (N.map (Value.int .i64)) := own_mono (own_keep hown4 (below1 _ _)) hVB
  have hra : a4 ≠ none → ¬ OIn ar R (ablk a4) := fun h0 hI => by
    have h1 := (own_ne hown4 h0).1
    have h2 := (h.om.lt _ hI).2
    omega
  have hP := OMat.push hO4 hr hra hown5 hgr5 hap5
  have hbb := h.lt bb (.inl rfl)
  have haptb : Apt ar bb := by
    by_cases ha : ar = none
    · exact .inl ha
    · exact .inr fun e => h.d1 (.inl ⟨ha, e.symm⟩)
  have hsz := hbo.size
  have hpush := fun {x : Nat} (hx : OIn a5 (R ++ [(a4, c4)]) x) => OIn.push hO4 hap5 hx
  have hd : ¬ OIn a5 (R ++ [(a4, c4)]) bb := fun hI => by
    rcases hpush hI with h1 | ⟨h1, h2⟩ | h1
    · exact h.d1 h1
    · have := (own_ne hown4 h1).1; omega
    · omega
  obtain ⟨v, p1⟩ := p1
  refine ⟨a5, c5, R ++ [(a4, c4)], World.cell?_setCell_same _ _ _ p1, hP.of_blocks fun x hx => Below.heap_setCell _ _ _ _ fun e => hd (by rw [show bb = x from e.symm]; exact hx), ?_, hd, fun i v hi hv => ?_, fun i => ?_⟩
  rotate_left
  · rw [World.cell?_setCell_other _ _ _ _ (by simp <;> omega)]
    exact cell_grownApt hgr5 (cell_keep hbo hv) haptb
  · rw [World.frozen?_setCell]
    exact (World.frozen?_of_block (w := w4.alloc o) (a := ⟨bb, i, none⟩) (hgr5.block bb (by omega) fun e => haptb.own k cr e.symm)).trans (frozen_keep hbo hbb.2 (h.fr i))
  have hb0 : Below 0 w5 (w5.setCell ⟨bb, 1, none⟩ (.slice a5 (k + 1) c5)) := (Below.refl 0 w5).setCell (Nat.zero_le _) _
  refine ⟨hb0.os.trans (hgr5.os.trans hbo.os), hb0.tape.trans (hgr5.tape.trans hbo.tape), hb0.output.trans (hgr5.output.trans hbo.output), Nat.le_trans hbo.size (Nat.le_trans hgr5.size hb0.size), fun x hx hI => ?_, fun x hx => ?_⟩
  · rw [Below.heap_setCell _ _ _ _ fun e => hI (.inl e)]
    rw [hgr5.block x (by omega) fun e => ?_]
    · exact hbo.block x hx
    · apply hI
      right; left
      cases ar with
      | none => simp [Value.ownBlock] at e
      | some y => simp [Value.ownBlock] at e; exact ⟨by simp, by rw [e]; rfl⟩
  · rcases hx with rfl | hx
    · exact .inl (.inl rfl)
    · rcases hpush hx with h1 | ⟨h1, h2⟩ | h1
      · exact .inl (.inr h1)
      · exact .inr (by have := (own_ne hown4 h1).1; omega)
      · exact .inr (by omega)

/-- a place is put behind the places -/
theorem push17 {a6 : Option Addr} {c6 k : Nat} {f : Int} {L : List (List Int)} {Q : List Int} {o : Obj} (hB : B ≤ bb) (x0 : X.cell? ⟨bb, 0, none⟩ = some (.pointer (some ⟨b, 0, none⟩))) (x1 : X.cell? ⟨bb, 1, none⟩ = some (.slice ar (k + 1) cr))
    (x2 : ∃ v, X.cell? ⟨bb, 2, none⟩ = some v)
    (xf : ∀ i, X.frozen? ⟨bb, i, none⟩ = false) (hO : OMat X B ar (k + 1) cr R L) (hp : X.ownsRow B 3 1 (.slice ap k cp) k (Q.map (Value.int .i64))) (d1 : ¬ OIn ar R bb) (d2 : Apt ap bb) (d3 : ap ≠ none → ¬ OIn ar R (ablk ap))
    (hown6 : w6.ownsRow B 3 1 (.slice a6 (k + 1) c6) (k + 1) (Q.map (Value.int .i64) ++ [.int .i64 f])) (hgr6 : (X.alloc o).grownBy w6 (Value.slice ap k cp).ownBlock)
    (hap6 : ∀ x, x < (X.alloc o).heap.size → Apt ap x → Apt a6 x) :
    Bas (w6.setCell ⟨bb, 2, none⟩ (.slice a6 (k + 1) c6)) B bb b ar cr R a6 c6 ⟨L, Q ++ [f]⟩ ∧
      Moves X (w6.setCell ⟨bb, 2, none⟩ (.slice a6 (k + 1) c6)) (BIn bb ar R ap) (BIn bb ar R a6) := by
  have hbb : bb < X.heap.size := World.block_lt_of_cell? X _ x0
  have hbo : Below X.heap.size X (X.alloc o) := below1 _ _
  have hsz := hbo.size
  have hne : a6 ≠ none := fun e => by
    obtain ⟨y, z, hv, hp⟩ := Pl.own hown6
    cases hv
    have := hp (by omega)
    rw [e] at this; cases this
  have aptOf : ∀ {x : Nat}, Apt ap x → x < X.heap.size → x ≠ ablk a6 := fun h2 hx e => by
    rcases hap6 _ (by omega) h2 with h3 | h3
    · exact hne h3
    · exact h3 e.symm
  have hbb6 := aptOf d2 hbb
  have blk : ∀ x, x < X.heap.size → x ≠ bb → Apt ap x → (w6.setCell ⟨bb, 2, none⟩ (.slice a6 (k + 1) c6)).heap[x]? = X.heap[x]? := fun x hx h1 h2 => by
    rw [Below.heap_setCell _ _ _ _ h1, hgr6.block x (by omega) fun e => h2.own k cp e.symm]
    exact hbo.block x hx
  have aptO : ∀ x, OIn ar R x → Apt ap x := fun x hx => by
    by_cases h0 : ap = none
    · exact .inl h0
    · exact .inr fun e => d3 h0 (e ▸ hx)
  have c6k : ∀ i v, X.cell? ⟨bb, i, none⟩ = some v → w6.cell? ⟨bb, i, none⟩ = some v := fun i v hv => cell_grownApt hgr6 (cell_box hv _) d2
  have hLl : L.length = k + 1 := hO.ll
  have hQl : Q.length = k := by simpa using own_len hp
  have hO6 : OMat (w6.setCell ⟨bb, 2, none⟩ (.slice a6 (k + 1) c6)) B ar (k + 1) cr R L := hO.of_blocks fun x hx => blk x (hO.lt x hx).2 (fun e => d1 (e ▸ hx)) (aptO x hx)
  obtain ⟨v2, x2⟩ := x2
  refine ⟨⟨hB, ?_, ?_, ?_, fun i => ?_, ?_, ?_, d1, .inr fun e => hbb6 e.symm, fun _ hI => ?_⟩, ?_⟩
  · rw [World.cell?_setCell_other _ _ _ _ (by simp)]; exact c6k _ _ x0
  · rw [World.cell?_setCell_other _ _ _ _ (by simp)]; simpa [hLl] using c6k _ _ x1
  · simp only [hLl]; exact World.cell?_setCell_same _ _ _ (c6k _ _ x2)
  · rw [World.frozen?_setCell]
    exact (World.frozen?_of_block (w := X.alloc o) (a := ⟨bb, i, none⟩) (hgr6.block bb (by omega) fun e => d2.own k cp e.symm)).trans (frozen_box hbb (xf i) _)
  · simp only [hLl]; exact hO6
  · simp only [hLl]
    have := own_setOther hown6 (p := ⟨bb, 2, none⟩) (.slice a6 (k + 1) c6) (.inr fun e => hbb6 e.symm)
    simpa using this
  · exact aptOf (aptO _ hI) (hO.lt _ hI).2 rfl
  · have hb0 : Below 0 w6 (w6.setCell ⟨bb, 2, none⟩ (.slice a6 (k + 1) c6)) := (Below.refl 0 w6).setCell (Nat.zero_le _) _
    refine ⟨hb0.os.trans (hgr6.os.trans hbo.os), hb0.tape.trans (hgr6.tape.trans hbo.tape), hb0.output.trans (hgr6.output.trans hbo.output), Nat.le_trans hbo.size (Nat.le_trans hgr6.size hb0.size), fun x hx hI => ?_, fun x hx => ?_⟩
    · refine blk x hx (fun e => hI (.inl e)) ?_
      by_cases h0 : ap = none
      · exact .inl h0
      · exact .inr fun e => hI (.inr (.inr ⟨h0, e.symm⟩))
    · rcases hx with rfl | hx | ⟨h1, rfl⟩
      · exact .inl (.inl rfl)
      · exact .inl (.inr (.inl hx))
      · by_cases hlt : ablk a6 < X.heap.size
        · left; right; right
          apply Classical.byContradiction
          intro hn
          have hA : Apt ap (ablk a6) := by
            by_cases h0 : ap = none
            · exact .inl h0
            · exact .inr fun e => hn ⟨h0, e.symm⟩
          exact aptOf hA hlt rfl
        · exact .inr (by omega)
end Bas
end

/- The walk of basis.add. -/
section
open Go.RowKit

def BaddPost (w0 : World) (bb b : Nat) (ar : Option Addr) (R : List (Option Addr × Nat)) (ap av : Option Addr) (O : FOps) (s : BS) (v : List Int) (w : World) (e : Ending) (w' : World) : Prop :=
  ∃ ar' cr' R' ap' cp', e = .returned (.bool (s.takes O v)) ∧ Bas w' w0.heap.size bb b ar' cr' R' ap' cp' (s.next O v) ∧
    Moves w w' (fun x => BIn bb ar R ap x ∨ (av ≠ none ∧ x = ablk av)) (BIn bb ar' R' ap')
end

/- The walk of infoset.greedy. -/
section
open Go.RowKit

/-- the vectors and the positions behind k positions of the order -/
def grTo (O : FOps) (L : List (List Int)) (Q : List Int) : Nat → BS × List Int
  | 0 => (⟨[], []⟩, [])
  | k + 1 => ((grTo O L Q k).1.next O (colS L (nth Q k).toNat), if (grTo O L Q k).1.takes O (colS L (nth Q k).toNat) = true then (grTo O L Q k).2 ++ [nth Q k] else (grTo O L Q k).2)
def grS (O : FOps) (L : List (List Int)) (Q : List Int) : List Int := (grTo O L Q Q.length).2

theorem BS.next_len (O : FOps) (s : BS) (v : List Int) : (s.next O v).rows.length ≤ s.rows.length + 1 := by
  unfold BS.next; split <;> simp

theorem OMat.empty (w : World) (B : Nat) : OMat w B none 0 0 [] [] :=
  ⟨rfl, rfl, own_none, fun i hi => by omega, fun i hi => by omega, fun i j hi => by omega⟩
theorem Bas.start {w : World} {B bb b : Nat} (hB : B ≤ bb) (h : Box w bb [.pointer (some ⟨b, 0, none⟩), .slice none 0 0, .slice none 0 0]) : Bas w B bb b none 0 [] none 0 ⟨[], []⟩ :=
  ⟨hB, h.cell 0 rfl, h.cell 1 rfl, h.cell 2 rfl, fun i => h.frozen i, OMat.empty w B, own_none, fun hI => by
    rcases hI with ⟨h1, _⟩ | ⟨i, hi, _⟩
    · exact h1 rfl
    · simp at hi, .inl rfl, fun h1 => absurd rfl h1⟩

theorem colS_el {El : Int → Prop} {m : Nat} {L : List (List Int)} (h : Rws El m L) {i : Nat} (hi : i < m) : (colS L i).length = L.length ∧ ∀ y ∈ colS L i, El y := by
  refine ⟨colS_length _ _, fun y hy => ?_⟩
  unfold colS at hy
  obtain ⟨r, hr, rfl⟩ := List.mem_map.1 hy
  exact (h r hr).2 _ (nth_mem (by rw [(h r hr).1]; exact hi))
end

end Go.Proofs.YtcflcogbpnmjeaaGreat
