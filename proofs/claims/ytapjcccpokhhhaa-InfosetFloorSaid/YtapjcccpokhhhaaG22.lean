/- The walk of codewrightref25.SameSteps, at equal lists. -/
import Derived.Test.YtapjcccpokhhhaaG21
import Derived.Test.YtapjcccpokhhhaaG20
import Derived.Test.YtapjcccpokhhhaaG16
import Derived.Test.YtapjcccpokhhhaaG17
import Derived.Test.YtapjcccpokhhhaaG18
namespace Go.Proofs.Ytapjcccpokhhhaa
set_option linter.unusedVariables false
set_option linter.unusedSimpArgs false
set_option linter.unusedSectionVars false

/- The family of a code (plain law): the rounds. -/
section
/-- the positions below k that are used (b) or not -/
def frTo (b : Bool) (U : List Int) : Nat → List Int
  | 0 => []
  | k + 1 => if decide ((k : Int) ∈ U) = b then frTo b U k ++ [(k : Int)] else frTo b U k
theorem mem_frTo {b : Bool} {U : List Int} {x : Int} : ∀ k, x ∈ frTo b U k ↔ ∃ j : Nat, j < k ∧ x = j ∧ decide ((j : Int) ∈ U) = b
  | 0 => by simp [frTo]
  | k + 1 => by
    rw [frTo]
    by_cases h : decide ((k : Int) ∈ U) = b
    · rw [if_pos h, List.mem_append, mem_frTo k, List.mem_singleton]
      constructor
      · rintro (⟨j, hj, e, hb⟩ | e)
        · exact ⟨j, by omega, e, hb⟩
        · exact ⟨k, by omega, e, h⟩
      · rintro ⟨j, hj, e, hb⟩
        by_cases ejk : j = k
        · subst ejk; exact .inr e
        · exact .inl ⟨j, by omega, e, hb⟩
    · rw [if_neg h, mem_frTo k]
      constructor
      · rintro ⟨j, hj, e, hb⟩; exact ⟨j, by omega, e, hb⟩
      · rintro ⟨j, hj, e, hb⟩
        by_cases ejk : j = k
        · subst ejk; exact absurd hb h
        · exact ⟨j, by omega, e, hb⟩
theorem frTo_len (b : Bool) (U : List Int) : ∀ k, (frTo b U k).length ≤ k
  | 0 => Nat.le_refl _
  | k + 1 => by
    have := frTo_len b U k
    rw [frTo]; split <;> simp <;> omega
theorem frTo_two (U : List Int) : ∀ k, (frTo false U k).length + (frTo true U k).length = k
  | 0 => rfl
  | k + 1 => by
    have := frTo_two U k
    rw [frTo, frTo]
    by_cases h : (k : Int) ∈ U
    · simp [h]; omega
    · simp [h]; omega
/-- the order of a round -/
def ordF (m : Nat) (U : List Int) : List Int := frTo false U m ++ frTo true U m
theorem ordF_len (m : Nat) (U : List Int) : (ordF m U).length = m := by rw [ordF, List.length_append, frTo_two]
theorem mem_ordF {m : Nat} {U : List Int} {x : Int} : x ∈ ordF m U ↔ ∃ j : Nat, j < m ∧ x = j := by
  rw [ordF, List.mem_append, mem_frTo, mem_frTo]
  constructor
  · rintro (⟨j, hj, e, _⟩ | ⟨j, hj, e, _⟩) <;> exact ⟨j, hj, e⟩
  · rintro ⟨j, hj, e⟩
    by_cases h : (j : Int) ∈ U
    · exact .inr ⟨j, hj, e, by simpa using h⟩
    · exact .inl ⟨j, hj, e, by simpa using h⟩
theorem ordF_in (m : Nat) (U : List Int) : InN m (ordF m U) := fun j hj => by
  obtain ⟨i, hi, e⟩ := mem_ordF.1 (nth_mem hj)
  omega
/-- how many of the first k are new -/
def newF (U S : List Int) : Nat → Int
  | 0 => 0
  | k + 1 => if nth S k ∈ U then newF U S k else newF U S k + 1
theorem newF_bd (U S : List Int) : ∀ k, 0 ≤ newF U S k ∧ newF U S k ≤ k
  | 0 => by simp [newF]
  | k + 1 => by
    have := newF_bd U S k
    rw [newF]; split <;> omega
theorem newF_new {U S : List Int} : ∀ k, k ≤ S.length → newF U S k ≠ 0 → ∃ x ∈ S, ¬ x ∈ U
  | 0, _, h => absurd rfl h
  | k + 1, hk, h => by
    rw [newF] at h
    split at h
    · exact newF_new k (by omega) h
    · rename_i h1; exact ⟨_, nth_mem (by omega), h1⟩
/-- the choice of a round -/
def choF (O : FOps) (L : List (List Int)) (m : Nat) (U : List Int) : List Int := grS O L (ordF m U)
def famGo (O : FOps) (L : List (List Int)) (m : Nat) : Nat → List Int → List (List Int × Int) → List (List Int × Int)
  | 0, _, T => T
  | f + 1, U, T => if newF U (choF O L m U) (choF O L m U).length = 0 then T else famGo O L m f (U ++ sortL (choF O L m U)) (T ++ [(sortL (choF O L m U), newF U (choF O L m U) (choF O L m U).length)])
def famL (O : FOps) (L : List (List Int)) (m : Nat) : List (List Int × Int) := famGo O L m (m + 1) [] []
theorem frTo_mono {U V : List Int} (h : ∀ x ∈ U, x ∈ V) : ∀ k, (frTo false V k).length ≤ (frTo false U k).length
  | 0 => Nat.le_refl _
  | k + 1 => by
    have ih := frTo_mono h k
    rw [frTo, frTo]
    by_cases h1 : (k : Int) ∈ U
    · simp [h1, h _ h1]; exact ih
    · by_cases h2 : (k : Int) ∈ V
      · simp [h1, h2]; omega
      · simp [h1, h2]; exact ih
theorem frTo_less {U V : List Int} (h : ∀ x ∈ U, x ∈ V) {x : Nat} (hx : ¬ (x : Int) ∈ U) (hv : (x : Int) ∈ V) : ∀ k, x < k → (frTo false V k).length < (frTo false U k).length
  | 0, hk => by omega
  | k + 1, hk => by
    by_cases e : x = k
    · subst e
      have ih := frTo_mono h x
      rw [frTo, frTo]
      simp [hx, hv]; omega
    · have ih := frTo_less h hx hv k (by omega)
      rw [frTo, frTo]
      by_cases h1 : (k : Int) ∈ U
      · simp [h1, h _ h1]; exact ih
      · by_cases h2 : (k : Int) ∈ V
        · simp [h1, h2]; omega
        · simp [h1, h2]; exact ih
theorem grTo_sub (O : FOps) (L : List (List Int)) (Q : List Int) : ∀ k, k ≤ Q.length → ∀ x ∈ (grTo O L Q k).2, x ∈ Q
  | 0, _, x, hx => by simp [grTo] at hx
  | k + 1, hk, x, hx => by
    rw [grTo] at hx
    split at hx
    · rcases List.mem_append.1 hx with hx | hx
      · exact grTo_sub O L Q k (by omega) x hx
      · rw [List.mem_singleton] at hx; rw [hx]; exact nth_mem (by omega)
    · exact grTo_sub O L Q k (by omega) x hx
theorem choF_in {O : FOps} {L : List (List Int)} {m : Nat} {U : List Int} {x : Int} (hx : x ∈ choF O L m U) : ∃ j : Nat, j < m ∧ x = j := mem_ordF.1 (grTo_sub O L (ordF m U) _ (Nat.le_refl _) x hx)
theorem fam_less {O : FOps} {L : List (List Int)} {m : Nat} {U : List Int} (h : newF U (choF O L m U) (choF O L m U).length ≠ 0) : (frTo false (U ++ sortL (choF O L m U)) m).length < (frTo false U m).length := by
  obtain ⟨x, hx, hn⟩ := newF_new _ (Nat.le_refl _) h
  obtain ⟨j, hj, rfl⟩ := choF_in hx
  exact frTo_less (fun y hy => List.mem_append.2 (.inl hy)) hn (List.mem_append.2 (.inr ((sortL_perm _).mem_iff.2 hx))) m hj
end

/- The walk of infoset.Greedy. -/
section
open Go.RowKit

/-- the error of a code and an order -/
def greE (P M : Int) (mod : List Int) (N : Int) (L : List (List Int)) (Q : List Int) : Int := rankE P M mod N L (sortL Q)
theorem okSet_mem {N : Int} {l : List Int} (h : okSet N (sortL l) = true) : ∀ k, k < l.length → 0 ≤ nth l k ∧ nth l k < N := fun k hk => by
  have h1 : nth l k ∈ sortL l := (sortL_perm l).mem_iff.2 (nth_mem hk)
  obtain ⟨j, hj, e⟩ := List.mem_iff_getElem.1 h1
  have h2 := okSet_at h hj
  rw [nth_getElem hj, e] at h2
  exact ⟨h2.1, h2.2.1⟩

theorem valuesB_any (a : Option Addr) (len cap : Nat) (w : World) :
    Calls Try.prog 20 #[.slice a len cap] w fun e w' => ∃ B, e = .returned (.func (.func 34) #[] #[.pointer (some ⟨B, 0, none⟩)]) ∧ B < w'.heap.size ∧ w'.cell? ⟨B, 0, none⟩ = some (.slice a len cap) ∧ Below w.heap.size w w' := by
  refine (values_any a len cap w).mono ?_
  rintro e w' ⟨rfl, rfl⟩
  exact ⟨w.heap.size, rfl, by simp, cell_alloc_at _ _ _ rfl 0, below1 _ _⟩
theorem mat_one {a : Option Addr} {n c : Nat} {l : List Int} (w : World) (h : Ints w a n l) : Mat (w.alloc (.cells #[.slice a n c] 22)) (some ⟨w.heap.size, 0, none⟩) 1 [l] :=
  ⟨rfl, fun _ => rfl, by unfold maxLen; omega, fun i hi => by
    obtain rfl : i = 0 := by omega
    exact ⟨a, n, c, cell_new' _ _ _ rfl, h.keep (below1 _ _)⟩⟩

def GrePost (P M : Int) (mod : List Int) (N : Int) (L : List (List Int)) (Q : List Int) (w : World) (e : Ending) (w' : World) : Prop :=
  Below w.heap.size w w' ∧ ((greE P M mod N L Q ≠ 0 ∧ e = .returned (.tuple #[.slice none 0 0, .int .i64 (greE P M mod N L Q)])) ∨
    (greE P M mod N L Q = 0 ∧ ∃ a c, e = .returned (.tuple #[.slice a (grS (tblOf P M.toNat mod).ops L Q).length c, .int .i64 0]) ∧
      w'.ownsRow w.heap.size 3 1 (.slice a (grS (tblOf P M.toNat mod).ops L Q).length c) (grS (tblOf P M.toNat mod).ops L Q).length ((sortL (grS (tblOf P M.toNat mod).ops L Q)).map (Value.int .i64))))

set_option maxRecDepth 100000 in
set_option maxHeartbeats 4000000 in
theorem infGreedy_any (P M : Int) (am : Option Addr) (mn cm : Nat) (mod : List Int) (N : Int) (a : Option Addr) (n c : Nat) (L : List (List Int)) (ao : Option Addr) (no co : Nat) (Q : List Int) (w : World)
    (hmod : Ints w am mn mod) (hi : Mat w a n L) (hq : Ints w ao no Q) (hno : no ≤ 1000000) :
    Calls Try.prog 9 #[.agg #[.int .i64 P, .int .i64 M, .slice am mn cm, .int .i64 N, .slice a n c], .slice ao no co] w (GrePost P M mod N L Q w) := by
  have Hql := Lib.hid hq.len
  have Hil := Lib.hid hi.len
  go_enter Try.func9, Try.ntmps9
  go_wp2_with fail
  obtain ⟨W, hW⟩ : ∃ W : World, W = w.alloc (.cells #[.int .i64 P, .int .i64 M, .slice am mn cm, .int .i64 N, .slice a n c] 32) := ⟨_, rfl⟩
  rw [← hW]
  have hbW : Below w.heap.size w W := by rw [hW]; exact below1 _ _
  have x0 : Box W w.heap.size [.int .i64 P, .int .i64 M, .slice am mn cm, .int .i64 N, .slice a n c] := by rw [hW]; exact Box.new _ _ _ rfl
  have HX := Lib.hid x0
  clear hW x0
  refine (infOpen_any P M am mn cm mod N a n c L W (hmod.keep hbW) (hi.keep hbW)).mono ?_
  rintro e w1 ⟨hb1, ⟨hE, rfl⟩ | ⟨hE, b, rfl, hG⟩⟩
  · have hbw1 := Below.next hbW hb1
    have HE : Hid (greE P M mod N L Q = codeE P M mod N L) := by show _ = _; rw [greE, rankE, if_neg hE]
    have He := Lib.hid hE
    have hE1 : (codeE P M mod N L == 0) = false := by simpa using hE
    have hE2 : (codeE P M mod N L != 0) = true := by simpa using hE
    clear hE
    go_wp2_with fail
    go_ret2
    exact ⟨hbw1, .inl ⟨by rw [HE.out]; exact He.out, by rw [HE.out]; rfl⟩⟩
  · have hbw1 := Below.next hbW hb1
    have HE : Hid (greE P M mod N L Q = setsE N [sortL Q]) := by show _ = _; rw [greE, rankE, if_pos hE]
    have Hrw := Lib.hid (codeE_rws hE)
    have xU := HX.out.keep hb1
    have b0 := xU.cell 0 rfl
    have b1 := xU.cell 1 rfl
    have b2 := xU.cell 2 rfl
    have b3 := xU.cell 3 rfl
    have b4 := xU.cell 4 rfl
    have hq1 := (hq.keep hbW).keep hb1
    clear xU hE
    go_wp2_with fail
    have HS : Hid (∀ V, Below w1.heap.size w1 V → V.cell? ⟨w.heap.size, 0, none⟩ = some (.int .i64 P) ∧ V.cell? ⟨w.heap.size, 1, none⟩ = some (.int .i64 M) ∧ V.cell? ⟨w.heap.size, 2, none⟩ = some (.slice am mn cm) ∧ V.cell? ⟨w.heap.size, 3, none⟩ = some (.int .i64 N) ∧ V.cell? ⟨w.heap.size, 4, none⟩ = some (.slice a n c)) := fun V hV => by
      have xU := HX.out.keep (Below.next hb1 hV)
      exact ⟨xU.cell 0 rfl, xU.cell 1 rfl, xU.cell 2 rfl, xU.cell 3 rfl, xU.cell 4 rfl⟩
    go_cut [7] (fun v wx => v = .int .i64 (setsE N [sortL Q]) ∧ Below w1.heap.size w1 wx)
    case first =>
      go_region_law ((first
        | (go_simp; go_at_call 20; ((with_reducible refine (valuesB_any ao no co _).mono ?_); rintro e w2 ⟨B, rfl, hB1, hB2, hbv⟩; have hbv1 : Below w1.heap.size w1 w2 := Below.next (Below.refl _ _).drew hbv; obtain ⟨b0, b1, b2, b3, b4⟩ := HS.out w2 hbv1))
        | (go_simp; go_at_call 19; ((with_reducible refine (sorted_any B ao no co Q hno _ hB1 hB2 (hq1.keep hbv1)).mono ?_); rintro e w3 ⟨a4, c4, rfl, hown4, hb3⟩; have hb13 := Below.next hbv1 hb3; obtain ⟨b0, b1, b2, b3, b4⟩ := HS.out w3 hb13; obtain ⟨d0, d1, d2, d3, d4⟩ := HS.out _ (Below.next hb13 (below1 w3 (.cells #[.slice a4 no c4] 22)))))
        | (go_simp; go_at_call 17; ((with_reducible refine (sets_any P M am mn cm N a n c (some ⟨w3.heap.size, 0, none⟩) 1 1 [sortL Q] _ ?_).mono ?_); (first | exact mat_one w3 (Ints.own hown4).1 | exact (mat_one w3 (Ints.own hown4).1).keep (Below.refl _ _).drew | skip); rintro e w5 ⟨rfl, hb5⟩))))
      all_goals (
        go_wp2_with fail
        go_meet
        exact ⟨rfl, Below.next (Below.next hb13 (below1 _ _)) hb5⟩)
    obtain ⟨rfl, hb3'⟩ := hcut
    generalize wc = w2 at *
    have hbw2 := Below.next hbw1 hb3'
    rw [setsE_one] at HE ⊢
    by_cases hok : okSet N (sortL Q) = true
    · have HE2 : Hid (greE P M mod N L Q = 0) := by show _ = _; rw [HE.out, if_pos hok]
      rw [if_pos hok]
      obtain ⟨m, hm, hm1, hm2, hLl, hRw⟩ := Hrw.out
      subst hm
      have hlen := okSet_mem hok
      have hQk : ∀ k, k < no → 0 ≤ nth Q k ∧ nth Q k < m := fun k hk => hlen k (by rw [Hql.out]; exact hk)
      have hn : n ≤ 1000000 := by rw [← Hil.out]; omega
      have HQk := Lib.hid hQk
      have HRw := Lib.hid hRw
      have xU := (HX.out.keep hb1).keep hb3'
      clear b0 b1 b2 b3 b4
      have b0 := xU.cell 0 rfl
      have b1 := xU.cell 1 rfl
      have b2 := xU.cell 2 rfl
      have b3 := xU.cell 3 rfl
      have b4 := xU.cell 4 rfl
      have hq2 := hq1.keep hb3'
      have hi2 := ((hi.keep hbW).keep hb1).keep hb3'
      have hG2 := hG.keep hb3'
      clear hok hlen hQk hRw xU
      go_wp2_with fail
      refine (greedy_any P M am mn cm m a n c L m ao no co Q hG2 hi2 HRw.out hq2 HQk.out hn hno).mono ?_
      rintro e w4 ⟨a5, c5, rfl, hown5, hb4⟩
      have HS := Lib.hid (sort_any w2.heap.size a5 _ c5 _ w4 hown5 hb4.size (Nat.le_trans (grS_len _ _ _) (by rw [Hql.out]; exact hno)))
      have hbw4 := Below.next hbw2 hb4
      have hsz := hbw2.size
      have HE3 : Hid (∀ w5, w5.ownsRow w2.heap.size 3 1 (.slice a5 (grS (tblOf P M.toNat mod).ops L Q).length c5) (grS (tblOf P M.toNat mod).ops L Q).length ((sortL (grS (tblOf P M.toNat mod).ops L Q)).map (Value.int .i64)) → Below w2.heap.size w4 w5 →
          GrePost P M mod m L Q w (.returned (.tuple #[.slice a5 (grS (tblOf P M.toNat mod).ops L Q).length c5, .int .i64 0])) w5) := fun w5 h5 hb5 =>
        ⟨hbw4.trans (hb5.mono hsz), .inr ⟨HE2.out, a5, c5, rfl, own_mono h5 hsz⟩⟩
      clear hown5
      generalize (grS (tblOf P M.toNat mod).ops L Q).length = k at *
      generalize sortL (grS (tblOf P M.toNat mod).ops L Q) = out at *
      go_wp2_with fail
      refine HS.out.mono ?_
      rintro e w5 ⟨rfl, h5, _, hb5⟩
      have hF := Lib.hid (HE3.out w5 h5 hb5)
      clear h5
      go_wp2_with fail
      go_ret2
      exact hF.out
    · have HE2 : Hid (greE P M mod N L Q = 6) := by show _ = _; rw [HE.out, if_neg hok]
      rw [if_neg hok]
      clear hok b0 b1 b2 b3 b4
      go_wp2_with fail
      go_ret2
      exact ⟨hbw2, .inl ⟨by rw [HE2.out]; omega, by rw [HE2.out]; rfl⟩⟩
end

/- The walk of infoset.Family. -/
section
open Go.RowKit

def lenV : Value → Nat
  | .slice _ n _ => n
  | _ => 0
theorem infoStepI : (Try.prog.info? 50).map (fun i => (i.zero, i.size, i.bytes)) = some (some (.agg #[.slice none 0 0, .int .i64 0]), 2, 32) := by kernel_rfl
/-- the order behind r phases -/
def phF (m : Nat) (U : List Int) : Nat → List Int
  | 0 => []
  | 1 => frTo false U m
  | _ => ordF m U
theorem phF_succ (m : Nat) (U : List Int) {r : Nat} (hr : r < 2) : phF m U (r + 1) = phF m U r ++ frTo (decide (r = 1)) U m := by
  match r, hr with
  | 0, _ => simp [phF]
  | 1, _ => simp [phF, ordF]

theorem Box.set1 {w : World} {g : Nat} {x y : Value} (h : Box w g [x, y]) (v : Value) : Box (w.setCell ⟨g, 1, none⟩ v) g [x, v] := by
  have k0 := h.cell 0 rfl
  have k1 := h.cell 1 rfl
  refine ⟨by simp; exact h.1, fun i u hu => ?_, fun i => by rw [World.frozen?_setCell]; exact h.frozen i⟩
  match i, hu with
  | 0, hu =>
    obtain rfl : x = u := by simpa using hu
    rw [World.cell?_setCell_other _ _ _ _ (by simp)]
    exact k0
  | 1, hu =>
    obtain rfl : v = u := by simpa using hu
    exact World.cell?_setCell_same _ _ _ k1
  | i + 2, hu => simp at hu
theorem OSt.mono {w : World} {B B' : Nat} {a : Option Addr} {k c : Nat} {R : List (Option Addr × Nat)} {T : List (List Int × Int)} (h : OSt w B a k c R T) (hB : B' ≤ B) : OSt w B' a k c R T := by
  refine ⟨h.rl, h.tl, ⟨h.own.1, ?_⟩, fun p hp => ?_⟩
  · rcases h.own.2 with h2 | ⟨g, cap, cur, hv, hg, r⟩
    · exact .inl h2
    · exact .inr ⟨g, cap, cur, hv, Nat.le_trans hB hg, r⟩
  · obtain ⟨h1, h2, h3⟩ := h.row p hp
    exact ⟨h1, fun hn => ⟨Nat.le_trans hB (h2 hn).1, (h2 hn).2⟩, h3⟩

def FamPost (P M : Int) (mod : List Int) (N : Int) (L : List (List Int)) (w : World) (e : Ending) (w' : World) : Prop :=
  Below w.heap.size w w' ∧ ((codeE P M mod N L ≠ 0 ∧ e = .returned (.tuple #[.slice none 0 0, .int .i64 (codeE P M mod N L)])) ∨
    (codeE P M mod N L = 0 ∧ ∃ m : Nat, N = m ∧ ∃ k a c R T, T = famL (tblOf P M.toNat mod).ops L m ∧ e = .returned (.tuple #[.slice a k c, .int .i64 0]) ∧ OSt w' w.heap.size a k c R T))

set_option maxRecDepth 100000 in
set_option maxHeartbeats 16000000 in
theorem family_any (P M : Int) (am : Option Addr) (mn cm : Nat) (mod : List Int) (N : Int) (a : Option Addr) (n c : Nat) (L : List (List Int)) (w : World) (hmod : Ints w am mn mod) (hi : Mat w a n L) :
    Calls Try.prog 11 #[.agg #[.int .i64 P, .int .i64 M, .slice am mn cm, .int .i64 N, .slice a n c]] w (FamPost P M mod N L w) := by
  have Hil := Lib.hid hi.len
  go_enter Try.func11, Try.ntmps11
  go_wp2_with fail
  obtain ⟨W, hW⟩ : ∃ W : World, W = w.alloc (.cells #[.int .i64 P, .int .i64 M, .slice am mn cm, .int .i64 N, .slice a n c] 32) := ⟨_, rfl⟩
  rw [← hW]
  have hbW : Below w.heap.size w W := by rw [hW]; exact below1 _ _
  have x0 : Box W w.heap.size [.int .i64 P, .int .i64 M, .slice am mn cm, .int .i64 N, .slice a n c] := by rw [hW]; exact Box.new _ _ _ rfl
  have HX := Lib.hid x0
  have HbW := Lib.hid hbW
  clear hW x0
  refine (infOpen_any P M am mn cm mod N a n c L W (hmod.keep hbW) (hi.keep hbW)).mono ?_
  rintro e w1 ⟨hb1, ⟨hE, rfl⟩ | ⟨hE, b, rfl, hG⟩⟩
  · have hbw1 := Below.next hbW hb1
    have HP : Hid (FamPost P M mod N L w (.returned (.tuple #[.slice none 0 0, .int .i64 (codeE P M mod N L)])) w1) := ⟨hbw1, .inl ⟨hE, rfl⟩⟩
    have hE2 : (codeE P M mod N L != 0) = true := by simpa using hE
    clear hE
    generalize codeE P M mod N L = er at *
    go_wp2_with fail
    go_ret2
    exact HP.out
  have hbw1 := Below.next hbW hb1
  obtain ⟨m, hm, hm1, hm64, hL256, hR⟩ := codeE_rws hE
  subst hm
  have hn : n ≤ 256 := by rw [← Hil.out]; exact hL256
  have HP : Hid (∀ k a' c' R T w', T = famL (tblOf P M.toNat mod).ops L m → Below w.heap.size w w' → OSt w' w.heap.size a' k c' R T → FamPost P M mod m L w (.returned (.tuple #[.slice a' k c', .int .i64 0])) w') := fun k a' c' R T w' h1 h2 h3 =>
    ⟨h2, .inr ⟨hE, m, rfl, k, a', c', R, T, h1, rfl, h3⟩⟩
  have Hgr : Hid (∀ V aq nq cq U, Below w1.heap.size w1 V → nq = (ordF m U).length → Ints V aq nq (ordF m U) → Calls Try.prog 18 #[.pointer (some ⟨b, 0, none⟩), .agg #[.int .i64 P, .int .i64 M, .slice am mn cm, .int .i64 m, .slice a n c], .slice aq nq cq] V (NewInts V (choF (tblOf P M.toNat mod).ops L m U))) := fun V aq nq cq U hV hnq hq =>
    greedy_any P M am mn cm m a n c L m aq nq cq (ordF m U) (hG.keep hV) (hi.keep (Below.next hbw1 hV)) hR hq (fun k hk => ordF_in m U k (by omega)) (by omega) (by rw [hnq, ordF_len]; omega)
  have Hcl : Hid (∀ U, (choF (tblOf P M.toNat mod).ops L m U).length ≤ m) := fun U => by
    have := grS_len (tblOf P M.toNat mod).ops L (ordF m U)
    rw [ordF_len] at this
    exact this
  obtain ⟨O, hO⟩ : ∃ O, (tblOf P M.toNat mod).ops = O := ⟨_, rfl⟩
  rw [hO] at HP Hgr Hcl
  have HC : Hid (∀ V, Below w1.heap.size w1 V → V.cell? ⟨w.heap.size, 0, none⟩ = some (.int .i64 P) ∧ V.cell? ⟨w.heap.size, 1, none⟩ = some (.int .i64 M) ∧ V.cell? ⟨w.heap.size, 2, none⟩ = some (.slice am mn cm) ∧ V.cell? ⟨w.heap.size, 3, none⟩ = some (.int .i64 m) ∧ V.cell? ⟨w.heap.size, 4, none⟩ = some (.slice a n c)) := fun V hV => by
    have x1 := HX.out.keep (Below.next hb1 hV)
    exact ⟨x1.cell 0 rfl, x1.cell 1 rfl, x1.cell 2 rfl, x1.cell 3 rfl, x1.cell 4 rfl⟩
  have Hbw1 := Lib.hid hbw1
  have hO0 := OSt.start w1 w1.heap.size
  clear hE hG hR hO hL256 hmod hi hbw1 hb1 hbW
  go_wp2_with fail
  go_loopw [6, 7] (fun ov uv wr => ∃ (k : Nat) (T : List (List Int × Int)) (ao : Option Addr) (co : Nat) (R : List (Option Addr × Nat)) (U : List Int) (au : Option Addr) (cu : Nat), k ≤ m ∧ ov = .slice ao k co ∧ uv = .slice au U.length cu ∧ OSt wr w1.heap.size ao k co R T ∧
      wr.ownsRow w1.heap.size 3 1 (.slice au U.length cu) U.length (U.map (Value.int .i64)) ∧ Hid ((ao ≠ none → Apt au (ablk ao)) ∧ (∀ r ∈ R, r.1 ≠ none → Apt au (ablk r.1))) ∧ Below w1.heap.size w1 wr ∧ Hid (famL O L m = famGo O L m (m + 1 - k) U T) ∧
      k + (frTo false U m).length ≤ m ∧ U.length ≤ 64 * k) (fun ov _ _ => m + 1 - lenV ov)
  case atStart => exact ⟨0, [], none, 0, [], [], none, 0, Nat.zero_le _, rfl, rfl, hO0, own_none, ⟨fun h => absurd rfl h, fun r hr => by simp at hr⟩, Below.refl _ _, rfl, by have := frTo_len false [] m; omega, by simp⟩
  case round =>
    clear hO0
    obtain ⟨k, T, ao, co, R, U, au, cu, hk, rfl, rfl, hOS, hU, hsep, hbr, hfam, hfr, hUl⟩ := hrel
    generalize wr = V0 at *
    obtain ⟨Un, hUn⟩ : ∃ Un, U.length = Un := ⟨_, rfl⟩
    have HUn := Lib.hid hUn
    rw [hUn] at hU hUl ⊢
    clear hUn
    have hIU := (Ints.own hU).1
    obtain ⟨V1, hV1⟩ : ∃ V1 : World, V1 = V0.alloc (.cells #[.bool false, .bool true] 4) := ⟨_, rfl⟩
    have hbV1 : Below V0.heap.size V0 V1 := by rw [hV1]; exact below1 _ _
    have hsV1 : V1.heap.size = V0.heap.size + 1 := by rw [hV1]; simp
    have xb : Box V1 V0.heap.size [.bool false, .bool true] := by rw [hV1]; exact Box.new _ _ _ rfl
    have Hbl : Hid (∀ V, Below V1.heap.size V1 V → ∀ r, r < 2 → V.cell? ⟨V0.heap.size, r, none⟩ = some (.bool (decide (r = 1)))) := fun V hV r hr => by
      have h := xb.keep hV
      match r, hr with
      | 0, _ => exact h.cell 0 rfl
      | 1, _ => exact h.cell 1 rfl
    have HsV1 := Lib.hid hsV1
    clear xb hsV1
    go_upto_region 8 with fail
    rw [← hV1]
    clear hV1
    go_loopw [8, 25] (fun qv iv wx => ∃ (r : Nat) (aq : Option Addr) (cq : Nat), r ≤ 2 ∧ iv = .int .i64 r ∧ qv = .slice aq (phF m U r).length cq ∧ wx.ownsRow V1.heap.size 3 1 (.slice aq (phF m U r).length cq) (phF m U r).length ((phF m U r).map (Value.int .i64)) ∧ Below V1.heap.size V1 wx) (fun _ iv _ => 2 - (intOf iv).toNat)
    case atStart => exact ⟨0, none, 0, by omega, rfl, rfl, own_none, Below.refl _ _⟩
    case round =>
      obtain ⟨r, aq, cq, hr, rfl, rfl, hop, hbx⟩ := hrel
      by_cases hlr : r < 2
      · have cb := Hbl.out wr hbx r hlr
        obtain ⟨_, _, _, c3, _⟩ := HC.out wr (Below.next hbr (Below.next hbV1 hbx))
        have Hph := Lib.hid (phF_succ m U hlr)
        have hphl : (phF m U r).length ≤ m := by
          match r, hlr with
          | 0, _ => simp [phF]
          | 1, _ => exact frTo_len false U m
        obtain ⟨old, hold⟩ : ∃ old, decide (r = 1) = old := ⟨_, rfl⟩
        rw [hold] at cb Hph
        obtain ⟨Ph, hPh⟩ : ∃ Ph, phF m U r = Ph := ⟨_, rfl⟩
        rw [hPh] at hop Hph hphl
        rw [hPh]
        clear hold hPh
        have dr2 : decide ((r : Int) < 2) = true := by simp; omega
        generalize wr = X1 at *
        go_wp2_with fail
        clear cb c3
        go_loopw [8, 31] (fun qv iv wy => ∃ (i : Nat) (aq : Option Addr) (cq : Nat), i ≤ m ∧ iv = .int .i64 i ∧ qv = .slice aq (Ph ++ frTo old U i).length cq ∧ wy.ownsRow V1.heap.size 3 1 (.slice aq (Ph ++ frTo old U i).length cq) (Ph ++ frTo old U i).length ((Ph ++ frTo old U i).map (Value.int .i64)) ∧ Below V1.heap.size V1 wy) (fun _ iv _ => m - (intOf iv).toNat)
        case atStart => exact ⟨0, aq, cq, Nat.zero_le _, rfl, by simp [frTo], by simpa [frTo] using hop, hbx⟩
        case round =>
          clear hop hbx
          obtain ⟨i, aq, cq, hi, rfl, rfl, hop, hby⟩ := hrel
          by_cases hli : i < m
          · have hIr := hIU.keep (Below.next hbV1 hby)
            have hca := contains_any au Un cu U (i : Int) wr hIr
            have hql : (Ph ++ frTo old U i).length ≤ 200 := by
              have := frTo_len old U i
              rw [List.length_append]; omega
            have hsy := hby.size
            by_cases hd : decide ((i : Int) ∈ U) = old
            · have Hst : Hid (Ph ++ frTo old U (i + 1) = (Ph ++ frTo old U i) ++ [(i : Int)]) := by show _ = _; rw [frTo, if_pos hd, List.append_assoc]
              rw [hd] at hca
              have HcA := Lib.hid hca
              have hoo : (old == old) = true := by simp
              clear hd hca
              generalize Ph ++ frTo old U i = q at *
              have hcn := cell_new wr (.int .i64 i) 3
              have hbn := below1 wr (.cells #[.int .i64 i] 3)
              go_wp2_with fail
              refine HcA.out.mono ?_
              rintro e w5 ⟨rfl, rfl⟩
              go_wp2_with (at_builtin; refine wpList_push rfl _ _ 22 3 rfl (.int .i64 0) 8 Try.underlying22 infoInt rfl V1.heap.size aq q.length cq _ rfl (hop.alloc _) ⟨w5.heap.size, 0, none⟩ 1 (.int .i64 i) rfl hcn rfl (by omega) (by unfold maxLen; omega) (by simp; omega) ?_; intro a5 c5 w6 hown5 hgr5 hap5)
              go_roundw
              case rel =>
                refine ⟨i + 1, a5, c5, by omega, by go_num, by rw [Hst.out]; simp, ?_, Below.app (Below.trans hby (hbn.mono hsy)) (hop.alloc _) hgr5 (Nat.le_refl _) (Nat.le_trans hsy hbn.size)⟩
                rw [Hst.out]; simpa using hown5
              case measure => simp [intOf] <;> omega
            · have Hst : Hid (Ph ++ frTo old U (i + 1) = Ph ++ frTo old U i) := by show _ = _; rw [frTo, if_neg hd]
              have HcA := Lib.hid hca
              have hoo : (decide ((i : Int) ∈ U) == old) = false := by simpa using hd
              clear hd hca
              generalize Ph ++ frTo old U i = q at *
              go_wp2_with fail
              refine HcA.out.mono ?_
              rintro e w5 ⟨rfl, rfl⟩
              go_wp2_with fail
              go_roundw
              case rel =>
                exact ⟨i + 1, aq, cq, by omega, by go_num, by rw [Hst.out], by rw [Hst.out]; exact hop, hby⟩
              case measure => simp [intOf] <;> omega
          · obtain rfl : i = m := by omega
            go_wp2_with fail
            go_roundw
            case rel =>
              exact ⟨r + 1, aq, cq, by omega, by go_num, by rw [Hph.out], by rw [Hph.out]; exact hop, hby⟩
            case measure => simp [intOf] <;> omega
      · obtain rfl : r = 2 := by omega
        have h2o : phF m U 2 = ordF m U := rfl
        rw [h2o] at hop ⊢
        have dr3 : decide (((2 : Nat) : Int) < 2) = false := by decide
        generalize wr = V2 at *
        have hbV2 : Below V0.heap.size V0 V2 := Below.next hbV1 hbx
        have hb12 : Below w1.heap.size w1 V2 := Below.next hbr hbV2
        have Hg := Lib.hid (Hgr.out V2 aq (ordF m U).length cq U hb12 rfl (Ints.own hop).1)
        obtain ⟨c0, c1, c2, c3, c4⟩ := HC.out V2 hb12
        have hSl := Hcl.out U
        have Hfam : Hid (famL O L m = famGo O L m (m - k + 1) U T) := by show _ = _; rw [hfam.out, show m + 1 - k = m - k + 1 by omega]
        have Hless : Hid (newF U (choF O L m U) (choF O L m U).length ≠ 0 → (frTo false (U ++ sortL (choF O L m U)) m).length < (frTo false U m).length) := fun h => fam_less h
        have Hfam2 : Hid (newF U (choF O L m U) (choF O L m U).length = 0 → famL O L m = T) := fun h => by rw [Hfam.out, famGo, if_pos h]
        have Hfam3 : Hid (newF U (choF O L m U) (choF O L m U).length ≠ 0 → famL O L m = famGo O L m (m - k) (U ++ sortL (choF O L m U)) (T ++ [(sortL (choF O L m U), newF U (choF O L m U) (choF O L m U).length)])) := fun h => by rw [Hfam.out, famGo, if_neg h]
        obtain ⟨S, hS⟩ : ∃ S, choF O L m U = S := ⟨_, rfl⟩
        rw [hS] at Hg hSl Hless Hfam2 Hfam3
        clear hS hop Hgr Hfam hfam h2o
        go_wp2_with fail
        refine Hg.out.mono ?_
        rintro e V3 ⟨a4, c4', rfl, hown4, hb3⟩
        obtain ⟨Sn, hSn⟩ : ∃ Sn, S.length = Sn := ⟨_, rfl⟩
        rw [hSn] at hown4 hSl Hless Hfam2 Hfam3 ⊢
        have HSn := Lib.hid hSn
        have hbV3 : Below V0.heap.size V0 V3 := Below.next hbV2 hb3
        have hIS := (Ints.own hown4).1
        have hplS := hIS.pl
        clear c0 c1 c2 c3 c4 Hg hSn
        obtain ⟨V4, hV4⟩ : ∃ V4 : World, V4 = V3.alloc (.cells #[.slice a4 Sn c4', .int .i64 0] 50) := ⟨_, rfl⟩
        have x4 : Box V4 V3.heap.size [.slice a4 Sn c4', .int .i64 0] := by rw [hV4]; exact Box.new _ _ _ rfl
        have hb4 : Below V3.heap.size V3 V4 := by rw [hV4]; exact below1 _ _
        go_upto_region 18 with fail
        rw [← hV4]
        have y0 := x4.cell 0 rfl
        clear hV4
        go_wp2_with fail
        clear y0
        go_loopw [53] (fun iv wy => ∃ i : Nat, i ≤ Sn ∧ iv = .int .i64 i ∧ Box wy V3.heap.size [.slice a4 Sn c4', .int .i64 (newF U S i)] ∧ Below V3.heap.size V3 wy) (fun iv _ => Sn - (intOf iv).toNat)
        case atStart => exact ⟨0, Nat.zero_le _, rfl, x4, hb4⟩
        case round =>
          clear x4 hb4
          obtain ⟨i, hi, rfl, hx, hby⟩ := hrel
          by_cases hli : i < Sn
          · have cS := (hIS.keep hby).cell i hli
            have hca := contains_any au Un cu U (nth S i) wr (hIU.keep (Below.next hbV3 hby))
            by_cases hin : nth S i ∈ U
            · have Hn : Hid (newF U S (i + 1) = newF U S i) := by show _ = _; rw [newF, if_pos hin]
              have hd : decide (nth S i ∈ U) = true := by simpa using hin
              rw [hd] at hca
              have HcA := Lib.hid hca
              clear hca hd hin
              go_wp2_with fail
              refine HcA.out.mono ?_
              rintro e w5 ⟨rfl, rfl⟩
              go_wp2_with fail
              go_roundw
              case rel => exact ⟨i + 1, by omega, by go_num, by rw [Hn.out]; exact hx, hby⟩
              case measure => simp [intOf] <;> omega
            · have Hn : Hid (newF U S (i + 1) = newF U S i + 1) := by show _ = _; rw [newF, if_neg hin]
              have hd : decide (nth S i ∈ U) = false := by simpa using hin
              rw [hd] at hca
              have HcA := Lib.hid hca
              have hbd := newF_bd U S i
              have y1 := hx.cell 1 rfl
              have f1 := hx.frozen 1
              obtain ⟨z, hz⟩ : ∃ z, newF U S i = z := ⟨_, rfl⟩
              rw [hz] at Hn hbd y1 hx
              have kz : IntKind.i64.wrap (z + 1) = z + 1 := IntWalk.i64_in _ (by omega)
              have Hx := Lib.hid (hx.set1 (.int .i64 (z + 1)))
              clear hca hd hin hz hx
              go_wp2_with fail
              refine HcA.out.mono ?_
              rintro e w5 ⟨rfl, rfl⟩
              go_wp2_with fail
              go_roundw
              case rel => exact ⟨i + 1, by omega, by go_num, by rw [Hn.out]; exact Hx.out, hby.setCell (Nat.le_refl _) _⟩
              case measure => simp [intOf] <;> omega
          · obtain rfl : i = Sn := by omega
            generalize wr = V5 at *
            have hbV5 : Below V0.heap.size V0 V5 := Below.next hbV3 hby
            have y0 := hx.cell 0 rfl
            have y1 := hx.cell 1 rfl
            obtain ⟨rk, hrk⟩ : ∃ rk, newF U S i = rk := ⟨_, rfl⟩
            rw [hrk] at y1 hx Hless Hfam2 Hfam3
            by_cases hz : rk = 0
            · have hz' : (rk == 0) = true := by simpa using hz
              have HF := Lib.hid (HP.out k ao co R T V5 (Hfam2.out hz).symm (Below.next Hbw1.out (Below.next hbr hbV5)) ((hOS.keep hbV5).mono Hbw1.out.size))
              clear hz hrk hOS hU hown4 Hless Hfam2 Hfam3
              go_wp2_with fail
              go_ret2
              exact HF.out
            · have hz' : (rk == 0) = false := by simpa using hz
              have hls := Hless.out hz
              have hfam3 := Hfam3.out hz
              have hipos : 0 < i := by
                rcases Nat.eq_zero_or_pos i with h0 | h0
                · subst h0; exact absurd hrk.symm hz
                · exact h0
              have hown5 := own_keep hown4 hby
              have hsz02 := hbV2.size
              have hsz03 := hbV3.size
              have hsz25 : V2.heap.size ≤ V5.heap.size := by have := hb3.size; have := hby.size; omega
              have HSo := Lib.hid (sort_any V2.heap.size a4 i c4' S V5 hown5 hsz25 (by omega))
              have hsz12 := hb12.size
              have hsz35 := hby.size
              have ha4 : a4 ≠ none → V2.heap.size ≤ ablk a4 ∧ ablk a4 < V3.heap.size := fun h0 => own_ne hown4 h0
              have hau : au ≠ none → ablk au < V0.heap.size := fun h0 => (own_ne hU h0).2
              have hap4g : Apt a4 V3.heap.size := by
                by_cases h0 : a4 = none
                · exact .inl h0
                · exact .inr (by have := (ha4 h0).2; omega)
              have hapug : Apt au V3.heap.size := by
                by_cases h0 : au = none
                · exact .inl h0
                · exact .inr (by have := hau h0; omega)
              have hapu4 : a4 ≠ none → Apt au (ablk a4) := fun h4 => by
                by_cases h0 : au = none
                · exact .inl h0
                · exact .inr (by have := hau h0; have := (ha4 h4).1; omega)
              have hao : ao ≠ none → ablk ao < V0.heap.size := fun h0 => (hOS.blk h0).2
              have hapo4 : a4 ≠ none → Apt ao (ablk a4) := fun h4 => by
                by_cases h0 : ao = none
                · exact .inl h0
                · exact .inr (by have := hao h0; have := (ha4 h4).1; omega)
              clear hrk hz hown4 hown5 Hless Hfam2 Hfam3
              go_wp2_with fail
              refine HSo.out.mono ?_
              rintro e V6 ⟨rfl, hown6, hgr6, hb6⟩
              have z0 := cell_grownApt hgr6 y0 hap4g
              have z1 := cell_grownApt hgr6 y1 hap4g
              have hbV6 : Below V0.heap.size V0 V6 := hbV5.trans (hb6.mono hsz02)
              have hU6 := own_keep hU hbV6
              have hOS6 := hOS.keep hbV6
              have hIS6 := (Ints.own hown6).1
              have hSs : (sortL S).length = i := by rw [sortL_len]; exact HSn.out
              have hsz56 := hb6.size
              have hb16 := Below.next hbr hbV6
              have hsz16 := hb16.size
              clear y0 y1 hx hOS hU hown6 HSo
              go_wp2_with ((first
                | (at_builtin; refine wpList_appAll (by rfl) (.tmp 73) (.tmp 75) 22 3 (by rfl) (.int .i64 0) 8 Try.underlying22 infoInt (by rfl) w1.heap.size au Un cu (U.map (Value.int .i64)) (by rfl) hU6 a4 i c4' ((sortL S).map (Value.int .i64)) (by rfl) hplS (by simp [hSs]) (Ints.news hIS6) (ints_oneCell _ _) (by omega) (by unfold maxLen; omega) hsz16 ?_; intro a7 c7 V7 hown7 hgr7 hap7; have k0 := cell_grownApt hgr7 z0 hapug; have k1 := cell_grownApt hgr7 z1 hapug; have hOS8 := (hOS6.grown hgr7 hsep.out.1 hsep.out.2).keep (below1 V7 (.cells #[.slice a4 i c4', .int .i64 rk] 50)))
                | (at_builtin; refine wpList_push2 (by rfl) (.tmp 77) (.tmp 79) 42 50 (by rfl) (.agg #[.slice none 0 0, .int .i64 0]) 32 Try.underlying42 infoStepI (by rfl) w1.heap.size ao k co (stV R T) (by rfl) hOS8.own V7.heap.size 1 (.slice a4 i c4') (.int .i64 rk) (by rfl) (cell_alloc_at _ _ _ rfl 0) (cell_alloc_at _ _ _ rfl 1) (by rfl) (by rfl) (by omega) (by unfold maxLen; omega) (by have := hgr7.size; simp; omega) ?_; intro a9 c9 V9 hown9 hgr9 hap9)))
              go_roundw
              case rel =>
                have hUl2 : (U ++ sortL S).length = Un + i := by rw [List.length_append, HUn.out, hSs]
                have hne7 : a7 ≠ none := fun e => by
                  obtain ⟨a', c', hv, hp⟩ := Pl.own hown7
                  cases hv
                  have := hp (by omega)
                  rw [e] at this; cases this
                have hsz67 := hgr7.size
                have hb8 := below1 V7 (.cells #[.slice a4 i c4', .int .i64 rk] 50)
                have hsz78 := hb8.size
                have hapo7 : Apt ao (ablk a7) := by
                  by_cases h0 : ao = none
                  · exact .inl h0
                  · have h1 := hap7 (ablk ao) (by have := hao h0; omega) (hsep.out.1 h0)
                    rcases h1 with h1 | h1
                    · exact absurd h1 hne7
                    · exact .inr fun e => h1 e.symm
                have hown79 := own_grownApt (own_keep hown7 hb8) hgr9 hapo7
                have hI8 : Ints (V7.alloc (.cells #[.slice a4 i c4', .int .i64 rk] 50)) a4 (sortL S).length (sortL S) := by
                  rw [hSs]
                  exact (hIS6.grownApt hgr7 fun h => hapu4 fun e => by have := hplS h; rw [e] at this; cases this).keep hb8
                have hb17 : Below w1.heap.size w1 V7 := Below.app hb16 hU6 hgr7 (Nat.le_refl _) hsz16
                have hb18 := Below.next hb17 hb8
                have hOS9 := hOS8.push hI8 (fun h0 => ⟨by have := (ha4 h0).1; omega, by have := (ha4 h0).2; omega⟩) hapo4 (by rw [hSs]; exact hown9) hgr9 hap9
                have hb19 : Below w1.heap.size w1 V9 := hb18.grown hgr9 (by omega) fun j hj => by
                  cases ao with
                  | none => simp [Value.ownBlock] at hj
                  | some y => simp [Value.ownBlock] at hj; rw [← hj]; exact (hOS8.blk (by simp)).1
                refine ⟨k + 1, T ++ [(sortL S, rk)], a9, c9, R ++ [(a4, c4')], U ++ sortL S, a7, c7, by omega, rfl, by rw [hUl2], hOS9, by rw [hUl2, List.map_append]; exact hown79, ⟨fun h0 => ?_, fun r hr h0 => ?_⟩, hb19, by rw [show m + 1 - (k + 1) = m - k by omega]; exact hfam3, by omega, by rw [hUl2]; omega⟩
                · have h1 := hap9 (ablk a7) (by have := (own_ne hown7 hne7).2; omega) hapo7
                  rcases h1 with h1 | h1
                  · exact absurd h1 h0
                  · exact .inr fun e => h1 e.symm
                · rcases List.mem_append.1 hr with hr | hr
                  · exact hap7 _ (hOS6.row_of hr h0).1.2 (hsep.out.2 r hr h0)
                  · rw [List.mem_singleton] at hr
                    subst hr
                    have h4 : ablk a4 < V3.heap.size := (ha4 h0).2
                    exact hap7 (ablk a4) (by omega) (hapu4 h0)
              case measure => simp [lenV] <;> omega
end

/- The examples of the chapter on information sets, reckoned (plain law). -/
section
def awG : List (List Int) := [[1, 0, 1, 0], [0, 1, 1, 1]]
theorem aw_code : codeE 2 1 [] 4 awG = 0 := by decide +kernel
theorem aw_is1 : isV 2 1 [] 4 awG [0, 1] = true ∧ rankE 2 1 [] 4 awG [0, 1] = 0 := by decide +kernel
theorem aw_is2 : isV 2 1 [] 4 awG [1, 3] = false ∧ rankE 2 1 [] 4 awG [1, 3] = 0 := by decide +kernel
theorem aw_rank : (grS (tblOf 2 1 []).ops awG [1, 3]).length = 1 := by decide +kernel
theorem aw_s1 : sortL [1, 3, 2] = [1, 2, 3] := (sortL_unique (l := [1, 3, 2]) (by decide) (by decide)).symm
theorem aw_s2 : sortL [1, 2] = [1, 2] := (sortL_unique (l := [1, 2]) (by decide) (by decide)).symm
theorem aw_s3 : sortL [0, 1] = [0, 1] := (sortL_unique (l := [0, 1]) (by decide) (by decide)).symm
theorem aw_s4 : sortL [2, 3] = [2, 3] := (sortL_unique (l := [2, 3]) (by decide) (by decide)).symm
theorem aw_gre : greE 2 1 [] 4 awG [1, 3, 2] = 0 := by rw [greE, aw_s1]; decide +kernel
theorem aw_gr : grS (tblOf 2 1 []).ops awG [1, 3, 2] = [1, 2] := by decide +kernel
theorem aw_sys : sysE 2 1 [] 4 awG [2, 3] = 0 := by decide +kernel
theorem aw_sysl : sysL (tblOf 2 1 []).ops 4 awG [2, 3] = [[1, 0, 1, 0], [1, 1, 0, 1]] := by decide +kernel
theorem aw_ex : exV 2 1 [] 4 awG [0, 1] [2, 3] 0 = (2, 0) := by decide +kernel
theorem aw_fl : flV 2 [2, 2] 1 = (4, 0) := by decide +kernel
theorem aw_c1 : choF (tblOf 2 1 []).ops awG 4 [] = [0, 1] := by decide +kernel
theorem aw_c2 : choF (tblOf 2 1 []).ops awG 4 [0, 1] = [2, 3] := by decide +kernel
theorem aw_c3 : choF (tblOf 2 1 []).ops awG 4 [0, 1, 2, 3] = [0, 1] := by decide +kernel
theorem aw_fam : famL (tblOf 2 1 []).ops awG 4 = [([0, 1], 2), ([2, 3], 2)] := by
  rw [famL, famGo, aw_c1, aw_s3, if_neg (by decide)]
  rw [show ([] : List Int) ++ [0, 1] = [0, 1] from rfl, famGo, aw_c2, aw_s4, if_neg (by decide)]
  rw [show ([0, 1] : List Int) ++ [2, 3] = [0, 1, 2, 3] from rfl, famGo, aw_c3, if_pos (by decide)]
  decide +kernel
end

/- The walk of codewrightref25.SameSteps, at equal lists. -/
section
open Go.RowKit

/-- a slice that reads as steps -/
structure StR (w : World) (a : Option Addr) (n : Nat) (T : List (List Int × Int)) : Prop where
  len : T.length = n
  pl : Pl a n
  max : n ≤ maxLen
  cell : ∀ i (h : i < T.length), ∃ sa sc, w.cell? ⟨ablk a, aoff a + i * 2, none⟩ = some (.slice sa T[i].1.length sc) ∧ w.cell? ⟨ablk a, aoff a + i * 2 + 1, none⟩ = some (.int .i64 T[i].2) ∧ Ints w sa T[i].1.length T[i].1
theorem StR.keep {w w' : World} {a : Option Addr} {n : Nat} {T : List (List Int × Int)} (h : StR w a n T) (hb : Below w.heap.size w w') : StR w' a n T :=
  ⟨h.len, h.pl, h.max, fun i hi => by
    obtain ⟨sa, sc, h1, h2, h3⟩ := h.cell i hi
    exact ⟨sa, sc, cell_keep hb h1, cell_keep hb h2, h3.keep hb⟩⟩
theorem stV_len : ∀ (R : List (Option Addr × Nat)) (T : List (List Int × Int)), R.length = T.length → (stV R T).length = T.length * 2
  | [], [], _ => rfl
  | [], _ :: _, h => by simp at h
  | _ :: _, [], h => by simp at h
  | r :: R, t :: T, h => by
    have := stV_len R T (by simpa using h)
    simp [stV, this]; omega
theorem stV_at : ∀ (R : List (Option Addr × Nat)) (T : List (List Int × Int)), R.length = T.length → ∀ i (h : i < T.length) (h2 : i < R.length), (stV R T)[i * 2]? = some (.slice (R[i]).1 (T[i]).1.length (R[i]).2) ∧ (stV R T)[i * 2 + 1]? = some (.int .i64 (T[i]).2)
  | [], [], _, i, h, _ => by simp at h
  | [], _ :: _, h, _, _, _ => by simp at h
  | _ :: _, [], h, _, _, _ => by simp at h
  | r :: R, t :: T, h, 0, _, _ => by simp [stV]
  | r :: R, t :: T, h, i + 1, hi, hi2 => by
    have := stV_at R T (by simpa using h) i (by simpa using hi) (by simpa using hi2)
    rw [stV, show (i + 1) * 2 = i * 2 + 1 + 1 by omega]
    simpa using this
theorem OSt.str {w : World} {B : Nat} {a : Option Addr} {k c : Nat} {R : List (Option Addr × Nat)} {T : List (List Int × Int)} (h : OSt w B a k c R T) : StR w a k T := by
  have hRT : R.length = T.length := by rw [h.rl, h.tl]
  rcases h.own.2 with ⟨hv, h0⟩ | ⟨g, cap, cur, hv, hg, hh, hn, hm, hs, ht⟩
  · cases hv
    have hT : T = [] := List.eq_nil_of_length_eq_zero h.tl
    subst hT
    exact ⟨rfl, fun h => by omega, by unfold maxLen; omega, fun i hi => by simp at hi⟩
  · cases hv
    refine ⟨h.tl, fun _ => rfl, by omega, fun i hi => ?_⟩
    have hi2 : i < R.length := by omega
    obtain ⟨e1, e2⟩ := stV_at R T hRT i hi hi2
    have hc := World.ownsRow.cells h.own (g := g) rfl
    have h3 := h.row (R[i], T[i]) (List.mem_iff_getElem.2 ⟨i, by simp; omega, by simp⟩)
    have c1 := hc _ _ e1
    have c2 := hc _ _ e2
    rw [Addr.add_lit] at c1 c2
    refine ⟨(R[i]).1, (R[i]).2, ?_, ?_, h3.1⟩
    · simpa [ablk, aoff] using c1
    · simpa [ablk, aoff] using c2

set_option maxRecDepth 100000 in
set_option maxHeartbeats 4000000 in
theorem sameSteps_any (a : Option Addr) (n c : Nat) (a' : Option Addr) (n' c' : Nat) (T : List (List Int × Int)) (w : World) (h : StR w a n T) (h' : StR w a' n' T) :
    Calls Try.prog 15 #[.slice a n c, .slice a' n' c'] w (QuietBool w true) := by
  obtain rfl : n = n' := by rw [← h.len, ← h'.len]
  have Hl := Lib.hid h.len
  have hpl := h.pl
  have hpl' := h'.pl
  have hmax := h.max
  unfold maxLen at hmax
  have hnn : ((n : Int) != n) = false := by simp
  go_enter Try.func15, Try.ntmps15
  go_wp2_with fail
  go_loopw [5] (fun iv wr => ∃ k : Nat, k ≤ n ∧ iv = .int .i64 k ∧ Drawn w wr) (fun i _ => n - (intOf i).toNat)
  case atStart => exact ⟨0, Nat.zero_le _, rfl, Drawn.refl _⟩
  case round =>
    obtain ⟨k, hk, rfl, hd⟩ := hrel
    by_cases hlt : k < n
    · have hkT : k < T.length := by rw [Hl.out]; exact hlt
      obtain ⟨b1, d1, c1, r1, i1⟩ := (h.keep hd.below).cell k hkT
      obtain ⟨b2, d2, c2, r2, i2⟩ := (h'.keep hd.below).cell k hkT
      have hz : (T[k].2 != T[k].2) = false := by simp
      have hc := rSameInts_any b1 T[k].1.length d1 T[k].1 b2 T[k].1.length d2 T[k].1 (i1.drawn (Drawn.refl wr).drew) (i2.drawn (Drawn.refl wr).drew)
      rw [decide_eq_true (rfl : T[k].1 = T[k].1)] at hc
      have Hc := Lib.hid hc
      clear hc i1 i2
      generalize T[k].2 = z at *
      generalize T[k].1.length = ln at *
      go_wp2_with fail
      go_region_held3 (fun V => V.cell? ⟨ablk a, aoff a + k * 2, none⟩ = some (.slice b1 ln d1) ∧ V.cell? ⟨ablk a, aoff a + k * 2 + 1, none⟩ = some (.int .i64 z) ∧ V.cell? ⟨ablk a', aoff a' + k * 2, none⟩ = some (.slice b2 ln d2) ∧ V.cell? ⟨ablk a', aoff a' + k * 2 + 1, none⟩ = some (.int .i64 z)) (exact ⟨c1, r1, c2, r2⟩)
        (first | (go_at_call 13; ((with_reducible refine Hc.out.mono ?_); rintro e w4 ⟨rfl, m4, rfl⟩)))
      go_wp2_with fail
      go_roundw
      case rel => exact ⟨k + 1, by omega, by go_num, hd.drewN (1 + m4)⟩
      case measure => simp [intOf] <;> omega
    · obtain rfl : k = n := by omega
      go_wp2_with fail
      go_ret
      exact ⟨rfl, hd⟩
end

end Go.Proofs.Ytapjcccpokhhhaa
