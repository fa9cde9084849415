/- The family of a code by the reference's rounds, and exchanges by sorted sets (plain laws). -/
import Derived.Test.YtakmnncmeefceaaGreatH3
import Derived.Test.YtakmnncmeefceaaGreatG27
import Derived.Test.YtakmnncmeefceaaGreatG22
namespace Go.Proofs.YtakmnncmeefceaaGreat
set_option linter.unusedVariables false
set_option linter.unusedSimpArgs false
set_option linter.unusedSectionVars false

/- The walks of codewrightref25.in and codewrightref10.Others. -/
section
open Go.RowKit

def inTo (l : List Int) (v : Int) (k : Nat) : Bool := decide (v ∈ l.take k)
theorem inTo_succ {l : List Int} {k : Nat} (v : Int) (h : k < l.length) : inTo l v (k + 1) = (inTo l v k || decide (nth l k = v)) := by
  unfold inTo
  rw [List.take_succ_eq_append_getElem h, nth_getElem h]
  simp only [List.mem_append, List.mem_singleton, Bool.decide_or]
  congr 1
  simp [eq_comm]
theorem inTo_all {l : List Int} {n : Nat} (v : Int) (h : l.length = n) : inTo l v n = decide (v ∈ l) := by
  unfold inTo
  rw [List.take_of_length_le (by omega)]

set_option maxRecDepth 100000 in
set_option maxHeartbeats 1600000 in
theorem rIn25_any (a : Option Addr) (n c : Nat) (l : List Int) (v : Int) (w : World) (h : Ints w a n l) :
    Calls Tryz.prog 86 #[.slice a n c, .int .i64 v] w fun e w' => e = .returned (.bool (decide (v ∈ l))) ∧ w' = w := by
  have Hl := Lib.hid h.len
  have hpl := h.pl
  have hmax := h.max
  unfold maxLen at hmax
  go_enter Tryz.func86, Tryz.ntmps86
  go_wp2_with fail
  go_loopw [5] (fun iv wr => ∃ k : Nat, k ≤ n ∧ iv = .int .i64 k ∧ Hid (inTo l v k = false) ∧ wr = w) (fun i _ => n - (intOf i).toNat)
  case atStart => exact ⟨0, Nat.zero_le _, rfl, by show _ = _; simp [inTo], rfl⟩
  case round =>
    obtain ⟨k, hk, rfl, hno, rfl⟩ := hrel
    by_cases hlt : k < n
    · have c1 := h.cell k hlt
      have Hs := Lib.hid (inTo_succ (l := l) v (show k < l.length by rw [Hl.out]; exact hlt))
      by_cases he : nth l k = v
      · have he' : (nth l k == v) = true := by rw [he]; simp
        have Hm : Hid (decide (v ∈ l) = true) := by show _ = _; rw [← he]; simpa using nth_mem (show k < l.length by rw [Hl.out]; exact hlt)
        clear he
        go_wp2_with fail
        go_ret
        exact ⟨ret_bool Hm.out.symm, rfl⟩
      · have he' : (nth l k == v) = false := by simpa using he
        have Hn2 : Hid (inTo l v (k + 1) = false) := by show _ = _; rw [Hs.out, hno.out, decide_eq_false he]; rfl
        clear he
        go_wp2_with fail
        go_roundw
        case rel => exact ⟨k + 1, by omega, by go_num, Hn2.out, by simp⟩
        case measure => simp [intOf] <;> omega
    · obtain rfl : k = n := by omega
      have Hm : Hid (decide (v ∈ l) = false) := by show _ = _; rw [← inTo_all v Hl.out]; exact hno.out
      go_wp2_with fail
      go_ret
      exact ⟨ret_bool Hm.out.symm, rfl⟩

set_option maxRecDepth 100000 in
set_option maxHeartbeats 3200000 in
theorem rOthers10_any (a : Option Addr) (n c : Nat) (l : List Int) (m : Nat) (w : World) (h : Ints w a n l) (hm : m ≤ 1000) :
    Calls Tryz.prog 51 #[.slice a n c, .int .i64 m] w fun e w' => ∃ a1 c1, e = .returned (.slice a1 (frTo false l m).length c1) ∧
      w'.ownsRow w.heap.size 3 1 (.slice a1 (frTo false l m).length c1) (frTo false l m).length ((frTo false l m).map (Value.int .i64)) ∧ Below w.heap.size w w' := by
  have Hl := Lib.hid h.len
  have hpl := h.pl
  have hmax := h.max
  unfold maxLen at hmax
  obtain ⟨G, hG⟩ : ∃ G, frTo false l = G := ⟨_, rfl⟩
  have HG1 : Hid (∀ k : Nat, decide ((k : Int) ∈ l) = false → G (k + 1) = G k ++ [(k : Int)]) := fun k h => by rw [← hG, frTo, if_pos h]
  have HG2 : Hid (∀ k : Nat, decide ((k : Int) ∈ l) = true → G (k + 1) = G k) := fun k h => by rw [← hG, frTo, if_neg (by rw [h]; decide)]
  have HGl : Hid (∀ k, (G k).length ≤ k) := fun k => by rw [← hG]; exact frTo_len _ _ _
  have HG0 : Hid (G 0 = []) := by rw [← hG]; rfl
  rw [hG]
  clear hG
  go_enter Tryz.func51, Tryz.ntmps51
  go_wp2_with fail
  go_loopw [5, 6] (fun ov iv wr => ∃ (i g : Nat) (a1 : Option Addr) (c1 : Nat), i ≤ m ∧ iv = .int .i64 i ∧ Hid ((G i).length = g) ∧ ov = .slice a1 g c1 ∧ wr.ownsRow w.heap.size 3 1 (.slice a1 g c1) g ((G i).map (Value.int .i64)) ∧ Below w.heap.size w wr) (fun _ iv _ => m - (intOf iv).toNat)
  case atStart => exact ⟨0, 0, none, 0, Nat.zero_le _, rfl, by show _ = _; rw [HG0.out]; rfl, rfl, by rw [HG0.out]; exact own_none, Below.refl _ _⟩
  case round =>
    obtain ⟨i, g, a1, c1, hi, rfl, Hg, rfl, hown, hbr⟩ := hrel
    by_cases hlt : i < m
    · have hiW := h.keep hbr
      have hgi : g ≤ 1000 := by have h1 := HGl.out i; rw [Hg.out] at h1; omega
      generalize wr = X1 at *
      go_wp2_with fail
      go_loopw [7, 8] (fun bv kv ws => ∃ k : Nat, k ≤ n ∧ kv = .int .i64 k ∧ bv = .bool (inTo l i k) ∧ ws = X1) (fun _ kv _ => n - (intOf kv).toNat)
      case atStart => exact ⟨0, Nat.zero_le _, rfl, by simp [inTo], rfl⟩
      case round =>
        obtain ⟨k, hk, rfl, rfl, rfl⟩ := hrel
        by_cases hltk : k < n
        · have ck := hiW.cell k hltk
          have Hs := Lib.hid (inTo_succ (l := l) (i : Int) (show k < l.length by rw [Hl.out]; exact hltk))
          obtain ⟨b, hb⟩ : ∃ b, inTo l i k = b := ⟨_, rfl⟩
          rw [hb] at Hs ⊢
          clear hb
          cases b
          · by_cases he : nth l k = i
            · have he' : (nth l k == (i : Int)) = true := by rw [he]; simp
              have Hn : Hid (inTo l i (k + 1) = true) := by show _ = _; rw [Hs.out, decide_eq_true he]; rfl
              clear he
              go_wp2_with fail
              go_roundw
              case rel => exact ⟨k + 1, by omega, by go_num, by rw [Hn.out], by simp⟩
              case measure => simp [intOf] <;> omega
            · have he' : (nth l k == (i : Int)) = false := by simpa using he
              have Hn : Hid (inTo l i (k + 1) = false) := by show _ = _; rw [Hs.out, decide_eq_false he]; rfl
              clear he
              go_wp2_with fail
              go_roundw
              case rel => exact ⟨k + 1, by omega, by go_num, by rw [Hn.out], by simp⟩
              case measure => simp [intOf] <;> omega
          · have Hn : Hid (inTo l i (k + 1) = true) := by show _ = _; rw [Hs.out]; rfl
            go_wp2_with fail
            go_roundw
            case rel => exact ⟨k + 1, by omega, by go_num, by rw [Hn.out], by simp⟩
            case measure => simp [intOf] <;> omega
        · obtain rfl : k = n := by omega
          rw [inTo_all (i : Int) Hl.out]
          have hH1 := HG1.out i
          have hH2 := HG2.out i
          obtain ⟨b, hb⟩ : ∃ b, decide ((i : Int) ∈ l) = b := ⟨_, rfl⟩
          rw [hb] at hH1 hH2 ⊢
          clear hb
          cases b
          · have Hn := Lib.hid (hH1 rfl)
            clear hH1 hH2
            have hsz := hbr.size
            have hcn := cell_new wr (.int .i64 i) 3
            have hbn := below1 wr (.cells #[.int .i64 i] 3)
            go_wp2_with (at_builtin; refine wpList_push rfl _ _ 22 3 rfl (.int .i64 0) 8 Tryz.underlying22 infoInt rfl w.heap.size a1 g c1 _ rfl (hown.alloc _) ⟨wr.heap.size, 0, none⟩ 1 (.int .i64 i) rfl hcn rfl (by omega) (by unfold maxLen; omega) (by simp; omega) ?_; intro a5 c5 w5 hown5 hgr5 hap5)
            go_roundw
            case rel =>
              refine ⟨i + 1, g + 1, a5, c5, by omega, by go_num, by show _ = _; rw [Hn.out, List.length_append, Hg.out]; rfl, rfl, by rw [Hn.out]; simpa using hown5, Below.app (Below.allocN hbr _) (hown.alloc _) hgr5 (Nat.le_refl _) (Below.allocN hbr _).size⟩
            case measure => simp [intOf] <;> omega
          · have Hn := Lib.hid (hH2 rfl)
            clear hH1 hH2
            go_wp2_with fail
            go_roundw
            case rel => exact ⟨i + 1, g, a1, c1, by omega, by go_num, by show _ = _; rw [Hn.out]; exact Hg.out, rfl, by rw [Hn.out]; exact hown, hbr⟩
            case measure => simp [intOf] <;> omega
    · obtain rfl : i = m := by omega
      have HF := Lib.hid (And.intro hown hbr)
      clear hown hbr
      go_wp2_with fail
      go_ret
      rw [Hg.out]
      exact ⟨a1, c1, rfl, HF.out.1, HF.out.2⟩
end

/- The family of a code by the reference's rounds, and exchanges by sorted sets (plain laws). -/
section
theorem frTo_ext {b : Bool} {U V : List Int} (h : ∀ x, x ∈ U ↔ x ∈ V) : ∀ k, frTo b U k = frTo b V k
  | 0 => rfl
  | k + 1 => by
    rw [frTo, frTo, frTo_ext h k]
    by_cases h1 : (k : Int) ∈ U
    · simp [h1, (h k).1 h1]
    · have h2 : ¬ (k : Int) ∈ V := fun h2 => h1 ((h k).2 h2)
      simp [h1, h2]
theorem ordF_ext {m : Nat} {U V : List Int} (h : ∀ x, x ∈ U ↔ x ∈ V) : ordF m U = ordF m V := by rw [ordF, ordF, frTo_ext h, frTo_ext h]
theorem newF_ext {U V : List Int} (h : ∀ x, x ∈ U ↔ x ∈ V) (S : List Int) : ∀ k, newF U S k = newF V S k
  | 0 => rfl
  | k + 1 => by
    rw [newF, newF, newF_ext h S k]
    by_cases h1 : nth S k ∈ U
    · rw [if_pos h1, if_pos ((h _).1 h1)]
    · rw [if_neg h1, if_neg fun h2 => h1 ((h _).2 h2)]
theorem choF_ext {O : FOps} {L : List (List Int)} {m : Nat} {U V : List Int} (h : ∀ x, x ∈ U ↔ x ∈ V) : choF O L m U = choF O L m V := by rw [choF, choF, ordF_ext h]
theorem famGo_ext {O : FOps} {L : List (List Int)} {m : Nat} : ∀ (f : Nat) {U V : List Int} (_ : ∀ x, x ∈ U ↔ x ∈ V) (T : List (List Int × Int)), famGo O L m f U T = famGo O L m f V T
  | 0, _, _, _, _ => rfl
  | f + 1, U, V, h, T => by
    rw [famGo, famGo, choF_ext h, newF_ext h]
    split
    · rfl
    · exact famGo_ext f (fun x => by rw [List.mem_append, List.mem_append, h x]) _
/-- the new ones, counted -/
theorem newF_count (U S : List Int) : ∀ k, k ≤ S.length → newF U S k = ((S.take k).countP fun x => decide (¬ x ∈ U) : Nat)
  | 0, _ => by simp [newF]
  | k + 1, h => by
    rw [newF, newF_count U S k (by omega), List.take_succ_eq_append_getElem (by omega), List.countP_append, nth_getElem (by omega)]
    by_cases h1 : S[k] ∈ U
    · simp [h1]
    · simp [h1]
theorem newF_perm {U S S' : List Int} (h : S.Perm S') : newF U S S.length = newF U S' S'.length := by
  rw [newF_count _ _ _ (Nat.le_refl _), newF_count _ _ _ (Nat.le_refl _), List.take_of_length_le (Nat.le_refl _), List.take_of_length_le (Nat.le_refl _), h.countP_eq]
theorem newF_sort (U S : List Int) : newF U (sortL S) S.length = newF U S S.length := by
  have h := newF_perm (U := U) (sortL_perm S)
  rwa [sortL_len] at h
/-- the used ones, each once -/
def addTo (U S : List Int) : Nat → List Int
  | 0 => U
  | k + 1 => if nth S k ∈ addTo U S k then addTo U S k else addTo U S k ++ [nth S k]
theorem mem_addTo {U S : List Int} {x : Int} : ∀ k, k ≤ S.length → (x ∈ addTo U S k ↔ x ∈ U ∨ x ∈ S.take k)
  | 0, _ => by simp [addTo]
  | k + 1, h => by
    have ih := mem_addTo (U := U) (S := S) (x := x) k (by omega)
    have e : S.take (k + 1) = S.take k ++ [nth S k] := by rw [List.take_succ_eq_append_getElem (by omega), nth_getElem (by omega)]
    rw [addTo, e]
    split
    · rename_i h1
      rw [ih, List.mem_append, List.mem_singleton]
      constructor
      · rintro (h2 | h2)
        · exact .inl h2
        · exact .inr (.inl h2)
      · rintro (h2 | h2 | h2)
        · exact .inl h2
        · exact .inr h2
        · rw [h2]
          exact (mem_addTo k (by omega)).1 h1
    · rw [List.mem_append, ih, List.mem_append]
      constructor
      · rintro ((h2 | h2) | h2)
        · exact .inl h2
        · exact .inr (.inl h2)
        · exact .inr (.inr h2)
      · rintro (h2 | h2 | h2)
        · exact .inl (.inl h2)
        · exact .inl (.inr h2)
        · exact .inr h2
theorem addTo_nodup {U S : List Int} (hU : U.Nodup) : ∀ k, (addTo U S k).Nodup
  | 0 => hU
  | k + 1 => by
    have ih := addTo_nodup (S := S) hU k
    rw [addTo]
    split
    · exact ih
    · rename_i h
      rw [List.nodup_append]
      exact ⟨ih, by simp, fun x hx y hy => by rw [List.mem_singleton] at hy; subst hy; exact fun e => h (e ▸ hx)⟩
theorem addTo_all {U S : List Int} {x : Int} : x ∈ addTo U S S.length ↔ x ∈ U ∨ x ∈ S := by
  rw [mem_addTo _ (Nat.le_refl _), List.take_of_length_le (Nat.le_refl _)]
theorem frTo_pair (b : Bool) (U : List Int) : ∀ k, (frTo b U k).Pairwise (fun x y => x < y)
  | 0 => List.Pairwise.nil
  | k + 1 => by
    have ih := frTo_pair b U k
    rw [frTo]
    split
    · rw [List.pairwise_append]
      refine ⟨ih, by simp, fun x hx y hy => ?_⟩
      rw [List.mem_singleton] at hy
      obtain ⟨j, hj, rfl, _⟩ := (mem_frTo k).1 hx
      omega
    · exact ih
/-- the used ones, sorted -/
theorem used_sort {m : Nat} {U : List Int} (hn : U.Nodup) (hU : ∀ x ∈ U, 0 ≤ x ∧ x < (m : Int)) : sortL U = frTo true U m := by
  have h := frTo_pair true U m
  refine (sortL_unique (h.imp fun h => by omega) ((List.perm_ext_iff_of_nodup (h.imp fun h => by omega) hn).2 fun x => ?_)).symm
  rw [mem_frTo]
  constructor
  · rintro ⟨j, _, rfl, h1⟩; simpa using h1
  · intro hx
    have h1 := hU x hx
    exact ⟨x.toNat, by omega, by omega, by rw [show ((x.toNat : Nat) : Int) = x by omega]; simpa using hx⟩
theorem used_len {m : Nat} {U : List Int} (hn : U.Nodup) (hU : ∀ x ∈ U, 0 ≤ x ∧ x < (m : Int)) : U.length ≤ m := by
  rw [← sortL_len, used_sort hn hU]; exact frTo_len _ _ _
/-- an exchange by erasing and sorting -/
theorem filt_perm {i : Int} : ∀ {A : List Int} {t : Nat}, A.Nodup → (ht : t < A.length) → nth A t = i → ∀ j, (A.filter (fun x => decide (x ≠ i)) ++ [j]).Perm (A.set t j)
  | [], t, _, ht, _, j => by simp at ht
  | a :: A, 0, hn, _, h, j => by
    have ha : a = i := by simpa [nth] using h
    subst ha
    rw [List.nodup_cons] at hn
    have hf : A.filter (fun x => decide (x ≠ a)) = A := List.filter_eq_self.2 fun x hx => by
      have : x ≠ a := fun e => hn.1 (e ▸ hx)
      simpa using this
    have h0 : decide (a ≠ a) = false := by simp
    rw [List.filter_cons_of_neg (by simp), hf, List.set_cons_zero]
    exact List.perm_append_singleton _ _
  | a :: A, t + 1, hn, ht, h, j => by
    rw [List.nodup_cons] at hn
    have h' : nth A t = i := by simpa [nth] using h
    have ht' : t < A.length := by simpa using ht
    have ha : a ≠ i := fun e => hn.1 (by rw [e, ← h']; exact nth_mem ht')
    rw [List.filter_cons_of_pos (by simpa using ha), List.set_cons_succ, List.cons_append]
    exact (filt_perm hn.2 ht' h' j).cons a
theorem okSet_nodup {N : Int} {A : List Int} (h : okSet N A = true) : A.Nodup := by
  refine nth_inj_nodup fun i j hij hj => ?_
  have key : ∀ d i, i + d < A.length → 0 < d → nth A i < nth A (i + d) := fun d => by
    induction d with
    | zero => intro i _ h0; omega
    | succ d ih =>
      intro i hi _
      have h1 := (okSet_at h hi).2.2 (by omega)
      rw [show i + (d + 1) - 1 = i + d by omega] at h1
      by_cases h0 : d = 0
      · subst h0; exact h1
      · have := ih i (by omega) (by omega); omega
  have := key (j - i) i (by omega) (by omega)
  rw [show i + (j - i) = j by omega] at this
  omega
section
variable {O : FOps} {El : Int → Prop} {m : Nat} {L : List (List Int)}
theorem isB_perm (F : Fld O El) (hL : Rws El m L) {Q Q' : List Int} (h : Q.Perm Q') : isB O L Q = isB O L Q' := by
  have h1 := rkQ_perm F hL h
  unfold rkQ at h1
  rw [isB, isB, h1, h.length_eq]
theorem exP_filt (F : Fld O El) (hL : Rws El m L) {A : List Int} {t : Nat} {i : Int} (hn : A.Nodup) (ht : t < A.length) (hi : nth A t = i) (j : Int) :
    exP O L A t j = (decide (¬ j ∈ A) && isB O L (sortL (A.filter (fun x => decide (x ≠ i)) ++ [j]))) := by
  rw [exP, isB_perm F hL (sortL_perm _), isB_perm F hL (filt_perm hn ht hi j)]
end
end

end Go.Proofs.YtakmnncmeefceaaGreat
