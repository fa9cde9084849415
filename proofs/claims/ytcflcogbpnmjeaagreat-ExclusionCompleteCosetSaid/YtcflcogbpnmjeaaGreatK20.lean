/- The walks of modify.set, code.New. -/
import Derived.Test.YtcflcogbpnmjeaaGreatK19
import Derived.Test.YtcflcogbpnmjeaaGreatK10
import Derived.Test.YtcflcogbpnmjeaaGreatK16
import Derived.RangeFuncBox
import Derived.RangeFuncLeaves
import Derived.Shelf.Abstract
import Derived.WalkKit
import Derived.OwnWalkIn
import Derived.TacticsInMore
import Derived.LoopNIn
import Derived.LoopIn
import Derived.Maps.AppendAt
import Derived.Test.YtcflcogbpnmjeaaGreatK4
import Derived.Test.YtcflcogbpnmjeaaGreatK1
import Derived.Test.YtcflcogbpnmjeaaGreatK7
import Derived.Test.YtcflcogbpnmjeaaGreatK5
namespace Go.Proofs.YtcflcogbpnmjeaaGreat
set_option linter.unusedVariables false
set_option linter.unusedSimpArgs false
set_option linter.unusedSectionVars false

/- Plain: exclusion trees, as the program and the document's answer build and follow them. -/
section
/-- the greedy set, at most `most` positions -/
def grM (O : FOps) (L : List (List Int)) (Q : List Int) (most : Nat) : List Int := (grS O L Q).take most
/-- the positions of z first, in ascending order, then the ones in neither -/
def outS (m : Nat) (s z : List Int) : List Int := sortL z ++ frTo false (s ++ z) m
/-- a claim -/
structure Clm where
  M : Nat
  W : Nat
  cos : Bool
  y : List Int
/-- an ascending set of positions, none of them in s -/
def setOk (m : Nat) (s t : List Int) : Bool := okSet m t && t.all fun x => decide (¬ x ∈ s)
/-- the state of light -/
structure LS where
  rows : List (List Int)
  sum : List Int
  top : Nat
def clrS (O : FOps) (v : List Int) (i : Nat) (r : List Int) : List Int :=
  if nth v i = 0 then v else List.zipWith (fun a y => if y = 0 then a else O.add a (O.neg (O.mul (nth v i) y))) v r
def clrTo (O : FOps) (t i : Nat) (L : List (List Int)) : Nat → List (List Int)
  | 0 => L
  | l + 1 => if t < l then (clrTo O t i L l).set l (clrS O (nthR (clrTo O t i L l) l) i (nthR (clrTo O t i L l) t)) else clrTo O t i L l
def lgtPiv (O : FOps) (L : List (List Int)) (t k i : Nat) : List (List Int) :=
  clrTo O t i ((swapRow L t k).set t ((nthR (swapRow L t k) t).map (O.mul (O.inv (nth (nthR (swapRow L t k) t) i))))) L.length
def lgtStep (O : FOps) (st : LS) (i : Nat) : LS :=
  if findRow st.rows i st.top = st.rows.length then st
  else ⟨lgtPiv O st.rows st.top (findRow st.rows i st.top) i, clrS O st.sum i (nthR (lgtPiv O st.rows st.top (findRow st.rows i st.top) i) st.top), st.top + 1⟩
def lgtTo (O : FOps) (L : List (List Int)) (y t : List Int) : Nat → LS
  | 0 => ⟨L, y, 0⟩
  | k + 1 => lgtStep O (lgtTo O L y t k) (nth t k).toNat
/-- how many of the first k entries are not 0, outside s -/
def cntTo (s v : List Int) : Nat → Nat
  | 0 => 0
  | k + 1 => if nth v k ≠ 0 ∧ ¬ (k : Int) ∈ s then cntTo s v k + 1 else cntTo s v k
def lightS (O : FOps) (L : List (List Int)) (y s t : List Int) : Nat := cntTo s (lgtTo O L y t t.length).sum (lgtTo O L y t t.length).sum.length
/-- whether a node is right -/
def rightS (O : FOps) (L : List (List Int)) (m : Nat) (C : Clm) (s t : List Int) : Bool :=
  setOk m s t && (decide ((grS O L t).length = t.length) &&
    if C.cos = true then decide ((grS O L (frTo false s m)).length = t.length) && decide (C.W < s.length + lightS O L C.y s t) else decide (t.length = C.M))
def kidsS (C : Clm) (s z t : List Int) : List Int := if s.length < C.W then t.filter fun x => decide (¬ x ∈ z) else []
/-- following the children -/
def kfol (F : List Int → List Int → List (List Int) → Option (List (List Int))) (s : List Int) : List Int → List Int → List (List Int) → Option (List (List Int))
  | _, [], ts => some ts
  | z, k :: ks, ts => match F (s ++ [k]) z ts with
    | none => none
    | some ts' => kfol F s (z ++ [k]) ks ts'
def folS (O : FOps) (L : List (List Int)) (m : Nat) (C : Clm) : Nat → List Int → List Int → List (List Int) → Option (List (List Int))
  | 0, s, _, ts => match ts with
    | [] => none
    | t :: ts => if rightS O L m C s t = true then some ts else none
  | d + 1, s, z, ts => match ts with
    | [] => none
    | t :: ts => if rightS O L m C s t = true then kfol (folS O L m C d) s z (kidsS C s z t) ts else none
def provS (O : FOps) (L : List (List Int)) (m : Nat) (C : Clm) (T : List (List Int)) : Int :=
  match folS O L m C C.W [] [] T with
  | some [] => 0
  | _ => 13
/-- the canonical set -/
def csetS (O : FOps) (L : List (List Int)) (m : Nat) (C : Clm) (s z : List Int) : List Int := sortL (grM O L (outS m s z) (if C.cos = true then m else C.M))
def kbld (F : List Int → List Int → List (List Int) → Int × List (List Int)) (s : List Int) : List Int → List Int → List (List Int) → Int × List (List Int)
  | _, [], T => (0, T)
  | z, k :: ks, T => if (F (s ++ [k]) z T).1 = 0 then kbld F s (z ++ [k]) ks (F (s ++ [k]) z T).2 else ((F (s ++ [k]) z T).1, [])
def bldS (O : FOps) (L : List (List Int)) (m : Nat) (C : Clm) : Nat → List Int → List Int → List (List Int) → Int × List (List Int)
  | 0, s, z, T => if rightS O L m C s (csetS O L m C s z) = true then if T.length = 65536 then (8, []) else (0, T ++ [csetS O L m C s z]) else (11, [])
  | d + 1, s, z, T => if rightS O L m C s (csetS O L m C s z) = true then if T.length = 65536 then (8, []) else kbld (bldS O L m C d) s z (kidsS C s z (csetS O L m C s z)) (T ++ [csetS O L m C s z]) else (11, [])
def treeS (O : FOps) (L : List (List Int)) (m : Nat) (C : Clm) : Int × List (List Int) := bldS O L m C C.W [] [] []

/-! ### laws of the greedy set with a bound -/
theorem grTo_pfx (O : FOps) (L : List (List Int)) (Q : List Int) {k : Nat} : ∀ j, k ≤ j → (grTo O L Q k).2 <+: (grTo O L Q j).2
  | 0, h => by obtain rfl : k = 0 := by omega
               exact List.prefix_rfl
  | j + 1, h => by
    by_cases e : k = j + 1
    · subst e; exact List.prefix_rfl
    · refine (grTo_pfx O L Q j (by omega)).trans ?_
      rw [grTo]
      split
      · exact List.prefix_append _ _
      · exact List.prefix_rfl
theorem grM_stop {O : FOps} {L : List (List Int)} {Q : List Int} {k most : Nat} (hk : k ≤ Q.length) (h : (grTo O L Q k).2.length = most) : grM O L Q most = (grTo O L Q k).2 := by
  obtain ⟨l, hl⟩ := grTo_pfx O L Q Q.length hk
  rw [grM, grS, ← hl, ← h, List.take_left]
theorem grM_all {O : FOps} {L : List (List Int)} {Q : List Int} {most : Nat} (h : (grTo O L Q Q.length).2.length ≤ most) : grM O L Q most = (grTo O L Q Q.length).2 := by
  rw [grM, grS, List.take_of_length_le h]
theorem grTo_le (O : FOps) (L : List (List Int)) (Q : List Int) : ∀ k, (grTo O L Q k).2.length ≤ k
  | 0 => Nat.le_refl _
  | k + 1 => by
    have ih := grTo_le O L Q k
    rw [grTo]
    split
    · simp; omega
    · dsimp only; omega
theorem grS_le (O : FOps) (L : List (List Int)) (Q : List Int) : (grS O L Q).length ≤ Q.length := grTo_le O L Q _
theorem grM_full {O : FOps} {L : List (List Int)} {Q : List Int} {most : Nat} (h : Q.length ≤ most) : grM O L Q most = grS O L Q :=
  List.take_of_length_le (Nat.le_trans (grS_le O L Q) h)
theorem grM_sub {O : FOps} {L : List (List Int)} {Q : List Int} {most : Nat} : ∀ x ∈ grM O L Q most, x ∈ Q := fun x hx =>
  grTo_sub O L Q Q.length (Nat.le_refl _) x (List.mem_of_mem_take hx)
theorem outS_len (m : Nat) (s z : List Int) : (outS m s z).length ≤ z.length + m := by
  unfold outS
  have := frTo_len false (s ++ z) m
  rw [List.length_append, sortL_len]; omega
theorem mem_outS {m : Nat} {s z : List Int} {x : Int} (h : x ∈ outS m s z) : x ∈ z ∨ (0 ≤ x ∧ x < m ∧ ¬ x ∈ s ∧ ¬ x ∈ z) := by
  unfold outS at h
  rcases List.mem_append.1 h with h | h
  · exact .inl ((sortL_perm z).mem_iff.1 h)
  · obtain ⟨j, hj, rfl, hd⟩ := (mem_frTo m).1 h
    have : ¬ (j : Int) ∈ s ++ z := by simpa using hd
    rw [List.mem_append] at this
    exact .inr ⟨by omega, by omega, fun h => this (.inl h), fun h => this (.inr h)⟩
theorem setOk_ok {m : Nat} {s t : List Int} (h : setOk m s t = true) : okSet m t = true ∧ ∀ x ∈ t, ¬ x ∈ s := by
  unfold setOk at h
  rw [Bool.and_eq_true, List.all_eq_true] at h
  exact ⟨h.1, fun x hx => by simpa using h.2 x hx⟩
theorem right_ok {O : FOps} {L : List (List Int)} {m : Nat} {C : Clm} {s t : List Int} (h : rightS O L m C s t = true) : okSet m t = true ∧ ∀ x ∈ t, ¬ x ∈ s := by
  unfold rightS at h
  rw [Bool.and_eq_true] at h
  exact setOk_ok h.1
theorem kids_mem {C : Clm} {s z t : List Int} {x : Int} (h : x ∈ kidsS C s z t) : x ∈ t ∧ ¬ x ∈ z ∧ s.length < C.W := by
  unfold kidsS at h
  split at h
  · rename_i hl
    rw [List.mem_filter] at h
    exact ⟨h.1, by simpa using h.2, hl⟩
  · simp at h
end

/- Plain: what a followed tree proves; that a built tree is followed. -/
section
theorem nodup_sub_len : ∀ {s T : List Int}, s.Nodup → (∀ x ∈ s, x ∈ T) → s.length ≤ T.length
  | [], _, _, _ => Nat.zero_le _
  | x :: s, T, hn, h => by
    have hx : x ∈ T := h x (by simp)
    have hn' := List.nodup_cons.1 hn
    have h1 : ∀ y ∈ s, y ∈ T.erase x := fun y hy => (List.mem_erase_of_ne (fun (e : y = x) => hn'.1 (by rw [← e]; exact hy))).2 (h y (by simp [hy]))
    have h2 := nodup_sub_len hn'.2 h1
    rw [List.length_erase_of_mem hx] at h2
    have : 0 < T.length := List.length_pos_of_mem hx
    simp only [List.length_cons]
    omega
theorem nodup_full {s T : List Int} (hn : s.Nodup) (h : ∀ x ∈ s, x ∈ T) (hl : T.length ≤ s.length) {x : Int} (hx : x ∈ T) : x ∈ s := by
  refine Classical.byContradiction fun hc => ?_
  have := nodup_sub_len (s := x :: s) (T := T) (List.nodup_cons.2 ⟨hc, hn⟩) fun y hy => by
    rcases List.mem_cons.1 hy with rfl | hy
    · exact hx
    · exact h y hy
  simp at this; omega

theorem kfol_node {F : List Int → List Int → List (List Int) → Option (List (List Int))} {s T : List Int} : ∀ (ks z : List Int) (ts rest : List (List Int)), kfol F s z ks ts = some rest → (∀ x ∈ z, ¬ x ∈ T) → (∃ x ∈ ks, x ∈ T) →
    ∃ k z' ts' rest', k ∈ ks ∧ k ∈ T ∧ (∀ x ∈ z', ¬ x ∈ T) ∧ F (s ++ [k]) z' ts' = some rest'
  | [], _, _, _, _, _, h => by obtain ⟨x, hx, _⟩ := h; simp at hx
  | k :: ks, z, ts, rest, h, hz, hk => by
    rw [kfol] at h
    cases hF : F (s ++ [k]) z ts with
    | none => rw [hF] at h; cases h
    | some ts' =>
      rw [hF] at h
      by_cases hkT : k ∈ T
      · exact ⟨k, z, ts, ts', by simp, hkT, hz, hF⟩
      · obtain ⟨k', z', ts'', rest', h1, h2, h3, h4⟩ := kfol_node ks (z ++ [k]) ts' rest h (fun x hx => by
          rcases List.mem_append.1 hx with hx | hx
          · exact hz x hx
          · rw [List.mem_singleton.1 hx]; exact hkT) (by
          obtain ⟨x, hx, hxT⟩ := hk
          rcases List.mem_cons.1 hx with rfl | hx
          · exact absurd hxT hkT
          · exact ⟨x, hx, hxT⟩)
        exact ⟨k', z', ts'', rest', List.mem_cons_of_mem _ h1, h2, h3, h4⟩

variable {O : FOps} {L : List (List Int)} {m : Nat} {C : Clm}

/-- a followed tree has, for each set of at most W positions, a right node whose set misses it -/
theorem fol_node : ∀ (d : Nat) (s z : List Int) (ts rest : List (List Int)), s.length + d = C.W → s.Nodup → folS O L m C d s z ts = some rest → ∀ T : List Int, T.length ≤ C.W → (∀ x ∈ s, x ∈ T) → (∀ x ∈ z, ¬ x ∈ T) →
    ∃ s' t, rightS O L m C s' t = true ∧ s'.Nodup ∧ (∀ x ∈ s', x ∈ T) ∧ ∀ x ∈ t, ¬ x ∈ T
  | 0, s, z, ts, rest, hd, hn, h, T, hT, hs, hz => by
    match ts with
    | [] => simp [folS] at h
    | t :: ts =>
      rw [folS] at h
      by_cases hr : rightS O L m C s t = true
      · exact ⟨s, t, hr, hn, hs, fun x hx hxT => (right_ok hr).2 x hx (nodup_full hn hs (by omega) hxT)⟩
      · rw [if_neg hr] at h; cases h
  | d + 1, s, z, ts, rest, hd, hn, h, T, hT, hs, hz => by
    match ts with
    | [] => simp [folS] at h
    | t :: ts =>
      rw [folS] at h
      by_cases hr : rightS O L m C s t = true
      · rw [if_pos hr] at h
        by_cases ht : ∃ x ∈ t, x ∈ T
        · obtain ⟨x, hx, hxT⟩ := ht
          have hxk : x ∈ kidsS C s z t := by
            unfold kidsS
            rw [if_pos (by omega), List.mem_filter]
            exact ⟨hx, by simpa using fun hxz => hz x hxz hxT⟩
          obtain ⟨k, z', ts', rest', h1, h2, h3, h4⟩ := kfol_node _ _ _ _ h hz ⟨x, hxk, hxT⟩
          have hks := (right_ok hr).2 k (kids_mem h1).1
          refine fol_node d (s ++ [k]) z' ts' rest' (by simp; omega) ?_ h4 T hT ?_ h3
          · rw [List.nodup_append]
            exact ⟨hn, by simp, fun a ha b hb e => hks (by rw [List.mem_singleton.1 hb] at e; exact e ▸ ha)⟩
          · intro y hy
            rcases List.mem_append.1 hy with hy | hy
            · exact hs y hy
            · rw [List.mem_singleton.1 hy]; exact h2
        · exact ⟨s, t, hr, hn, hs, fun x hx hxT => ht ⟨x, hx, hxT⟩⟩
      · rw [if_neg hr] at h; cases h

theorem prov_node {ts : List (List Int)} (h : provS O L m C ts = 0) (T : List Int) (hT : T.length ≤ C.W) : ∃ s' t, rightS O L m C s' t = true ∧ s'.Nodup ∧ (∀ x ∈ s', x ∈ T) ∧ ∀ x ∈ t, ¬ x ∈ T := by
  unfold provS at h
  split at h
  · rename_i hf
    exact fol_node C.W [] [] ts [] (by simp) (by simp) hf T hT (fun x hx => by simp at hx) fun x hx => by simp at hx
  · cases h

/-! ### a built tree is followed -/
theorem kbld_fol {B : List Int → List Int → List (List Int) → Int × List (List Int)} {F : List Int → List Int → List (List Int) → Option (List (List Int))} {s : List Int}
    (hBF : ∀ s' z T T', B s' z T = (0, T') → ∃ X, T' = T ++ X ∧ ∀ rest, F s' z (X ++ rest) = some rest) : ∀ (ks z : List Int) (T T' : List (List Int)), kbld B s z ks T = (0, T') → ∃ X, T' = T ++ X ∧ ∀ rest, kfol F s z ks (X ++ rest) = some rest
  | [], z, T, T', h => by
    rw [kbld] at h
    cases h
    exact ⟨[], by simp, fun rest => rfl⟩
  | k :: ks, z, T, T', h => by
    rw [kbld] at h
    by_cases h0 : (B (s ++ [k]) z T).1 = 0
    · rw [if_pos h0] at h
      obtain ⟨X, hX, hF⟩ := hBF (s ++ [k]) z T (B (s ++ [k]) z T).2 (by rw [← h0])
      obtain ⟨Y, hY, hK⟩ := kbld_fol hBF ks (z ++ [k]) _ T' h
      refine ⟨X ++ Y, by rw [hY, hX, List.append_assoc], fun rest => ?_⟩
      rw [kfol, List.append_assoc, hF]
      exact hK rest
    · rw [if_neg h0] at h
      have := congrArg Prod.fst h
      exact absurd this h0
theorem bld_fol : ∀ (d : Nat) (s z : List Int) (T T' : List (List Int)), bldS O L m C d s z T = (0, T') → ∃ X, T' = T ++ X ∧ ∀ rest, folS O L m C d s z (X ++ rest) = some rest
  | 0, s, z, T, T', h => by
    rw [bldS] at h
    split at h
    · rename_i hr
      split at h
      · cases h
      · cases h
        exact ⟨_, rfl, fun rest => by rw [List.singleton_append, folS, if_pos hr]⟩
    · cases h
  | d + 1, s, z, T, T', h => by
    rw [bldS] at h
    split at h
    · rename_i hr
      split at h
      · cases h
      · obtain ⟨X, hX, hF⟩ := kbld_fol (bld_fol d) _ _ _ _ h
        exact ⟨csetS O L m C s z :: X, by rw [hX]; simp, fun rest => by rw [List.cons_append, folS]; (try dsimp only); rw [if_pos hr]; exact hF rest⟩
    · cases h
theorem tree_prov {T : List (List Int)} (h : treeS O L m C = (0, T)) : provS O L m C T = 0 := by
  obtain ⟨X, hX, hF⟩ := bld_fol _ _ _ _ _ h
  have h1 := hF []
  rw [List.append_nil] at h1
  rw [List.nil_append] at hX
  unfold provS
  rw [hX, h1]
end

/- The first entry with a property; slices.Index. -/
section
open Go.RowKit
end

/- The walks of infoset.Is, is. -/
section
open Go.RowKit
end

/- The walk of infoset.Exchange. -/
section
open Go.RowKit

theorem InNs.set {m : Nat} {A : List Int} (hA : ∀ k, k < A.length → 0 ≤ nth A k ∧ nth A k < m) {t : Nat} (ht : t < A.length) {j : Int} (hj : 0 ≤ j ∧ j < m) : ∀ k, k < A.length → 0 ≤ nth (A.set t j) k ∧ nth (A.set t j) k < m := fun k hk => by
  rw [nth_set _ _ _ _ ht]
  split
  · exact hj
  · exact hA k hk
end

/- The family of a code by the reference's rounds, and exchanges by sorted sets (plain laws). -/
section
theorem frTo_pair (b : Bool) (U : List Int) : ∀ k, (frTo b U k).Pairwise (fun x y => x < y)
  | 0 => List.Pairwise.nil
  | k + 1 => by
    have ih := frTo_pair b U k
    rw [frTo]
    split
    · rw [List.pairwise_append]
      refine ⟨ih, by simp, fun x hx y hy => ?_⟩
      rw [List.mem_singleton] at hy
      obtain ⟨j, hj, rfl, _⟩ := (mem_frTo k).1 hx
      omega
    · exact ih
/-- the used ones, sorted -/
theorem used_sort {m : Nat} {U : List Int} (hn : U.Nodup) (hU : ∀ x ∈ U, 0 ≤ x ∧ x < (m : Int)) : sortL U = frTo true U m := by
  have h := frTo_pair true U m
  refine (sortL_unique (h.imp fun h => by omega) ((List.perm_ext_iff_of_nodup (h.imp fun h => by omega) hn).2 fun x => ?_)).symm
  rw [mem_frTo]
  constructor
  · rintro ⟨j, _, rfl, h1⟩; simpa using h1
  · intro hx
    have h1 := hU x hx
    exact ⟨x.toNat, by omega, by omega, by rw [show ((x.toNat : Nat) : Int) = x by omega]; simpa using hx⟩
theorem used_len {m : Nat} {U : List Int} (hn : U.Nodup) (hU : ∀ x ∈ U, 0 ≤ x ∧ x < (m : Int)) : U.length ≤ m := by
  rw [← sortL_len, used_sort hn hU]; exact frTo_len _ _ _
theorem okSet_nodup {N : Int} {A : List Int} (h : okSet N A = true) : A.Nodup := by
  refine nth_inj_nodup fun i j hij hj => ?_
  have key : ∀ d i, i + d < A.length → 0 < d → nth A i < nth A (i + d) := fun d => by
    induction d with
    | zero => intro i _ h0; omega
    | succ d ih =>
      intro i hi _
      have h1 := (okSet_at h hi).2.2 (by omega)
      rw [show i + (d + 1) - 1 = i + d by omega] at h1
      by_cases h0 : d = 0
      · subst h0; exact h1
      · have := ih i (by omega) (by omega); omega
  have := key (j - i) i (by omega) (by omega)
  rw [show i + (j - i) = j by omega] at this
  omega
section
variable {O : FOps} {El : Int → Prop} {m : Nat} {L : List (List Int)}
end
end

/- The walks of slices.Values, AppendSeq, Collect at []int. -/
section
open Go.RowKit Go.Shelf

attribute [local go_sem] Oper.semAt_some

theorem take_nth (l : List Int) {k : Nat} (h : k < l.length) : l.take (k + 1) = l.take k ++ [nth l k] := by
  rw [List.take_succ_eq_append_getElem h, nth_getElem h]

set_option maxRecDepth 100000 in
set_option maxHeartbeats 2000000 in
/-- the iterator of slices.Values -/
theorem iterVals1_in (F : Fence) (n : Nat) (hF : F.fn 226) (hro : F.round = none) (hn : 1 ≤ n) (l Bs n₀ : Nat) (a : Option Addr) (len cap : Nat) (zs : List Int) (hreach : len * 8 ≤ 140737488351232) (J Jx : List Int → World → Prop)
    (hY : ∀ pre x W, J pre W → pre.length < len → YieldAt F (n - 1) Tryz.prog l #[.int .i64 x] W fun e W' =>
      (e = .returned (.bool true) ∧ J (pre ++ [x]) W' ∧ Below n₀ W W') ∨ (e = .returned (.bool false) ∧ Jx (pre ++ [x]) W'))
    (W : World) (hBs : W.cell? ⟨Bs, 0, none⟩ = some (.slice a len cap)) (hc : Ints W a len zs) (hb : 0 < len → ablk a < n₀) (h0 : J [] W) :
    CallsIn F n Tryz.prog 226 #[.func (.yield l) #[] #[], .pointer (some ⟨Bs, 0, none⟩)] W fun e W' => (∃ v, e = .returned v) ∧
      ((∃ ys, ys = zs ∧ J ys W') ∨ (∃ pre, (∃ k, k ≤ len ∧ pre = zs.take k) ∧ Jx pre W')) := by
  have hpl := hc.pl
  have Hlen := Lib.hid hc.len
  refine callsIn_of_wp Tryz.func226 rfl hF ?_ hro
  simp only [Tryz.ntmps226, List.size_toArray, List.length_cons, List.length_nil, Nat.reduceAdd, Nat.reduceSub, Array.replicate_succ, Array.replicate_zero, List.push_toArray, List.append_toArray, List.nil_append, List.cons_append]
  gi_wp2
  gi_loopw [7] (fun i wr => ∃ k : Nat, k ≤ len ∧ i = .int .i64 k ∧ J (zs.take k) wr ∧ Below n₀ W wr)
    (fun i _ => len - (intOf i).toNat)
  case atStart => exact ⟨0, Nat.zero_le _, rfl, h0, Below.refl _ _⟩
  case round =>
    obtain ⟨k, hk, rfl, hJs, hnx⟩ := hrel
    by_cases hlt : k < len
    · have hcx := (hc.below hnx hb).cell k hlt
      have htk := take_nth zs (k := k) (by rw [Hlen.out]; exact hlt)
      have Htk := Lib.hid htk
      obtain ⟨fn, tmps, assign, body, hy, hR⟩ := hY _ (nth zs k) wr hJs (by rw [List.length_take, Hlen.out]; omega)
      rw [← htk] at hR
      clear htk
      gi_wp2
      refine hR.mono ?_
      rintro e W3 (⟨rfl, hJ3, hk3⟩ | ⟨rfl, hJx3⟩)
      · gi_wp2
        go_roundw
        case rel => exact ⟨k + 1, by omega, by simp, hJ3, hnx.trans hk3⟩
        case measure => simp [intOf]; omega
      · gi_wp2
        refine bodyPost_ret (results_none rfl _ _ _) rfl ?_
        exact ⟨⟨_, rfl⟩, .inr ⟨_, ⟨k + 1, by omega, rfl⟩, hJx3⟩⟩
    · obtain rfl : k = len := by omega
      rw [List.take_of_length_le (by rw [Hlen.out]; exact Nat.le_refl _)] at hJs
      gi_wp2
      go_end0
      exact ⟨⟨_, rfl⟩, .inl ⟨_, rfl, hJs⟩⟩

set_option maxHeartbeats 1000000 in
/-- slices.Values: the slice is boxed; the function value captures the box -/
theorem iterVals_in (F : Fence) (n : Nat) (hF : F.fn 202) (hro : F.round = none) (a : Option Addr) (len cap : Nat) (w : World) :
    CallsIn F n Tryz.prog 202 #[.slice a len cap] w fun e w' => e = .returned (.func (.func 226) #[] #[.pointer (some ⟨w.heap.size, 0, none⟩)]) ∧ w' = w.alloc (.cells #[.slice a len cap] 22) := by
  refine callsIn_of_wp Tryz.func202 rfl hF ?_ hro
  simp only [Tryz.ntmps202, List.size_toArray, List.length_cons, List.length_nil, Nat.reduceAdd, Nat.reduceSub, Array.replicate_succ, Array.replicate_zero, List.push_toArray, List.append_toArray, List.nil_append, List.cons_append]
  gi_wp2
  go_ret
  exact ⟨rfl, rfl⟩

/-- it hands back all of the slice's numbers, in their order, or a beginning of them -/
theorem iterVals_stops (F : Fence) (n : Nat) (hF : F.fn 226) (hro : F.round = none) (hn : 1 ≤ n) (Bs n₀ : Nat) (a : Option Addr) (len cap : Nat) (zs : List Int) (hreach : len * 8 ≤ 140737488351232) (w : World) (hBs : Bs < w.heap.size) (hn₀ : n₀ ≤ w.heap.size)
    (hc : w.cell? ⟨Bs, 0, none⟩ = some (.slice a len cap)) (hI : Ints w a len zs) (hb : 0 < len → ablk a < n₀) :
    SeqStopsK F n Tryz.prog 226 #[.pointer (some ⟨Bs, 0, none⟩)] (fun x : Int => #[Value.int .i64 x]) (Below n₀) (fun ys => ys = zs) (fun pre => pre <+: zs) len w := fun l J Jx W hW _ _ hY h0 => by
  have hc' := (hW.cell (p := ⟨Bs, 0, none⟩) hBs).trans hc
  refine (iterVals1_in F n hF hro hn l Bs n₀ a len cap zs hreach J Jx hY W hc' (hI.below (hW.mono hn₀) hb) hb h0).mono ?_
  rintro e W' ⟨he, ⟨ys, rfl, hj⟩ | ⟨pre, ⟨k, hk, rfl⟩, hj⟩⟩
  · exact ⟨he, .inl ⟨_, rfl, hj⟩⟩
  · exact ⟨he, .inr ⟨_, List.take_prefix _ _, hj⟩⟩

set_option maxRecDepth 100000 in
set_option maxHeartbeats 2000000 in
/-- slices.AppendSeq onto nil, over the numbers of a slice -/
theorem appendSeq_in (F : Fence) (n : Nat) (hA : F.fn 243) (hV : F.fn 226) (hro : F.round = none) (hn : 3 ≤ n) (Bs : Nat) (a : Option Addr) (len cap : Nat) (zs : List Int) (hlen : len ≤ 1000000) (w : World) (hBs : Bs < w.heap.size)
    (hc : w.cell? ⟨Bs, 0, none⟩ = some (.slice a len cap)) (hI : Ints w a len zs) :
    CallsIn F n Tryz.prog 243 #[.slice none 0 0, .func (.func 226) #[] #[.pointer (some ⟨Bs, 0, none⟩)]] w fun e W' =>
      ∃ v, e = .returned v ∧ W'.ownsRow w.heap.size 3 1 v len (zs.map (Value.int .i64)) ∧ Below w.heap.size w W' := by
  have h1 : 1 ≤ n := by omega
  have Hlen := Lib.hid hI.len
  obtain ⟨i0, hi, hz0, hz1, hz2⟩ := info_parts infoInt
  refine callsIn_of_wp_marks Tryz.func243 rfl hA ?_ hro
  simp only [Tryz.ntmps243, List.size_toArray, List.length_cons, List.length_nil, Nat.reduceAdd, Nat.reduceSub, Array.replicate_succ, Array.replicate_zero, List.push_toArray, List.append_toArray, List.nil_append, List.cons_append]
  gi_wp2
  have bO := Boxed.new w 22 (.slice none 0 0)
  have hB0 : Below w.heap.size w (w.alloc (.cells #[.slice none 0 0] 22)) := (Below.refl _ w).alloc (Nat.le_refl _) _
  refine wpIn_rangeFunc_ownG hro h1 (gf := 226) (lb := #[.pointer (some ⟨Bs, 0, none⟩)]) rfl hV (enters_of Tryz.func226 (by kernel_rfl) rfl)
    (iterVals_stops F (n - 1) hV hro (by omega) Bs w.heap.size a len cap zs (by omega) w hBs (Nat.le_refl _) hc hI (fun h => hI.lt h)) belowK_t (belowK_b (by simp)) hB0 (fun _ => rfl)
    (fun pre W => (∃ v, Boxed W w.heap.size 22 v ∧ W.ownsRow w.heap.size 3 1 v pre.length (pre.map (Value.int .i64)) ∧ True) ∧ Below w.heap.size w W)
    (fun _ _ _ => False)
    (OwnFrom.and (Own.from (holdsRow_own w.heap.size w.heap.size 22 3 1 (fun pre : List Int => pre.length) (fun pre => pre.map (Value.int .i64)) (fun _ _ => True)) _) (ownFrom_below (Nat.le_refl _) (by simp)))
    (fun _ _ _ _ _ hs _ _ => hs)
    ⟨⟨_, bO, World.ownsRow_nil _ _ _ _, trivial⟩, hB0⟩
    (fun x => { tmps := #[.slice none 0 0, .func (.func 226) #[] #[.pointer (some ⟨Bs, 0, none⟩)], .pointer (some ⟨w.heap.size, 0, none⟩), undef, .slice none 0 0, .int .i64 x, .func (.func 226) #[] #[.pointer (some ⟨Bs, 0, none⟩)], .int .i64 x, undef, undef, undef, undef, undef], defers := [] }) ?assign ?body ?done ?stop
  case assign =>
    intro l x W K hK
    gi_wp2
    exact hK
  case body =>
    rintro l pre x W ⟨⟨v, hv, hrow, _⟩, hB⟩ hlt
    have hcv := hv.cell
    gi_wp2_with (gi_at_builtin; refine wpListIn_append_own _ rfl _ _ 22 rfl w.heap.size 3 i0 (.int .i64 0) 1 8 Tryz.underlying22 hi hz0 hz1 hz2 rfl (by decide) _ _ _ rfl (hrow.alloc _) ⟨W.heap.size, 0, none⟩ 1 1 [.int .i64 x] rfl rfl (cell_one_new _ _ _) (by simp [Value.oneCell']) (by unfold maxLen; omega) (by omega) (by have := hB.size; simp; omega) ?_; intro v' w1 hown' hgrow _; obtain ⟨g', cap', rfl⟩ := ownsRow_succ hown'; obtain ⟨hv1, hv2, hr2, hk2, hb2⟩ := hv.appended (by decide) hrow hB.size (Nat.le_refl _) hown' hgrow; have hc1 := hv1.cell; have hf1 := hv1.frozen)
    exact ⟨hk2.from _, hb2, ⟨_, hv2, by simpa using hr2, trivial⟩, hB.trans hb2⟩
  case done =>
    rintro D ys W hD rfl ⟨⟨v, hv, hrow, _⟩, hB⟩ hK
    have hcv := hv.cell
    gi_wp2
    refine ⟨by simp, .inl ⟨_, _, rfl, run_takeDeferred hK, ?_⟩⟩
    exact ⟨_, results_tmp rfl _ _ _, v, rfl, by have := ownsRow_putObj hrow (.deferred none) hK rfl; rw [Hlen.out] at this; exact this, hB.trans (belowK_b (w := w) (Nat.le_refl _) W D _ _ (by simp at hD; omega) hK rfl rfl)⟩
  case stop =>
    rintro D c pre W _ _ h _
    exact h.elim

set_option maxRecDepth 100000 in
set_option maxHeartbeats 2000000 in
/-- slices.Collect over the numbers of a slice -/
theorem collect_in (F : Fence) (n : Nat) (hC : F.fn 225) (hA : F.fn 243) (hV : F.fn 226) (hro : F.round = none) (hn : 4 ≤ n) (Bs : Nat) (a : Option Addr) (len cap : Nat) (zs : List Int) (hlen : len ≤ 1000000) (w : World) (hBs : Bs < w.heap.size)
    (hc : w.cell? ⟨Bs, 0, none⟩ = some (.slice a len cap)) (hI : Ints w a len zs) :
    CallsIn F n Tryz.prog 225 #[.func (.func 226) #[] #[.pointer (some ⟨Bs, 0, none⟩)]] w fun e W' =>
      ∃ v, e = .returned v ∧ W'.ownsRow w.heap.size 3 1 v len (zs.map (Value.int .i64)) ∧ Below w.heap.size w W' := by
  refine callsIn_of_wp Tryz.func225 rfl hC ?_ hro
  simp only [Tryz.ntmps225, List.size_toArray, List.length_cons, List.length_nil, Nat.reduceAdd, Nat.reduceSub, Array.replicate_succ, Array.replicate_zero, List.push_toArray, List.append_toArray, List.nil_append, List.cons_append]
  gi_wp2
  refine ⟨fun _ => by omega, ?_⟩
  refine (appendSeq_in F (n - 1) hA hV hro (by omega) Bs a len cap zs hlen _ hBs hc hI).mono ?_
  rintro e W' ⟨v, rfl, hown, hb⟩
  gi_wp2
  go_ret
  exact ⟨v, rfl, hown, hb⟩

theorem values_any (a : Option Addr) (len cap : Nat) (w : World) :
    Calls Tryz.prog 202 #[.slice a len cap] w fun e w' => e = .returned (.func (.func 226) #[] #[.pointer (some ⟨w.heap.size, 0, none⟩)]) ∧ w' = w.alloc (.cells #[.slice a len cap] 22) :=
  callsIn_wide.1 (iterVals_in Fence.wide 8 trivial rfl a len cap w)
theorem collect_any (Bs : Nat) (a : Option Addr) (len cap : Nat) (zs : List Int) (hlen : len ≤ 1000000) (w : World) (hBs : Bs < w.heap.size) (hc : w.cell? ⟨Bs, 0, none⟩ = some (.slice a len cap)) (hI : Ints w a len zs) :
    Calls Tryz.prog 225 #[.func (.func 226) #[] #[.pointer (some ⟨Bs, 0, none⟩)]] w fun e W' =>
      ∃ v, e = .returned v ∧ W'.ownsRow w.heap.size 3 1 v len (zs.map (Value.int .i64)) ∧ Below w.heap.size w W' :=
  callsIn_wide.1 (collect_in Fence.wide 8 trivial trivial trivial rfl (by omega) Bs a len cap zs hlen w hBs hc hI)
end

/- Plain: how many nodes a canonical tree has; when it is built. -/
section
/-- the binomial coefficient of r + d and d -/
def bn : Nat → Nat → Nat
  | _, 0 => 1
  | 0, _ + 1 => 1
  | r + 1, d + 1 => bn r (d + 1) + bn (r + 1) d
theorem bn_pos : ∀ r d, 1 ≤ bn r d
  | _, 0 => by rw [bn]; exact Nat.le_refl _
  | 0, _ + 1 => by rw [bn]; exact Nat.le_refl _
  | r + 1, d + 1 => by have := bn_pos r (d + 1); rw [bn]; omega
variable {O : FOps} {El : Int → Prop} {m : Nat} {L : List (List Int)}

/-! ### ranks of lists -/
theorem rkQ_snoc_le (F : Fld O El) (hL : Rws El m L) (Q : List Int) (x : Int) : rkQ O L (Q ++ [x]) ≤ rkQ O L Q + 1 := by
  have h1 := rkQ_rk F hL (Q ++ [x])
  rw [gA_snoc] at h1
  have h2 := rkQ_rk F hL Q
  generalize rkQ O L (Q ++ [x]) = n at *
  cases h1 with
  | dep _ _ h => rw [h2.uniq h]; omega
  | ind _ _ h => rw [h2.uniq h]; omega
theorem rkQ_app_le (F : Fld O El) (hL : Rws El m L) (Q : List Int) : ∀ (n : Nat) (A : List Int), A.length = n → rkQ O L (Q ++ A) ≤ rkQ O L Q + n
  | 0, A, h => by rw [List.eq_nil_of_length_eq_zero h, List.append_nil]; omega
  | n + 1, A, h => by
    have hA : A ≠ [] := fun e => by rw [e] at h; simp at h
    obtain ⟨A', x, rfl⟩ : ∃ A' x, A = A' ++ [x] := ⟨A.dropLast, A.getLast hA, (List.dropLast_concat_getLast hA).symm⟩
    have ih := rkQ_app_le F hL Q n A' (by simpa using h)
    have h1 := rkQ_snoc_le F hL (Q ++ A') x
    rw [List.append_assoc] at h1
    omega
theorem rkQ_le (O : FOps) (L : List (List Int)) (Q : List Int) : rkQ O L Q ≤ Q.length := grS_le O L Q
theorem ind_left (F : Fld O El) (hL : Rws El m L) {Q A : List Int} (h : rkQ O L (Q ++ A) = (Q ++ A).length) : rkQ O L Q = Q.length := by
  have h1 := rkQ_app_le F hL Q _ A rfl
  have h2 := rkQ_le O L Q
  rw [List.length_append] at h
  omega
theorem rkQ_mono (F : Fld O El) (hL : Rws El m L) {Q Q' : List Int} (h : ∀ x ∈ Q, x ∈ Q') : rkQ O L Q ≤ rkQ O L Q' :=
  rkQ_span F hL fun x hx => by
    obtain ⟨y, hy, e⟩ := mem_gA.1 hx
    exact (col_clo F hL).mem _ _ (mem_gA.2 ⟨y, h y hy, e⟩)
theorem rest_perm {t z : List Int} (ht : t.Nodup) (hz : z.Nodup) (h : ∀ x ∈ z, x ∈ t) : (z ++ t.filter fun x => decide (¬ x ∈ z)).Perm t := by
  have hn : (z ++ t.filter fun x => decide (¬ x ∈ z)).Nodup := by
    rw [List.nodup_append]
    refine ⟨hz, ht.filter _, fun a ha b hb e => ?_⟩
    rw [List.mem_filter] at hb
    have := hb.2
    simp only [decide_eq_true_eq] at this
    exact this (e ▸ ha)
  rw [List.perm_ext_iff_of_nodup hn ht]
  intro a
  rw [List.mem_append, List.mem_filter]
  constructor
  · rintro (h1 | h1)
    · exact h a h1
    · exact h1.1
  · intro h1
    by_cases h2 : a ∈ z
    · exact .inl h2
    · exact .inr ⟨h1, by simpa using h2⟩
theorem rkQ_gr (F : Fld O El) (hL : Rws El m L) (Q : List Int) : rkQ O L (grS O L Q) = (grS O L Q).length :=
  (rkQ_rk F hL (grS O L Q)).uniq (gr_out F hL Q Q.length).1
theorem grM_ind (F : Fld O El) (hL : Rws El m L) (Q : List Int) (most : Nat) : rkQ O L (grM O L Q most) = (grM O L Q most).length := by
  refine ind_left F hL (A := (grS O L Q).drop most) ?_
  rw [grM, List.take_append_drop]
  exact rkQ_gr F hL Q
/-- an independent beginning is taken whole -/
theorem grTo_pre (O : FOps) (L : List (List Int)) (Z A : List Int) : ∀ k, k ≤ Z.length → grTo O L (Z ++ A) k = grTo O L Z k
  | 0, _ => rfl
  | k + 1, h => by
    have e : nth (Z ++ A) k = nth Z k := by
      rw [nth_getElem (show k < (Z ++ A).length by simp; omega), nth_getElem (show k < Z.length by omega), List.getElem_append_left]
    rw [grTo, grTo, grTo_pre O L Z A k (by omega), e]
theorem grTo_whole (O : FOps) (L : List (List Int)) (Z : List Int) (h : (grTo O L Z Z.length).2.length = Z.length) : ∀ k, k ≤ Z.length → (grTo O L Z k).2 = Z.take k
  | 0, _ => by simp [grTo]
  | k + 1, hk => by
    have ih := grTo_whole O L Z h k (by omega)
    have hgrow : ∀ d, k + 1 + d ≤ Z.length → (grTo O L Z (k + 1 + d)).2.length ≤ (grTo O L Z (k + 1)).2.length + d := by
      intro d
      induction d with
      | zero => intro _; exact Nat.le_refl _
      | succ d ihd =>
        intro hd
        have h1 := ihd (by omega)
        show (grTo O L Z (k + 1 + d + 1)).2.length ≤ _
        rw [grTo]
        split
        · simp; omega
        · dsimp only; omega
    have h2 := hgrow (Z.length - (k + 1)) (by omega)
    rw [show k + 1 + (Z.length - (k + 1)) = Z.length by omega, h] at h2
    have hkl : (grTo O L Z k).2.length ≤ k := grTo_le O L Z k
    rw [grTo] at h2 ⊢
    by_cases ht : (grTo O L Z k).1.takes O (colS L (nth Z k).toNat) = true
    · rw [if_pos ht, ih, ← take_nth Z (by omega)]
    · rw [if_neg ht] at h2
      dsimp only at h2
      omega
theorem gr_front {Z A : List Int} (h : rkQ O L Z = Z.length) {most : Nat} (hm : Z.length ≤ most) {x : Int} (hx : x ∈ Z) : x ∈ grM O L (Z ++ A) most := by
  have h1 : (grTo O L (Z ++ A) Z.length).2 = Z := by
    rw [grTo_pre O L Z A _ (Nat.le_refl _), grTo_whole O L Z h _ (Nat.le_refl _), List.take_length]
  obtain ⟨l, hl⟩ := grTo_pfx O L (Z ++ A) (k := Z.length) (Z ++ A).length (by simp)
  rw [h1] at hl
  rw [grM, grS, ← hl, List.take_append, List.take_of_length_le hm]
  exact List.mem_append.2 (.inl hx)

/-! ### the nodes -/
variable {C : Clm}
def sizK (O : FOps) (L : List (List Int)) (m : Nat) (C : Clm) (s : List Int) : Nat := if C.cos = true then rkQ O L (frTo false s m) else C.M
structure NodeOk (O : FOps) (L : List (List Int)) (m : Nat) (C : Clm) (s z : List Int) : Prop where
  sn : s.Nodup
  sb : ∀ x ∈ s, 0 ≤ x ∧ x < (m : Int)
  zn : z.Nodup
  zb : ∀ x ∈ z, 0 ≤ x ∧ x < (m : Int)
  sz : ∀ x ∈ z, ¬ x ∈ s
  zi : rkQ O L z = z.length
  zk : ¬ C.cos = true → z.length ≤ C.M
theorem NodeOk.root : NodeOk O L m C [] [] := ⟨by simp, fun x hx => by simp at hx, by simp, fun x hx => by simp at hx, fun x hx => by simp at hx, rfl, fun _ => Nat.zero_le _⟩
theorem right_len {s t : List Int} (h : rightS O L m C s t = true) : t.length = sizK O L m C s ∧ rkQ O L t = t.length := by
  unfold rightS at h
  rw [Bool.and_eq_true, Bool.and_eq_true, decide_eq_true_eq] at h
  refine ⟨?_, h.2.1⟩
  have h2 := h.2.2
  unfold sizK
  split
  · rename_i hc
    rw [if_pos hc, Bool.and_eq_true, decide_eq_true_eq] at h2
    exact h2.1.symm
  · rename_i hc
    rw [if_neg hc, decide_eq_true_eq] at h2
    exact h2
theorem out_nodup {s z : List Int} (hz : z.Nodup) : (outS m s z).Nodup := by
  unfold outS
  rw [List.nodup_append]
  refine ⟨(sortL_perm z).nodup_iff.2 hz, (frTo_pair false (s ++ z) m).imp fun h => by omega, fun a ha b hb e => ?_⟩
  obtain ⟨j, hj, rfl, hd⟩ := (mem_frTo m).1 hb
  have hn : ¬ (j : Int) ∈ s ++ z := by simpa using hd
  exact hn (List.mem_append.2 (.inr ((sortL_perm z).mem_iff.1 (e ▸ ha))))
theorem cset_mem {s z : List Int} {x : Int} : x ∈ csetS O L m C s z ↔ x ∈ grM O L (outS m s z) (if C.cos = true then m else C.M) := (sortL_perm _).mem_iff
theorem cset_nodup {s z : List Int} (hz : z.Nodup) : (csetS O L m C s z).Nodup := by
  unfold csetS
  refine (sortL_perm _).nodup_iff.2 ?_
  unfold grM
  refine List.Nodup.sublist (List.take_sublist _ _) ?_
  exact gr_nodup (out_nodup hz)
where gr_nodup {Q : List Int} (hQ : Q.Nodup) : (grS O L Q).Nodup := List.Nodup.sublist (gr_sub Q Q.length (Nat.le_refl _)) (by rw [List.take_length]; exact hQ)
      gr_sub (Q : List Int) : ∀ k, k ≤ Q.length → ((grTo O L Q k).2).Sublist (Q.take k)
  | 0, _ => by simp [grTo]
  | k + 1, h => by
    have ih := gr_sub Q k (by omega)
    rw [grTo, List.take_succ_eq_append_getElem (by omega)]
    split
    · rw [nth_getElem (show k < Q.length by omega)]; exact ih.append (List.Sublist.refl _)
    · exact ih.trans (List.sublist_append_left _ _)
theorem used_le {z : List Int} (hn : z.Nodup) (hb : ∀ x ∈ z, 0 ≤ x ∧ x < (m : Int)) : z.length ≤ m := used_len hn hb
theorem rkQ_sort (F : Fld O El) (hL : Rws El m L) (z : List Int) : rkQ O L (sortL z) = rkQ O L z := rkQ_perm F hL (sortL_perm z)
theorem cset_front (F : Fld O El) (hL : Rws El m L) {s z : List Int} (h : NodeOk O L m C s z) : ∀ x ∈ z, x ∈ csetS O L m C s z := fun x hx => by
  rw [cset_mem]
  unfold outS
  refine gr_front ?_ ?_ ((sortL_perm z).mem_iff.2 hx)
  · rw [sortL_len, rkQ_sort F hL]; exact h.zi
  · rw [sortL_len]
    split
    · exact used_le h.zn h.zb
    · rename_i hc
      exact h.zk hc
theorem cset_in {s z : List Int} (h : NodeOk O L m C s z) {x : Int} (hx : x ∈ csetS O L m C s z) : (0 ≤ x ∧ x < (m : Int)) ∧ ¬ x ∈ s := by
  rcases mem_outS (grM_sub x (cset_mem.1 hx)) with h1 | ⟨h1, h2, h3, _⟩
  · exact ⟨h.zb x h1, h.sz x h1⟩
  · exact ⟨⟨h1, h2⟩, h3⟩
theorem out_iff {s z : List Int} (h : NodeOk O L m C s z) (x : Int) : x ∈ outS m s z ↔ x ∈ frTo false s m := by
  rw [mem_frTo]
  constructor
  · intro hx
    rcases mem_outS hx with h1 | ⟨h1, h2, h3, _⟩
    · have hb := h.zb x h1
      exact ⟨x.toNat, by omega, by omega, by rw [Int.toNat_of_nonneg hb.1]; simpa using h.sz x h1⟩
    · exact ⟨x.toNat, by omega, by omega, by rw [Int.toNat_of_nonneg h1]; simpa using h3⟩
  · rintro ⟨j, hj, rfl, hd⟩
    unfold outS
    by_cases hz : (j : Int) ∈ z
    · exact List.mem_append.2 (.inl ((sortL_perm z).mem_iff.2 hz))
    · refine List.mem_append.2 (.inr ((mem_frTo m).2 ⟨j, hj, rfl, ?_⟩))
      have : ¬ (j : Int) ∈ s := by simpa using hd
      simp [this, hz]
theorem rkQ_outS (F : Fld O El) (hL : Rws El m L) {s z : List Int} (h : NodeOk O L m C s z) : rkQ O L (outS m s z) = rkQ O L (frTo false s m) := by
  have h1 := rkQ_mono F hL fun x hx => (out_iff h x).1 hx
  have h2 := rkQ_mono F hL fun x hx => (out_iff h x).2 hx
  omega
theorem cset_len (F : Fld O El) (hL : Rws El m L) {s z : List Int} (h : NodeOk O L m C s z) : (csetS O L m C s z).length = min (if C.cos = true then m else C.M) (rkQ O L (frTo false s m)) := by
  unfold csetS
  rw [sortL_len, grM, List.length_take]
  have := rkQ_outS F hL h
  unfold rkQ at this ⊢
  rw [this]
theorem cset_rk (F : Fld O El) (hL : Rws El m L) (s z : List Int) : rkQ O L (csetS O L m C s z) = (csetS O L m C s z).length := by
  unfold csetS
  rw [rkQ_sort F hL, sortL_len]
  exact grM_ind F hL _ _
theorem cset_ok {s z : List Int} (h : NodeOk O L m C s z) : setOk m s (csetS O L m C s z) = true := by
  unfold setOk
  rw [Bool.and_eq_true, List.all_eq_true]
  refine ⟨?_, fun x hx => by simpa using (cset_in h hx).2⟩
  unfold csetS
  refine okSet_sort ?_ fun x hx => (cset_in h (cset_mem.2 hx)).1
  exact (sortL_perm _).nodup_iff.1 (cset_nodup h.zn)
theorem cset_right (F : Fld O El) (hL : Rws El m L) {s z : List Int} (h : NodeOk O L m C s z) :
    rightS O L m C s (csetS O L m C s z) = true ↔ if C.cos = true then C.W < s.length + lightS O L C.y s (csetS O L m C s z) else C.M ≤ rkQ O L (frTo false s m) := by
  have h1 := cset_rk F hL s z (C := C)
  have h2 := cset_len F hL h
  unfold rkQ at h1 h2
  unfold rightS
  rw [cset_ok h, h1, decide_eq_true rfl, Bool.true_and, Bool.true_and]
  have h3 := Nat.le_trans (grS_le O L (frTo false s m)) (frTo_len false s m)
  split
  · rename_i hc
    rw [if_pos hc] at h2
    rw [decide_eq_true (by omega), Bool.true_and, decide_eq_true_eq]
  · rename_i hc
    rw [if_neg hc] at h2
    rw [decide_eq_true_eq, h2]
    unfold rkQ
    omega
theorem sizK_more (F : Fld O El) (hL : Rws El m L) (s : List Int) (k : Int) : sizK O L m C (s ++ [k]) ≤ sizK O L m C s := by
  unfold sizK
  split
  · refine rkQ_mono F hL fun x hx => ?_
    obtain ⟨j, hj, rfl, hd⟩ := (mem_frTo m).1 hx
    refine (mem_frTo m).2 ⟨j, hj, rfl, ?_⟩
    have : ¬ (j : Int) ∈ s ++ [k] := by simpa using hd
    rw [List.mem_append] at this
    simpa using fun h => this (.inl h)
  · exact Nat.le_refl _
/-- the child of a right node -/
theorem node_child (F : Fld O El) (hL : Rws El m L) {s z : List Int} (h : NodeOk O L m C s z) (hr : rightS O L m C s (csetS O L m C s z) = true) {ks1 ks2 : List Int} {k : Int}
    (hk : (csetS O L m C s z).filter (fun x => decide (¬ x ∈ z)) = ks1 ++ k :: ks2) :
    NodeOk O L m C (s ++ [k]) (z ++ ks1) := by
  have ht := cset_nodup h.zn (O := O) (L := L) (m := m) (C := C) (s := s)
  have hp := rest_perm ht h.zn (cset_front F hL h)
  rw [hk] at hp
  have hmem : ∀ x ∈ ks1 ++ k :: ks2, x ∈ csetS O L m C s z := fun x hx => hp.mem_iff.1 (List.mem_append.2 (.inr hx))
  have hnd : (z ++ (ks1 ++ k :: ks2)).Nodup := hp.nodup_iff.2 ht
  have hnd2 : (z ++ ks1 ++ k :: ks2).Nodup := by rw [List.append_assoc]; exact hnd
  have hkx : ¬ k ∈ z ++ ks1 := fun hh => (List.nodup_append.1 hnd2).2.2 k hh k (by simp) rfl
  refine ⟨?_, ?_, (List.nodup_append.1 hnd2).1, ?_, ?_, ?_, fun hc => ?_⟩
  · rw [List.nodup_append]
    exact ⟨h.sn, by simp, fun a ha b hb e => (cset_in h (hmem k (by simp))).2 (by rw [List.mem_singleton.1 hb] at e; exact e ▸ ha)⟩
  · intro x hx
    rcases List.mem_append.1 hx with hx | hx
    · exact h.sb x hx
    · rw [List.mem_singleton.1 hx]; exact (cset_in h (hmem k (by simp))).1
  · intro x hx
    rcases List.mem_append.1 hx with hx | hx
    · exact h.zb x hx
    · exact (cset_in h (hmem x (by simp [hx]))).1
  · intro x hx hs
    rcases List.mem_append.1 hs with hs | hs
    · rcases List.mem_append.1 hx with hx | hx
      · exact h.sz x hx hs
      · exact (cset_in h (hmem x (by simp [hx]))).2 hs
    · rw [List.mem_singleton.1 hs] at hx; exact hkx hx
  · refine ind_left F hL (A := k :: ks2) ?_
    rw [List.append_assoc, rkQ_perm F hL hp, hp.length_eq]
    exact cset_rk F hL s z
  · have h1 := hp.length_eq
    have h2 := (right_len hr).1
    unfold sizK at h2
    rw [if_neg hc] at h2
    simp only [List.length_append, List.length_cons] at h1 ⊢
    omega

theorem kbld_cnt {B : List Int → List Int → List (List Int) → Int × List (List Int)} {s : List Int} {d : Nat} {N : Prop}
    : ∀ (ks z : List Int) (T : List (List Int)) (r : Nat), ks.length ≤ r → (∀ ks1 k ks2 T, ks = ks1 ++ k :: ks2 → T.length + bn (r - ks1.length) d ≤ 65536 →
        (B (s ++ [k]) (z ++ ks1) T).1 ≠ 8 ∧ (B (s ++ [k]) (z ++ ks1) T).2.length ≤ T.length + bn (r - ks1.length) d ∧ (N → (B (s ++ [k]) (z ++ ks1) T).1 ≠ 11)) →
      T.length + bn r (d + 1) ≤ 65537 → (kbld B s z ks T).1 ≠ 8 ∧ (kbld B s z ks T).2.length + 1 ≤ T.length + bn r (d + 1) ∧ (N → (kbld B s z ks T).1 ≠ 11)
  | [], z, T, r, _, _, hT => by
    have := bn_pos r (d + 1)
    rw [kbld]
    refine ⟨by simp, by show T.length + 1 ≤ _; omega, fun _ => by simp⟩
  | k :: ks, z, T, r, hr, hB, hT => by
    obtain ⟨r, rfl⟩ : ∃ r', r = r' + 1 := ⟨r - 1, by simp at hr; omega⟩
    have e : bn (r + 1) (d + 1) = bn r (d + 1) + bn (r + 1) d := by rw [bn]
    have h0 := bn_pos r (d + 1)
    have h1 := hB [] k ks T rfl (by simp; omega)
    rw [List.append_nil, List.length_nil, Nat.sub_zero] at h1
    rw [kbld]
    by_cases hz : (B (s ++ [k]) z T).1 = 0
    · rw [if_pos hz]
      have h2 := kbld_cnt ks (z ++ [k]) (B (s ++ [k]) z T).2 r (by simpa using hr) (fun ks1 k' ks2 T' he hT' => by
        have h3 := hB (k :: ks1) k' ks2 T' (by rw [he]; rfl) (by simpa using hT')
        simpa [List.append_assoc] using h3) (by omega)
      exact ⟨h2.1, by omega, h2.2.2⟩
    · rw [if_neg hz]
      exact ⟨h1.1, by simp; omega, h1.2.2⟩

theorem bld_cnt (F : Fld O El) (hL : Rws El m L) : ∀ (d : Nat) (s z : List Int) (T : List (List Int)) (r : Nat), NodeOk O L m C s z → s.length + d = C.W → sizK O L m C s ≤ z.length + r → T.length + bn r d ≤ 65536 →
    (bldS O L m C d s z T).1 ≠ 8 ∧ (bldS O L m C d s z T).2.length ≤ T.length + bn r d ∧
      ((∀ s z, NodeOk O L m C s z → s.length ≤ C.W → rightS O L m C s (csetS O L m C s z) = true) → (bldS O L m C d s z T).1 ≠ 11)
  | 0, s, z, T, r, h, hd, hK, hT => by
    have h0 := bn_pos r 0
    rw [bldS]
    by_cases hr : rightS O L m C s (csetS O L m C s z) = true
    · rw [if_pos hr, if_neg (by omega)]
      exact ⟨by simp, by simp; omega, fun _ => by simp⟩
    · rw [if_neg hr]
      exact ⟨by simp, by simp, fun hN => absurd (hN s z h (by omega)) hr⟩
  | d + 1, s, z, T, r, h, hd, hK, hT => by
    have h0 := bn_pos r (d + 1)
    rw [bldS]
    by_cases hr : rightS O L m C s (csetS O L m C s z) = true
    · rw [if_pos hr, if_neg (by omega)]
      have hkid : kidsS C s z (csetS O L m C s z) = (csetS O L m C s z).filter fun x => decide (¬ x ∈ z) := by
        unfold kidsS; rw [if_pos (by omega)]
      have hlen := (rest_perm (cset_nodup h.zn) h.zn (cset_front F hL h)).length_eq
      rw [List.length_append, (right_len hr).1] at hlen
      have hb := kbld_cnt (B := bldS O L m C d) (s := s) (d := d) (N := ∀ s z, NodeOk O L m C s z → s.length ≤ C.W → rightS O L m C s (csetS O L m C s z) = true)
        (kidsS C s z (csetS O L m C s z)) z (T ++ [csetS O L m C s z]) r (by rw [hkid]; omega) (fun ks1 k ks2 T' he hT' => by
          rw [hkid] at he
          have hl2 : ((csetS O L m C s z).filter fun x => decide (¬ x ∈ z)).length = ks1.length + (ks2.length + 1) := by rw [he]; simp
          have hK2 := sizK_more F hL (C := C) s k
          exact bld_cnt F hL d (s ++ [k]) (z ++ ks1) T' (r - ks1.length) (node_child F hL h hr he) (by simp; omega) (by rw [List.length_append]; omega) hT') (by simp; omega)
      refine ⟨hb.1, ?_, hb.2.2⟩
      have h3 := hb.2.1
      rw [List.length_append, List.length_singleton] at h3
      omega
    · rw [if_neg hr]
      exact ⟨by simp, by simp, fun hN => absurd (hN s z h (by omega)) hr⟩
end

/- Two matrices whose rows go together: 'each' of matrix.eliminate at both. -/
section
open Go.RowKit

theorem nthR_mapf (f : List Int → List Int) (L : List (List Int)) {i : Nat} (h : i < L.length) : nthR (L.map f) i = f (nthR L i) := by
  rw [nthR_getElem (by simpa using h), nthR_getElem h, List.getElem_map]
theorem nth_takeL (l : List Int) {len k : Nat} (h : k < len) : nth (l.take len) k = nth l k := by
  unfold nth; simp only [List.getD_eq_getElem?_getD, List.getElem?_take]; rw [if_pos h]
theorem addRow_take (O : FOps) (v u : List Int) (s : Int) (len : Nat) : (addRow O v s u).take len = addRow O (v.take len) s (u.take len) := by
  unfold addRow; rw [List.take_zipWith]
/-- the blocks of two matrices -/
def I2 (a : Option Addr) (R : List (Option Addr × Nat)) (a2 : Option Addr) (S : List (Option Addr × Nat)) (b : Nat) : Prop := OIn a R b ∨ OIn a2 S b
/-- two own matrices in blocks apart: the beginnings and the ends of the rows J -/
structure OMat2 (w : World) (B : Nat) (a : Option Addr) (n c : Nat) (R : List (Option Addr × Nat)) (a2 : Option Addr) (c2 : Nat) (S : List (Option Addr × Nat)) (len : Nat) (J : List (List Int)) : Prop where
  om1 : OMat w B a n c R (J.map (List.take len))
  om2 : OMat w B a2 n c2 S (J.map (List.drop len))
  dis : ∀ b, OIn a R b → ¬ OIn a2 S b
namespace OMat2
variable {w w' w1 : World} {B : Nat} {a : Option Addr} {n c : Nat} {R R' : List (Option Addr × Nat)} {a2 : Option Addr} {c2 : Nat} {S S' : List (Option Addr × Nat)} {len : Nat} {J J' : List (List Int)}
theorem lt (h : OMat2 w B a n c R a2 c2 S len J) (b : Nat) (hb : I2 a R a2 S b) : B ≤ b ∧ b < w.heap.size := by
  rcases hb with hb | hb
  · exact h.om1.lt b hb
  · exact h.om2.lt b hb
theorem new (h : OMat2 w B a n c R a2 c2 S len J) {b : Nat} (hb : w.heap.size ≤ b) : ¬ I2 a R a2 S b := fun h' => by have := h.lt b h'; omega
theorem keep (h : OMat2 w B a n c R a2 c2 S len J) (hb : Below w.heap.size w w') : OMat2 w' B a n c R a2 c2 S len J := ⟨h.om1.keep hb, h.om2.keep hb, h.dis⟩
theorem ll (h : OMat2 w B a n c R a2 c2 S len J) : J.length = n := by have := h.om1.ll; simpa using this
theorem cell (h : OMat2 w B a n c R a2 c2 S len J) {i : Nat} (hi : i < n) (hl : len ≤ (nthR J i).length) : w.cell? ⟨ablk a, aoff a + i, none⟩ = some (.slice (nthA R i).1 len (nthA R i).2) := by
  have h1 := h.om1.cell hi
  rw [nthR_mapf _ J (by rw [h.ll]; exact hi), List.length_take, Nat.min_eq_left hl] at h1
  exact h1
theorem ints (h : OMat2 w B a n c R a2 c2 S len J) {i : Nat} (hi : i < n) (hl : len ≤ (nthR J i).length) : Ints w (nthA R i).1 len ((nthR J i).take len) := by
  have h1 := h.om1.ints hi
  rw [nthR_mapf _ J (by rw [h.ll]; exact hi), List.length_take, Nat.min_eq_left hl] at h1
  exact h1
end OMat2

variable {w : World} {b : Nat} {G : Tbl}
end

/- The walk of matrix.eliminate with a second matrix. -/
section
open Go.RowKit

variable {w : World} {b : Nat} {G : Tbl}
theorem OMat2.of_blocks {w' : World} {B : Nat} {a : Option Addr} {n c : Nat} {R : List (Option Addr × Nat)} {a2 : Option Addr} {c2 : Nat} {S : List (Option Addr × Nat)} {len : Nat} {J : List (List Int)} (h : OMat2 w B a n c R a2 c2 S len J) (hb : ∀ b, I2 a R a2 S b → w'.heap[b]? = w.heap[b]?) : OMat2 w' B a n c R a2 c2 S len J :=
  ⟨h.om1.of_blocks fun b hb' => hb b (.inl hb'), h.om2.of_blocks fun b hb' => hb b (.inr hb'), h.dis⟩
end

/- The greedy order, as plain Lean functions. -/
section
section
variable {f : Nat → Int} {N : Nat} (hf : ∀ y, f y ≤ N)
include hf
end
end

/- Orders, widths and the table over all sets, as plain Lean functions. -/
section
/-- the least entry at a set with one of its positions below i removed -/
def leastTo (N : Nat) (T : List Int) (s : Nat) : Nat → Int
  | 0 => N
  | i + 1 => if s.testBit i = true then min (leastTo N T s i) (nth T (s - 2 ^ i)) else leastTo N T s i
theorem or_add : ∀ (b x : Nat), x.testBit b = false → x ||| 2 ^ b = x + 2 ^ b
  | 0, x, h => by
    rw [Nat.testBit_zero, decide_eq_false_iff_not] at h
    have h1 : (x ||| 1) / 2 = x / 2 := by rw [Nat.or_div_two]; simp
    have h2 : (x ||| 1) % 2 = 1 := Nat.or_mod_two_eq_one.2 (.inr rfl)
    show x ||| 1 = x + 1
    omega
  | b + 1, x, h => by
    rw [Nat.testBit_succ] at h
    have ih := or_add b (x / 2) h
    have e : 2 ^ (b + 1) / 2 = 2 ^ b := by rw [Nat.pow_succ]; omega
    have h1 : (x ||| 2 ^ (b + 1)) / 2 = x / 2 + 2 ^ b := by rw [Nat.or_div_two, e, ih]
    have h2 : (x ||| 2 ^ (b + 1)) % 2 = 1 ↔ x % 2 = 1 := by
      rw [Nat.or_mod_two_eq_one]
      have : 2 ^ (b + 1) % 2 = 0 := by rw [Nat.pow_succ]; omega
      omega
    have h3 : 2 ^ (b + 1) = 2 * 2 ^ b := by rw [Nat.pow_succ]; omega
    omega
end

/- A code with its positions in another order (plain law). -/
section
section
variable {O : FOps} {El : Int → Prop} {m : Nat}

end

section
variable {P M : Int} {mod : List Int} {m : Nat} {L : List (List Int)} {Q : List Int}
end
end

/- Words of a code: reduced by canonical rows they vanish; combinations of rows (plain law). -/
section
section
variable {O : FOps} {El : Int → Prop} {m : Nat} {R : List (List Int)} {P : List Int}
/-- the sum of the first k rows, each times its entry -/
def cmbTo (O : FOps) (m : Nat) (x : List Int) (L : List (List Int)) : Nat → List Int
  | 0 => List.replicate m 0
  | k + 1 => if nth x k = 0 then cmbTo O m x L k else addRow O (cmbTo O m x L k) (nth x k) (nthR L k)
theorem RS.add (F : Fld O El) {L : List (List Int)} {f g : Nat → Int} (hL : Rws El m L) (hf : RS O El m L f) (hg : RS O El m L g) {s : Int} (hs : El s) : RS O El m L (fun x => O.add (f x) (O.mul (g x) s)) := by
  refine (hf.comb F hg (F.cl.neg s hs)).congr fun x hx => ?_
  obtain ⟨e, he, h⟩ := hg
  have hgx : El (g x) := by rw [h x hx]; exact he.el _ (colS_vc hL F.zero x)
  rw [F.mul_neg hgx hs, F.neg_neg (F.cl.mul _ _ hgx hs)]
theorem cmb_rs (F : Fld O El) {L : List (List Int)} (hL : Rws El m L) {x : List Int} (hx : ∀ k, k < L.length → El (nth x k)) : ∀ k, k ≤ L.length → Vc El m (cmbTo O m x L k) ∧ RS O El m L (fun i => nth (cmbTo O m x L k) i)
  | 0, _ => by
    have h0 : ∀ i, nth (List.replicate m (0 : Int)) i = 0 := fun i => by
      unfold nth
      simp only [List.getD_eq_getElem?_getD, List.getElem?_replicate]
      split <;> rfl
    exact ⟨⟨by simp [cmbTo], fun y hy => by rw [List.eq_of_mem_replicate hy]; exact F.zero⟩, RS.nul F fun i _ => h0 i⟩
  | k + 1, hk => by
    obtain ⟨h1, h2⟩ := cmb_rs F hL hx k (by omega)
    have hr := hL.row (i := k) (by omega)
    have hs := hx k (by omega)
    rw [cmbTo]
    split
    · exact ⟨h1, h2⟩
    · have hl : (nthR L k).length = (cmbTo O m x L k).length := by rw [hr.1, h1.1]
      refine ⟨⟨by rw [addRow_length _ _ _ _ hl]; exact h1.1, addRow_el F.cl h1.2 hr.2 hs⟩, (RS.add F hL h2 (.row F (i := k) (by omega)) hs).congr fun i hi => ?_⟩
      have hri : El (nth (nthR L k) i) := Vc.at hr hi
      rw [nth_addRow O _ _ _ i hl (by rw [h1.1]; exact hi)]
      split
      · rename_i e0
        rw [e0, F.zmul hs, F.add_zero _ (h1.at hi)]
      · rw [F.mul_comm _ _ hs hri]
/-- the entries of a word of the row space by an order are a word of the picked rows -/
theorem RS.pick {L : List (List Int)} {w Q : List Int} (hQ : Q.length = m) (hI : InN m Q) (h : RS O El m L (fun x => nth w x)) : RS O El m (L.map (pickL Q)) (fun x => nth (pickL Q w) x) := by
  obtain ⟨e, he, h⟩ := h
  refine ⟨e, by rw [List.length_map]; exact he, fun x hx => ?_⟩
  have hq := hI x (by omega)
  have hcol : colS (L.map (pickL Q)) x = colS L (nth Q x).toNat := by
    unfold colS
    rw [List.map_map]
    exact List.map_congr_left fun r _ => nth_pickL Q r (by omega)
  show nth (pickL Q w) x = _
  rw [nth_pickL Q w (by omega), hcol]
  exact h _ (by omega)
end
end

/- The walks of matrix.unit, vec. -/
section
open Go.RowKit

def unitR (n k : Nat) : List Int := (List.replicate n 0).set k 1
theorem unitR_len (n k : Nat) : (unitR n k).length = n := by simp [unitR]
variable {w : World} {b : Nat} {G : Tbl}
end

/- The walks of code.own, code.of, code.Dual. -/
section
open Go.RowKit
end

/- The inverse of an order, and rows whose entries are put at their places (plain law). -/
section
section
variable {m : Nat} {Q : List Int}
end
end

/- The walks of modify.set, code.New. -/
section
open Go.RowKit
end

end Go.Proofs.YtcflcogbpnmjeaaGreat
