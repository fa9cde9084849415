/- The walk of matrix.Inverse, at an invertible matrix. -/
import Derived.Test.YtapjcccpokhhhaaG19
import Derived.Test.YtapjcccpokhhhaaG5
import Derived.Test.YtapjcccpokhhhaaG17
import Derived.Test.YtapjcccpokhhhaaG9
import Derived.Shelf.Sort.Plain
import Derived.Test.YtapjcccpokhhhaaProg
import Derived.RangeFuncBox
import Derived.RangeFuncLeaves
import Derived.Shelf.Abstract
import Derived.WalkKit
import Derived.OwnWalkIn
import Derived.TacticsInMore
import Derived.LoopNIn
import Derived.LoopIn
import Derived.Maps.AppendAt
import Derived.Test.YtapjcccpokhhhaaG4
import Derived.Test.YtapjcccpokhhhaaG1
import Derived.Sort.OwnSortedInts
import Derived.Test.YtapjcccpokhhhaaG10
import Derived.Test.YtapjcccpokhhhaaG18
namespace Go.Proofs.Ytapjcccpokhhhaa
set_option linter.unusedVariables false
set_option linter.unusedSimpArgs false
set_option linter.unusedSectionVars false

/- The walks of matrix.unit, vec. -/
section
open Go.RowKit

def unitR (n k : Nat) : List Int := (List.replicate n 0).set k 1
def unitL (n : Nat) : List (List Int) := (List.range n).map (unitR n)
theorem unitL_len (n : Nat) : (unitL n).length = n := by simp [unitL]
theorem unitR_len (n k : Nat) : (unitR n k).length = n := by simp [unitR]
theorem nthR_unit {n k : Nat} (h : k < n) : nthR (unitL n) k = unitR n k := by
  rw [nthR_getElem (by rw [unitL_len]; exact h)]; simp [unitL]
theorem set_setR (L : List (List Int)) (k : Nat) (x y : List Int) : (L.set k x).set k y = L.set k y := by simp

set_option maxRecDepth 100000 in
set_option maxHeartbeats 1600000 in
theorem unit_any (n : Nat) (w : World) (hn : n ≤ 1000000) : Calls Try.prog 38 #[.int .i64 n] w (NewMat w (unitL n)) := by
  go_enter Try.func38, Try.ntmps38
  go_wp2_with (at_make; refine wpList_mk rfl _ _ 30 22 rfl (.slice none 0 0) 24 Try.underlying30 infoInts rfl n rfl rfl (by omega) (by unfold maxLen; omega) ?_; intro a1 w1 hown hbel hge hlt)
  have hO := omat_made hown
  have hO1 : ∃ R, OMat w1 w.heap.size a1 n n R (rowsTo n 0 (unitL n)) := ⟨_, by simpa [rowsTo] using hO⟩
  clear hO hown
  go_loopw [9] (fun iv wr => ∃ k : Nat, k ≤ n ∧ iv = .int .i64 k ∧ (∃ R, OMat wr w.heap.size a1 n n R (rowsTo n k (unitL n))) ∧ Below w.heap.size w wr) (fun iv _ => n - (intOf iv).toNat)
  case atStart => exact ⟨0, Nat.zero_le _, rfl, hO1, hbel⟩
  case round =>
    obtain ⟨k, hk, rfl, ⟨R, hO⟩, hbr⟩ := hrel
    by_cases hlt : k < n
    · have hset := rowsTo_set hlt (unitL_len n)
      rw [nthR_unit hlt] at hset
      have Hset := Lib.hid hset
      clear hset
      have hpl1 := hO.pl
      have hsz := hbr.size
      generalize wr = V at *
      go_upto_region 6 with (at_make; refine wpList_mk rfl _ _ 22 3 rfl (.int .i64 0) 8 Try.underlying22 infoInt rfl n rfl rfl (by omega) (by unfold maxLen; omega) ?_; intro a3 w3 hown3 hb3 hge3 hlt3; have hO3 := OMat.keep hO hb3; have hf := hO3.frozen hlt; have hc := hO3.cell hlt)
      have hown3' : w3.ownsRow V.heap.size 3 1 (.slice a3 (List.replicate n (0 : Int)).length n) (List.replicate n (0 : Int)).length ((List.replicate n (0 : Int)).map (Value.int .i64)) := by rw [List.length_replicate, List.map_replicate]; exact hown3
      have hB := (OMat.lt hO3 (ablk a1) (.inl ⟨hO3.ne (by omega), rfl⟩)).1
      have hnew := OMat.setRow hO3 hlt (own_mono hown3' hsz) (own_apt hown3 (OMat.lt hO (ablk a1) (.inl ⟨hO.ne (by omega), rfl⟩)).2) (fun j hj _ => by
        by_cases hn : (nthA R j).1 = none
        · exact .inl hn
        · exact .inr (own_apt hown3 (OMat.lt hO _ (OMat.inRow (by rw [hO.rl]; exact hj) hn)).2))
      rw [List.length_replicate] at hnew
      obtain ⟨Y, hY⟩ : ∃ Y, w3.setCell ⟨ablk a1, aoff a1 + k, none⟩ (.slice a3 n n) = Y := ⟨_, rfl⟩
      rw [hY] at hnew ⊢
      have hbY : Below w.heap.size w Y := by rw [← hY]; exact (Below.next hbr hb3).setCell hB _
      have hRk : nthA (R.set k (a3, n)) k = (a3, n) := by rw [nthA_set _ _ _ _ (by rw [hO.rl]; exact hlt), if_pos rfl]
      have hLk : nthR ((rowsTo n k (unitL n)).set k (List.replicate n 0)) k = List.replicate n 0 := by rw [nthR_set _ _ _ _ (by rw [hO.ll]; exact hlt), if_pos rfl]
      have hcr := hnew.cell hlt
      have hrow := hnew.row k hlt
      rw [hRk, hLk, List.length_replicate] at hcr hrow
      obtain ⟨hints, hmine⟩ := Ints.own hrow
      have cz := hints.cell k hlt
      have fz := (hmine (by omega)).2 k hlt
      have hBz := (hmine (by omega)).1
      have hpl3 := hints.pl
      have hown2 := own_set hrow k hlt (.int .i64 1)
      rw [← List.map_set] at hown2
      have hne3 : a3 ≠ none := fun e => by
        have := hpl3 (by omega)
        rw [e] at this; cases this
      have hfin := OMat.rowTo hnew hlt (l := unitR n k) (by rw [hLk, List.length_replicate, unitR_len]) (by rw [hRk, hLk, List.length_replicate]; exact hown2) (fun b hb hne => Below.heap_setCell _ _ _ _ fun e => by
        rw [hRk] at hne
        rcases hne with h1 | h1
        · exact hne3 h1
        · exact h1 e)
      rw [set_setR, Hset.out] at hfin
      have Hfin := Lib.hid hfin
      clear hfin hnew hrow hints hmine hown2 hRk hLk hY hf hc hown3 hown3' hO3
      go_wp2_with fail
      go_roundw
      case rel => exact ⟨k + 1, by omega, by go_num, ⟨_, Hfin.out⟩, hbY.setCell hBz _⟩
      case measure => simp [intOf] <;> omega
    · obtain rfl : k = n := by omega
      rw [rowsTo_all (unitL_len k)] at hO
      go_wp2_with fail
      go_ret
      exact ⟨a1, k, R, by rw [unitL_len]; rfl, by rw [unitL_len]; exact hO, hbr⟩

variable {w : World} {b : Nat} {G : Tbl}
set_option maxRecDepth 100000 in
set_option maxHeartbeats 1600000 in
theorem vec_any (ax : Option Addr) (cx : Nat) (x : List Int) (a : Option Addr) (n c : Nat) (L : List (List Int)) (cols : Nat) (h : GFw w b G) (F : Fld G.ops G.El) (hx : Ints w ax n x) (hi : Mat w a n L) (hxe : ∀ k, k < n → G.El (nth x k)) (hR : Rws G.El cols L) (hc1 : 1 ≤ cols) (hc : cols ≤ 1000000) (hn : n ≤ 1000000) :
    Calls Try.prog 41 #[.pointer (some ⟨b, 0, none⟩), .slice ax n cx, .slice a n c, .int .i64 cols] w fun e w' =>
      ∃ a1 c1, e = .returned (.slice a1 cols c1) ∧ w'.ownsRow w.heap.size 3 1 (.slice a1 cols c1) cols ((cmbTo G.ops cols x L n).map (Value.int .i64)) ∧ Below w.heap.size w w' := by
  have Hil := Lib.hid hi.len
  have hplx := hx.pl
  have hpla := hi.pl
  have hcm := cmb_rs F hR (x := x) (by rw [hi.len]; exact hxe)
  have Hcm := Lib.hid hcm
  have HR := Lib.hid hR
  have hz : (cmbTo G.ops cols x L 0).map (Value.int .i64) = List.replicate cols (Value.int .i64 0) := by simp [cmbTo]
  have Hz := Lib.hid hz
  clear hcm hR hz F
  go_enter Try.func41, Try.ntmps41
  go_wp2_with (at_make; refine wpList_mk rfl _ _ 22 3 rfl (.int .i64 0) 8 Try.underlying22 infoInt rfl cols rfl rfl (by omega) (by unfold maxLen; omega) ?_; intro a5 w5 hown hbel hge hlt)
  have hown0 : w5.ownsRow w.heap.size 3 1 (.slice a5 cols cols) cols ((cmbTo G.ops cols x L 0).map (Value.int .i64)) := by rw [Hz.out]; exact hown
  clear hown hlt
  go_loopw [16] (fun iv wr => ∃ k : Nat, k ≤ n ∧ iv = .int .i64 k ∧ wr.ownsRow w.heap.size 3 1 (.slice a5 cols cols) cols ((cmbTo G.ops cols x L k).map (Value.int .i64)) ∧ Below w.heap.size w wr) (fun iv _ => n - (intOf iv).toNat)
  case atStart => exact ⟨0, Nat.zero_le _, rfl, hown0, hbel⟩
  case round =>
    clear hown0 hbel
    obtain ⟨k, hk, rfl, hown, hbr⟩ := hrel
    by_cases hlt : k < n
    · have cxk := (hx.keep hbr).cell k hlt
      have hrow := HR.out.row (i := k) (by rw [Hil.out]; exact hlt)
      obtain ⟨ra, rn, rc, er0, ir0⟩ := hi.cell k hlt
      have hrn : rn = cols := by rw [← ir0.len]; exact hrow.1
      rw [hrn] at er0 ir0
      have er := cell_keep hbr er0
      have hra : ablk ra < w.heap.size := World.block_lt_of_cell? w _ (ir0.cell 0 (by omega))
      clear hrn er0
      by_cases h0 : nth x k = 0
      · have h0' : (nth x k != 0) = false := by simpa using h0
        have Hn : Hid (cmbTo G.ops cols x L (k + 1) = cmbTo G.ops cols x L k) := by show _ = _; rw [cmbTo, if_pos h0]
        clear h0
        go_wp2_with fail
        go_roundw
        case rel => exact ⟨k + 1, by omega, by go_num, by rw [Hn.out]; exact hown, hbr⟩
        case measure => simp [intOf] <;> omega
      · have h0' : (nth x k != 0) = true := by simpa using h0
        have Hn : Hid (cmbTo G.ops cols x L (k + 1) = addRow G.ops (cmbTo G.ops cols x L k) (nth x k) (nthR L k)) := by show _ = _; rw [cmbTo, if_neg h0]
        have hvk := (Hcm.out k (by rw [Hil.out]; exact hk)).1
        have Ha := Lib.hid (add_any w a5 cols cols (cmbTo G.ops cols x L k) (nth x k) ra rc (nthR L k) h hbr hown (ir0.keep hbr) (.inr (.inr (by omega))) hvk.2 hrow.2 (hxe k hlt))
        clear h0 hown ir0 hrow hvk
        go_wp2_with fail
        refine Ha.out.mono ?_
        rintro e w4 ⟨rfl, hown4, honly⟩
        have hb4 : Below w.heap.size w w4 := hbr.trans (honly.below (fun _ => hge) hbr.size)
        go_wp2_with fail
        go_roundw
        case rel => exact ⟨k + 1, by omega, by go_num, by rw [Hn.out]; exact hown4, hb4⟩
        case measure => simp [intOf] <;> omega
    · obtain rfl : k = n := by omega
      have HF := Lib.hid hown
      clear hown
      go_wp2_with fail
      go_ret
      exact ⟨a5, cols, rfl, HF.out, hbr⟩
end

/- The walks of code.own, code.of, code.Dual. -/
section
open Go.RowKit

def OwnPost (P M : Int) (mod : List Int) (w : World) (e : Ending) (w' : World) : Prop :=
  ∃ a c, e = .returned (.agg #[.int .i64 P, .int .i64 M, .slice a mod.length c]) ∧ IntsN w.heap.size w' a mod.length mod ∧ Below w.heap.size w w'

def OfPost (P M : Int) (mod : List Int) (m : Int) (a : Option Addr) (k c : Nat) (w : World) (e : Ending) (w' : World) : Prop :=
  ∃ a1 c1, e = .returned (.tuple #[.agg #[.int .i64 P, .int .i64 M, .slice a1 mod.length c1, .int .i64 m, .slice a k c], .int .i64 0]) ∧ IntsN w.heap.size w' a1 mod.length mod ∧ Below w.heap.size w w'
end

/- Sorted lists of numbers (plain law). -/
section
def sortL (l : List Int) : List Int := l.mergeSort fun x y => decide (x ≤ y)
theorem sortL_perm (l : List Int) : (sortL l).Perm l := List.mergeSort_perm l _
theorem sortL_len (l : List Int) : (sortL l).length = l.length := (sortL_perm l).length_eq
theorem sortL_pair (l : List Int) : (sortL l).Pairwise fun x y => x ≤ y := by
  have h := List.pairwise_mergeSort (le := fun x y : Int => decide (x ≤ y)) (fun a b c h1 h2 => by simp at *; omega) (fun a b => by simp; omega) l
  exact h.imp fun h => by simpa using h
/-- sorted lists with the same members are one -/
theorem pair_unique : ∀ {l l' : List Int}, l.Pairwise (fun x y => x ≤ y) → l'.Pairwise (fun x y => x ≤ y) → l.Perm l' → l = l'
  | [], l', _, _, h => by rw [List.nil_perm] at h; exact h.symm
  | x :: l, [], _, _, h => by rw [List.perm_nil] at h; exact h
  | x :: l, y :: l', h1, h2, h => by
    rw [List.pairwise_cons] at h1 h2
    have hx : x ∈ y :: l' := h.subset (List.mem_cons_self ..)
    have hy : y ∈ x :: l := h.symm.subset (List.mem_cons_self ..)
    have e : x = y := by
      rcases List.mem_cons.1 hx with e | hx
      · exact e
      · rcases List.mem_cons.1 hy with e | hy
        · exact e.symm
        · have := h1.1 y hy
          have := h2.1 x hx
          omega
    subst e
    rw [pair_unique h1.2 h2.2 (List.Perm.cons_inv h)]
theorem sortL_unique {l l' : List Int} (h : l'.Pairwise fun x y => x ≤ y) (hp : l'.Perm l) : l' = sortL l := pair_unique h (sortL_pair l) (hp.trans (sortL_perm l).symm)
theorem sortL_of_perm {l l' : List Int} (hp : l.Perm l') : sortL l = sortL l' := pair_unique (sortL_pair l) (sortL_pair l') ((sortL_perm l).trans (hp.trans (sortL_perm l').symm))
theorem nth_inj_nodup {l : List Int} (h : ∀ i j, i < j → j < l.length → nth l i ≠ nth l j) : l.Nodup := by
  unfold List.Nodup
  rw [List.pairwise_iff_getElem]
  intro i j hi hj hij
  have := h i j hij hj
  rwa [nth_getElem hi, nth_getElem hj] at this
/-- a list of distinct numbers below m, sorted, is an ascending set -/
theorem okSet_sort {m : Int} {l : List Int} (hn : l.Nodup) (hb : ∀ x ∈ l, 0 ≤ x ∧ x < m) : okSet m (sortL l) = true := by
  have h1 := sortL_pair l
  have h2 : (sortL l).Nodup := (sortL_perm l).nodup_iff.2 hn
  have h3 : ∀ x ∈ sortL l, 0 ≤ x ∧ x < m := fun x hx => hb x ((sortL_perm l).subset hx)
  rw [List.pairwise_iff_getElem] at h1
  unfold List.Nodup at h2
  rw [List.pairwise_iff_getElem] at h2
  have key : ∀ k, (∀ i, i < k → okAt m (sortL l) i = true) → okTo m (sortL l) k = true := fun k => by
    induction k with
    | zero => intro _; rfl
    | succ k ih => intro h; exact okTo_succ (ih fun i hi => h i (by omega)) (h k (by omega))
  unfold okSet
  refine key _ fun i hi => ?_
  have h4 := h3 _ (List.getElem_mem hi)
  unfold okAt
  rw [nth_getElem hi]
  by_cases h0 : i = 0
  · simp [h0] at h4 ⊢; omega
  · have h5 := h1 (i - 1) i (by omega) hi (by omega)
    have h6 := h2 (i - 1) i (by omega) hi (by omega)
    rw [nth_getElem (show i - 1 < (sortL l).length by omega)]
    simp; omega
end

/- The inverse of an order, and rows whose entries are put at their places (plain law). -/
section
/-- the inverse of the order Q after k steps -/
def permTo (m : Nat) (Q : List Int) : Nat → List Int
  | 0 => List.replicate m 0
  | k + 1 => (permTo m Q k).set (nth Q k).toNat (k : Int)
theorem permTo_len (m : Nat) (Q : List Int) : ∀ k, (permTo m Q k).length = m
  | 0 => by simp [permTo]
  | k + 1 => by rw [permTo, List.length_set, permTo_len m Q k]
/-- the row's first k entries at the places R -/
def scat (m : Nat) (R r : List Int) : Nat → List Int
  | 0 => List.replicate m 0
  | k + 1 => (scat m R r k).set (nth R k).toNat (nth r k)
theorem scat_len (m : Nat) (R r : List Int) : ∀ k, (scat m R r k).length = m
  | 0 => by simp [scat]
  | k + 1 => by rw [scat, List.length_set, scat_len m R r k]
section
variable {m : Nat} {Q : List Int}
theorem permTo_at (hm : m ≤ 64) (hO : ordB m Q = true) : ∀ k, k ≤ m → ∀ j, j < k → nth (permTo m Q k) (nth Q j).toNat = (j : Int)
  | 0, _, j, hj => by omega
  | k + 1, hk, j, hj => by
    obtain ⟨hI, hl⟩ := ordB_in hO
    have h1 := hI k (by omega)
    rw [permTo, nth_set _ _ _ _ (by rw [permTo_len]; omega)]
    by_cases e : j = k
    · subst e; rw [if_pos rfl]
    · rw [if_neg, permTo_at hm hO k (by omega) j (by omega)]
      intro e2
      have h2 := hI j (by omega)
      exact e (ord_once hm hO (i := j) (j := k) (by omega) (by omega) (by omega))
theorem permTo_nth (hm : m ≤ 64) (hO : ordB m Q = true) {i : Nat} (hi : i < m) : ∃ j, j < m ∧ nth Q j = (i : Int) ∧ nth (permTo m Q m) i = (j : Int) := by
  obtain ⟨j, hj, e⟩ := ord_has hm hO hi
  refine ⟨j, hj, e, ?_⟩
  have := permTo_at hm hO m (Nat.le_refl _) j hj
  rwa [e, Int.toNat_natCast] at this
theorem permTo_in (hm : m ≤ 64) (hO : ordB m Q = true) : InN m (permTo m Q m) := fun i hi => by
  rw [permTo_len] at hi
  obtain ⟨j, hj, _, e⟩ := permTo_nth hm hO hi
  omega
theorem permTo_set (hm : m ≤ 64) (hO : ordB m Q = true) : okSet m (sortL (permTo m Q m)) = true := by
  refine okSet_sort (nth_inj_nodup fun i j hij hj e => ?_) fun x hx => ?_
  · rw [permTo_len] at hj
    obtain ⟨a, _, ea, e1⟩ := permTo_nth hm hO (show i < m by omega)
    obtain ⟨b, _, eb, e2⟩ := permTo_nth hm hO hj
    have : a = b := by omega
    subst this
    omega
  · obtain ⟨i, hi, rfl⟩ := List.mem_iff_getElem.1 hx
    rw [← nth_getElem hi]
    exact permTo_in hm hO i hi
/-- putting the entries at the places of the inverse picks them by the order -/
theorem scat_at (hm : m ≤ 64) (hO : ordB m Q = true) (r : List Int) : ∀ k, k ≤ m → ∀ i, i < k → ∀ j : Nat, nth (permTo m Q m) i = (j : Int) → nth (scat m (permTo m Q m) r k) j = nth r i
  | 0, _, i, hi, _, _ => by omega
  | k + 1, hk, i, hi, j, e => by
    obtain ⟨jk, hjk, ek, e1⟩ := permTo_nth hm hO (show k < m by omega)
    obtain ⟨ji, hji, ei, e2⟩ := permTo_nth hm hO (show i < m by omega)
    rw [scat, e1, Int.toNat_natCast, nth_set _ _ _ _ (by rw [scat_len]; exact hjk)]
    by_cases h : i = k
    · subst h
      rw [if_pos (by omega)]
    · rw [if_neg, scat_at hm hO r k (by omega) i (by omega) j e]
      intro e3
      have h4 : ji = jk := by omega
      subst h4
      omega
theorem scat_pick (hm : m ≤ 64) (hO : ordB m Q = true) (r : List Int) : scat m (permTo m Q m) r m = pickL Q r := by
  obtain ⟨hI, hl⟩ := ordB_in hO
  refine nth_ext (by rw [scat_len]; simp [pickL]; omega) fun j hj => ?_
  rw [scat_len] at hj
  have h1 := hI j (by omega)
  rw [nth_pickL Q r (by omega)]
  exact scat_at hm hO r m (Nat.le_refl _) (nth Q j).toNat (by omega) j (permTo_at hm hO m (Nat.le_refl _) j hj)
end
end

/- The walks of modify.set, code.New. -/
section
open Go.RowKit

def CNewPost (P M : Int) (mod : List Int) (m : Nat) (L : List (List Int)) (w : World) (e : Ending) (w' : World) : Prop :=
  ∃ a1 c1 a2 c2, e = .returned (.tuple #[.agg #[.int .i64 P, .int .i64 M, .slice a1 mod.length c1, .int .i64 m, .slice a2 (canS (tblOf P M.toNat mod) L m).length c2], .int .i64 0]) ∧ IntsN w.heap.size w' a1 mod.length mod ∧
    MatN w.heap.size w' a2 (canS (tblOf P M.toNat mod) L m).length (canS (tblOf P M.toNat mod) L m) ∧ Below w.heap.size w w'
end

/- The library's contract of slices.Sort laid over this program. -/
section
open Go.Shelf

def layS_ren : Go.Shelf.Ren := ⟨fun | 189 => 21 | 125 => 36 | 257 => 35 | 128 => 65 | 129 => 66 | 294 => 56 | 295 => 57 | 296 => 58 | 297 => 59 | 298 => 60 | 299 => 61 | 216 => 62 | 300 => 63 | 301 => 64 | 328 => 80 | 329 => 81 | 330 => 82 | 331 => 83 | 332 => 84 | 215 => 85 | 343 => 93 | n => n, fun | 28 => 22 | 3 => 3 | 46 => 79 | 0 => 0 | 51 => 109 | 53 => 111 | 4 => 4 | 183 => 101 | 182 => 100 | 131 => 106 | 5 => 5 | 9 => 9 | 218 => 124 | 222 => 128 | 228 => 135 | 229 => 136 | n => n, fun n => n⟩
theorem layS : Go.Proofs.Lays.n189 Try.prog layS_ren := {
  mixed := by kernel_rfl
  f125 := Try.func36.trans (congrArg some (by kernel_rfl))
  f128 := Try.func65.trans (congrArg some (by kernel_rfl))
  f129 := Try.func66.trans (congrArg some (by kernel_rfl))
  f189 := Try.func21.trans (congrArg some (by kernel_rfl))
  f215 := Try.func85.trans (congrArg some (by kernel_rfl))
  f216 := Try.func62.trans (congrArg some (by kernel_rfl))
  f257 := Try.func35.trans (congrArg some (by kernel_rfl))
  f294 := Try.func56.trans (congrArg some (by kernel_rfl))
  f295 := Try.func57.trans (congrArg some (by kernel_rfl))
  f296 := Try.func58.trans (congrArg some (by kernel_rfl))
  f297 := Try.func59.trans (congrArg some (by kernel_rfl))
  f298 := Try.func60.trans (congrArg some (by kernel_rfl))
  f299 := Try.func61.trans (congrArg some (by kernel_rfl))
  f300 := Try.func63.trans (congrArg some (by kernel_rfl))
  f301 := Try.func64.trans (congrArg some (by kernel_rfl))
  f328 := Try.func80.trans (congrArg some (by kernel_rfl))
  f329 := Try.func81.trans (congrArg some (by kernel_rfl))
  f330 := Try.func82.trans (congrArg some (by kernel_rfl))
  f331 := Try.func83.trans (congrArg some (by kernel_rfl))
  f332 := Try.func84.trans (congrArg some (by kernel_rfl))
  f343 := Try.func93.trans (congrArg some (by kernel_rfl))
  t0 := Try.underlying0
  a0 := Try.isAgg0
  z0 := Try.sizeOf0
  v0 := Try.zeroValue0
  t3 := Try.underlying3
  a3 := Try.isAgg3
  z3 := Try.sizeOf3
  v3 := Try.zeroValue3
  t4 := Try.underlying4
  a4 := Try.isAgg4
  z4 := Try.sizeOf4
  v4 := Try.zeroValue4
  t5 := Try.underlying5
  a5 := Try.isAgg5
  z5 := Try.sizeOf5
  v5 := Try.zeroValue5
  t9 := Try.underlying9
  a9 := Try.isAgg9
  z9 := Try.sizeOf9
  v9 := Try.zeroValue9
  t28 := Try.underlying22
  a28 := Try.isAgg22
  z28 := Try.sizeOf22
  v28 := Try.zeroValue22
  t46 := Try.underlying79
  a46 := Try.isAgg79
  z46 := Try.sizeOf79
  v46 := Try.zeroValue79
  t51 := Try.underlying109
  a51 := Try.isAgg109
  z51 := Try.sizeOf109
  v51 := Try.zeroValue109
  t53 := Try.underlying111
  a53 := Try.isAgg111
  z53 := Try.sizeOf111
  v53 := Try.zeroValue111
  t131 := Try.underlying106
  a131 := Try.isAgg106
  z131 := Try.sizeOf106
  v131 := Try.zeroValue106
  t182 := Try.underlying100
  a182 := Try.isAgg100
  z182 := Try.sizeOf100
  v182 := Try.zeroValue100
  t183 := Try.underlying101
  a183 := Try.isAgg101
  z183 := Try.sizeOf101
  v183 := Try.zeroValue101
  t218 := Try.underlying124
  a218 := Try.isAgg124
  z218 := Try.sizeOf124
  v218 := Try.zeroValue124
  t222 := Try.underlying128
  a222 := Try.isAgg128
  z222 := Try.sizeOf128
  v222 := Try.zeroValue128
  t228 := Try.underlying135
  a228 := Try.isAgg135
  z228 := Try.sizeOf135
  v228 := Try.zeroValue135
  t229 := Try.underlying136
  a229 := Try.isAgg136
  z229 := Try.sizeOf136
  v229 := Try.zeroValue136 }
end

/- The walks of slices.Values, AppendSeq, Collect at []int. -/
section
open Go.RowKit Go.Shelf

attribute [local go_sem] Oper.semAt_some

theorem take_nth (l : List Int) {k : Nat} (h : k < l.length) : l.take (k + 1) = l.take k ++ [nth l k] := by
  rw [List.take_succ_eq_append_getElem h, nth_getElem h]

set_option maxRecDepth 100000 in
set_option maxHeartbeats 2000000 in
/-- the iterator of slices.Values -/
theorem iterVals1_in (F : Fence) (n : Nat) (hF : F.fn 34) (hro : F.round = none) (hn : 1 ≤ n) (l Bs n₀ : Nat) (a : Option Addr) (len cap : Nat) (zs : List Int) (hreach : len * 8 ≤ 140737488351232) (J Jx : List Int → World → Prop)
    (hY : ∀ pre x W, J pre W → pre.length < len → YieldAt F (n - 1) Try.prog l #[.int .i64 x] W fun e W' =>
      (e = .returned (.bool true) ∧ J (pre ++ [x]) W' ∧ Below n₀ W W') ∨ (e = .returned (.bool false) ∧ Jx (pre ++ [x]) W'))
    (W : World) (hBs : W.cell? ⟨Bs, 0, none⟩ = some (.slice a len cap)) (hc : Ints W a len zs) (hb : 0 < len → ablk a < n₀) (h0 : J [] W) :
    CallsIn F n Try.prog 34 #[.func (.yield l) #[] #[], .pointer (some ⟨Bs, 0, none⟩)] W fun e W' => (∃ v, e = .returned v) ∧
      ((∃ ys, ys = zs ∧ J ys W') ∨ (∃ pre, (∃ k, k ≤ len ∧ pre = zs.take k) ∧ Jx pre W')) := by
  have hpl := hc.pl
  have Hlen := Lib.hid hc.len
  refine callsIn_of_wp Try.func34 rfl hF ?_ hro
  simp only [Try.ntmps34, List.size_toArray, List.length_cons, List.length_nil, Nat.reduceAdd, Nat.reduceSub, Array.replicate_succ, Array.replicate_zero, List.push_toArray, List.append_toArray, List.nil_append, List.cons_append]
  gi_wp2
  gi_loopw [7] (fun i wr => ∃ k : Nat, k ≤ len ∧ i = .int .i64 k ∧ J (zs.take k) wr ∧ Below n₀ W wr)
    (fun i _ => len - (intOf i).toNat)
  case atStart => exact ⟨0, Nat.zero_le _, rfl, h0, Below.refl _ _⟩
  case round =>
    obtain ⟨k, hk, rfl, hJs, hnx⟩ := hrel
    by_cases hlt : k < len
    · have hcx := (hc.below hnx hb).cell k hlt
      have htk := take_nth zs (k := k) (by rw [Hlen.out]; exact hlt)
      have Htk := Lib.hid htk
      obtain ⟨fn, tmps, assign, body, hy, hR⟩ := hY _ (nth zs k) wr hJs (by rw [List.length_take, Hlen.out]; omega)
      rw [← htk] at hR
      clear htk
      gi_wp2
      refine hR.mono ?_
      rintro e W3 (⟨rfl, hJ3, hk3⟩ | ⟨rfl, hJx3⟩)
      · gi_wp2
        go_roundw
        case rel => exact ⟨k + 1, by omega, by simp, hJ3, hnx.trans hk3⟩
        case measure => simp [intOf]; omega
      · gi_wp2
        refine bodyPost_ret (results_none rfl _ _ _) rfl ?_
        exact ⟨⟨_, rfl⟩, .inr ⟨_, ⟨k + 1, by omega, rfl⟩, hJx3⟩⟩
    · obtain rfl : k = len := by omega
      rw [List.take_of_length_le (by rw [Hlen.out]; exact Nat.le_refl _)] at hJs
      gi_wp2
      go_end0
      exact ⟨⟨_, rfl⟩, .inl ⟨_, rfl, hJs⟩⟩

set_option maxHeartbeats 1000000 in
/-- slices.Values: the slice is boxed; the function value captures the box -/
theorem iterVals_in (F : Fence) (n : Nat) (hF : F.fn 20) (hro : F.round = none) (a : Option Addr) (len cap : Nat) (w : World) :
    CallsIn F n Try.prog 20 #[.slice a len cap] w fun e w' => e = .returned (.func (.func 34) #[] #[.pointer (some ⟨w.heap.size, 0, none⟩)]) ∧ w' = w.alloc (.cells #[.slice a len cap] 22) := by
  refine callsIn_of_wp Try.func20 rfl hF ?_ hro
  simp only [Try.ntmps20, List.size_toArray, List.length_cons, List.length_nil, Nat.reduceAdd, Nat.reduceSub, Array.replicate_succ, Array.replicate_zero, List.push_toArray, List.append_toArray, List.nil_append, List.cons_append]
  gi_wp2
  go_ret
  exact ⟨rfl, rfl⟩

/-- it hands back all of the slice's numbers, in their order, or a beginning of them -/
theorem iterVals_stops (F : Fence) (n : Nat) (hF : F.fn 34) (hro : F.round = none) (hn : 1 ≤ n) (Bs n₀ : Nat) (a : Option Addr) (len cap : Nat) (zs : List Int) (hreach : len * 8 ≤ 140737488351232) (w : World) (hBs : Bs < w.heap.size) (hn₀ : n₀ ≤ w.heap.size)
    (hc : w.cell? ⟨Bs, 0, none⟩ = some (.slice a len cap)) (hI : Ints w a len zs) (hb : 0 < len → ablk a < n₀) :
    SeqStopsK F n Try.prog 34 #[.pointer (some ⟨Bs, 0, none⟩)] (fun x : Int => #[Value.int .i64 x]) (Below n₀) (fun ys => ys = zs) (fun pre => pre <+: zs) len w := fun l J Jx W hW _ _ hY h0 => by
  have hc' := (hW.cell (p := ⟨Bs, 0, none⟩) hBs).trans hc
  refine (iterVals1_in F n hF hro hn l Bs n₀ a len cap zs hreach J Jx hY W hc' (hI.below (hW.mono hn₀) hb) hb h0).mono ?_
  rintro e W' ⟨he, ⟨ys, rfl, hj⟩ | ⟨pre, ⟨k, hk, rfl⟩, hj⟩⟩
  · exact ⟨he, .inl ⟨_, rfl, hj⟩⟩
  · exact ⟨he, .inr ⟨_, List.take_prefix _ _, hj⟩⟩

set_option maxRecDepth 100000 in
set_option maxHeartbeats 2000000 in
/-- slices.AppendSeq onto nil, over the numbers of a slice -/
theorem appendSeq_in (F : Fence) (n : Nat) (hA : F.fn 55) (hV : F.fn 34) (hro : F.round = none) (hn : 3 ≤ n) (Bs : Nat) (a : Option Addr) (len cap : Nat) (zs : List Int) (hlen : len ≤ 1000000) (w : World) (hBs : Bs < w.heap.size)
    (hc : w.cell? ⟨Bs, 0, none⟩ = some (.slice a len cap)) (hI : Ints w a len zs) :
    CallsIn F n Try.prog 55 #[.slice none 0 0, .func (.func 34) #[] #[.pointer (some ⟨Bs, 0, none⟩)]] w fun e W' =>
      ∃ v, e = .returned v ∧ W'.ownsRow w.heap.size 3 1 v len (zs.map (Value.int .i64)) ∧ Below w.heap.size w W' := by
  have h1 : 1 ≤ n := by omega
  have Hlen := Lib.hid hI.len
  obtain ⟨i0, hi, hz0, hz1, hz2⟩ := info_parts infoInt
  refine callsIn_of_wp_marks Try.func55 rfl hA ?_ hro
  simp only [Try.ntmps55, List.size_toArray, List.length_cons, List.length_nil, Nat.reduceAdd, Nat.reduceSub, Array.replicate_succ, Array.replicate_zero, List.push_toArray, List.append_toArray, List.nil_append, List.cons_append]
  gi_wp2
  have bO := Boxed.new w 22 (.slice none 0 0)
  have hB0 : Below w.heap.size w (w.alloc (.cells #[.slice none 0 0] 22)) := (Below.refl _ w).alloc (Nat.le_refl _) _
  refine wpIn_rangeFunc_ownG hro h1 (gf := 34) (lb := #[.pointer (some ⟨Bs, 0, none⟩)]) rfl hV (enters_of Try.func34 (by kernel_rfl) rfl)
    (iterVals_stops F (n - 1) hV hro (by omega) Bs w.heap.size a len cap zs (by omega) w hBs (Nat.le_refl _) hc hI (fun h => hI.lt h)) belowK_t (belowK_b (by simp)) hB0 (fun _ => rfl)
    (fun pre W => (∃ v, Boxed W w.heap.size 22 v ∧ W.ownsRow w.heap.size 3 1 v pre.length (pre.map (Value.int .i64)) ∧ True) ∧ Below w.heap.size w W)
    (fun _ _ _ => False)
    (OwnFrom.and (Own.from (holdsRow_own w.heap.size w.heap.size 22 3 1 (fun pre : List Int => pre.length) (fun pre => pre.map (Value.int .i64)) (fun _ _ => True)) _) (ownFrom_below (Nat.le_refl _) (by simp)))
    (fun _ _ _ _ _ hs _ _ => hs)
    ⟨⟨_, bO, World.ownsRow_nil _ _ _ _, trivial⟩, hB0⟩
    (fun x => { tmps := #[.slice none 0 0, .func (.func 34) #[] #[.pointer (some ⟨Bs, 0, none⟩)], .pointer (some ⟨w.heap.size, 0, none⟩), undef, .slice none 0 0, .int .i64 x, .func (.func 34) #[] #[.pointer (some ⟨Bs, 0, none⟩)], .int .i64 x, undef, undef, undef, undef, undef], defers := [] }) ?assign ?body ?done ?stop
  case assign =>
    intro l x W K hK
    gi_wp2
    exact hK
  case body =>
    rintro l pre x W ⟨⟨v, hv, hrow, _⟩, hB⟩ hlt
    have hcv := hv.cell
    gi_wp2_with (gi_at_builtin; refine wpListIn_append_own _ rfl _ _ 22 rfl w.heap.size 3 i0 (.int .i64 0) 1 8 Try.underlying22 hi hz0 hz1 hz2 rfl (by decide) _ _ _ rfl (hrow.alloc _) ⟨W.heap.size, 0, none⟩ 1 1 [.int .i64 x] rfl rfl (cell_one_new _ _ _) (by simp [Value.oneCell']) (by unfold maxLen; omega) (by omega) (by have := hB.size; simp; omega) ?_; intro v' w1 hown' hgrow _; obtain ⟨g', cap', rfl⟩ := ownsRow_succ hown'; obtain ⟨hv1, hv2, hr2, hk2, hb2⟩ := hv.appended (by decide) hrow hB.size (Nat.le_refl _) hown' hgrow; have hc1 := hv1.cell; have hf1 := hv1.frozen)
    exact ⟨hk2.from _, hb2, ⟨_, hv2, by simpa using hr2, trivial⟩, hB.trans hb2⟩
  case done =>
    rintro D ys W hD rfl ⟨⟨v, hv, hrow, _⟩, hB⟩ hK
    have hcv := hv.cell
    gi_wp2
    refine ⟨by simp, .inl ⟨_, _, rfl, run_takeDeferred hK, ?_⟩⟩
    exact ⟨_, results_tmp rfl _ _ _, v, rfl, by have := ownsRow_putObj hrow (.deferred none) hK rfl; rw [Hlen.out] at this; exact this, hB.trans (belowK_b (w := w) (Nat.le_refl _) W D _ _ (by simp at hD; omega) hK rfl rfl)⟩
  case stop =>
    rintro D c pre W _ _ h _
    exact h.elim

set_option maxRecDepth 100000 in
set_option maxHeartbeats 2000000 in
/-- slices.Collect over the numbers of a slice -/
theorem collect_in (F : Fence) (n : Nat) (hC : F.fn 33) (hA : F.fn 55) (hV : F.fn 34) (hro : F.round = none) (hn : 4 ≤ n) (Bs : Nat) (a : Option Addr) (len cap : Nat) (zs : List Int) (hlen : len ≤ 1000000) (w : World) (hBs : Bs < w.heap.size)
    (hc : w.cell? ⟨Bs, 0, none⟩ = some (.slice a len cap)) (hI : Ints w a len zs) :
    CallsIn F n Try.prog 33 #[.func (.func 34) #[] #[.pointer (some ⟨Bs, 0, none⟩)]] w fun e W' =>
      ∃ v, e = .returned v ∧ W'.ownsRow w.heap.size 3 1 v len (zs.map (Value.int .i64)) ∧ Below w.heap.size w W' := by
  refine callsIn_of_wp Try.func33 rfl hC ?_ hro
  simp only [Try.ntmps33, List.size_toArray, List.length_cons, List.length_nil, Nat.reduceAdd, Nat.reduceSub, Array.replicate_succ, Array.replicate_zero, List.push_toArray, List.append_toArray, List.nil_append, List.cons_append]
  gi_wp2
  refine ⟨fun _ => by omega, ?_⟩
  refine (appendSeq_in F (n - 1) hA hV hro (by omega) Bs a len cap zs hlen _ hBs hc hI).mono ?_
  rintro e W' ⟨v, rfl, hown, hb⟩
  gi_wp2
  go_ret
  exact ⟨v, rfl, hown, hb⟩

theorem values_any (a : Option Addr) (len cap : Nat) (w : World) :
    Calls Try.prog 20 #[.slice a len cap] w fun e w' => e = .returned (.func (.func 34) #[] #[.pointer (some ⟨w.heap.size, 0, none⟩)]) ∧ w' = w.alloc (.cells #[.slice a len cap] 22) :=
  callsIn_wide.1 (iterVals_in Fence.wide 8 trivial rfl a len cap w)
theorem collect_any (Bs : Nat) (a : Option Addr) (len cap : Nat) (zs : List Int) (hlen : len ≤ 1000000) (w : World) (hBs : Bs < w.heap.size) (hc : w.cell? ⟨Bs, 0, none⟩ = some (.slice a len cap)) (hI : Ints w a len zs) :
    Calls Try.prog 33 #[.func (.func 34) #[] #[.pointer (some ⟨Bs, 0, none⟩)]] w fun e W' =>
      ∃ v, e = .returned v ∧ W'.ownsRow w.heap.size 3 1 v len (zs.map (Value.int .i64)) ∧ Below w.heap.size w W' :=
  callsIn_wide.1 (collect_in Fence.wide 8 trivial trivial trivial rfl (by omega) Bs a len cap zs hlen w hBs hc hI)
end

/- The walks of slices.Sort, Sorted at []int. -/
section
open Go.RowKit Go.Shelf Go.Sort

set_option maxHeartbeats 1000000 in
theorem insSort0_any (a : Option Addr) (c : Nat) (w : World) : Calls Try.prog 56 #[.slice a 0 c, .int .i64 0, .int .i64 0] w fun e w' => e = .returned (.tuple #[]) ∧ w' = w := by
  go_enter Try.func56, Try.ntmps56
  go_wp2_with fail
  refine wp_loop_rounds 1 ?_
  rw [rounds_succ]
  go_wp2_with fail
  go_end0
  exact ⟨rfl, rfl⟩

set_option maxHeartbeats 2000000 in
set_option maxRecDepth 100000 in
theorem pdq0_any (a : Option Addr) (c : Nat) (w : World) : Calls Try.prog 35 #[.slice a 0 c, .int .i64 0, .int .i64 0, .int .i64 0] w fun e w' => e = .returned (.tuple #[]) ∧ w' = w := by
  go_enter Try.func35, Try.ntmps35
  go_wp2_with fail
  refine wp_loop_rounds 1 ?_
  rw [rounds_succ]
  go_wp2_with fail
  refine (insSort0_any a c w).mono ?_
  rintro e w' ⟨rfl, rfl⟩
  go_wp2_with fail
  (try simp only [Exit.inBlock, Exit.then]); refine bodyPost_ret (results_none rfl _ _ _) rfl ?_
  exact ⟨rfl, rfl⟩

theorem bitsLen0_any (w : World) : Calls Try.prog 36 #[.int .u64 0] w fun e w' => e = .returned (.int .i64 0) ∧ w' = w :=
  calls_of_every_depth fun D => AnyS.bits_LenIn { layS with } D 0 w (by omega) (by omega)

set_option maxHeartbeats 2000000 in
theorem sort0_any (a : Option Addr) (c : Nat) (w : World) : Calls Try.prog 21 #[.slice a 0 c] w fun e w' => e = .returned (.tuple #[]) ∧ w' = w := by
  go_enter Try.func21, Try.ntmps21
  go_wp2_with fail
  refine (bitsLen0_any w).mono ?_
  rintro e w' ⟨rfl, rfl⟩
  go_wp2_with fail
  refine (pdq0_any a c w').mono ?_
  rintro e w' ⟨rfl, rfl⟩
  go_wp2_with fail
  go_end0
  exact ⟨rfl, rfl⟩

/-- slices.Sort of a slice of the call's own -/
theorem sort_any (B : Nat) (a : Option Addr) (n c : Nat) (l : List Int) (w : World) (hown : w.ownsRow B 3 1 (.slice a n c) n (l.map (Value.int .i64))) (hB : B ≤ w.heap.size) (hn : n ≤ 1000000) :
    Calls Try.prog 21 #[.slice a n c] w fun e w' => e = .returned (.tuple #[]) ∧ w'.ownsRow B 3 1 (.slice a n c) n ((sortL l).map (Value.int .i64)) ∧ w.grownBy w' (Value.slice a n c).ownBlock ∧ Below B w w' := by
  have hl : l.length = n := by simpa using own_len hown
  have hown' := hown
  rcases hown.2 with ⟨hv, hz⟩ | ⟨g, cap, cur, hv, hbase, hb, h1, h2, h3, h4⟩
  · cases hv
    have hl0 : l = [] := List.eq_nil_of_length_eq_zero hl
    subst hl0
    refine (sort0_any none 0 w).mono ?_
    rintro e w' ⟨rfl, rfl⟩
    exact ⟨rfl, by simpa [sortL] using hown', ⟨rfl, rfl, rfl, Nat.le_refl _, fun k _ _ => rfl⟩, Below.refl _ _⟩
  · cases hv
    subst hl
    have hH := holds_of_blockI (ss := l) hb (by simpa using h4)
    have hgl : g < w.heap.size := (Array.getElem?_eq_some_iff.1 hb).1
    refine (Any.slices_Sort_int layS g 0 c l w hH hgl (by omega)).mono ?_
    rintro e w' ⟨rfl, nn, os, rfl⟩
    have hgr := grownBy_sortedI (w := w) (g := g) (n := nn) (os := os) (l.mergeSort fun x y => decide (x ≤ y)).toArray
    exact ⟨rfl, ownsRow_sortedI (by simp) hbase hb h1 h2 h3, hgr, (Below.refl B w).grown hgr hB (fun j hj => by cases hj; exact hbase)⟩

set_option maxHeartbeats 2000000 in
set_option maxRecDepth 100000 in
/-- slices.Sorted over the numbers of a slice -/
theorem sorted_any (Bs : Nat) (a : Option Addr) (len cap : Nat) (zs : List Int) (hlen : len ≤ 1000000) (w : World) (hBs : Bs < w.heap.size) (hc : w.cell? ⟨Bs, 0, none⟩ = some (.slice a len cap)) (hI : Ints w a len zs) :
    Calls Try.prog 19 #[.func (.func 34) #[] #[.pointer (some ⟨Bs, 0, none⟩)]] w fun e W' =>
      ∃ a2 c2, e = .returned (.slice a2 len c2) ∧ W'.ownsRow w.heap.size 3 1 (.slice a2 len c2) len ((sortL zs).map (Value.int .i64)) ∧ Below w.heap.size w W' := by
  go_enter Try.func19, Try.ntmps19
  go_wp2_with fail
  refine (collect_any Bs a len cap zs hlen w hBs hc hI).mono ?_
  rintro e w1 ⟨v, rfl, hown, hb⟩
  obtain ⟨a2, c2, rfl, _⟩ := Pl.own hown
  have HS := Lib.hid (sort_any w.heap.size a2 len c2 zs w1 hown hb.size hlen)
  clear hown
  go_wp2_with fail
  refine HS.out.mono ?_
  rintro e w2 ⟨rfl, hown2, _, hb2⟩
  go_wp2_with fail
  go_ret
  exact ⟨a2, c2, rfl, hown2, hb.trans hb2⟩
end

/- A matrix that is put together row by row, behind a box. -/
section
open Go.RowKit

theorem OMat.setOther {w : World} {B : Nat} {a : Option Addr} {n c : Nat} {R : List (Option Addr × Nat)} {L : List (List Int)} (h : OMat w B a n c R L) {p : Addr} (hp : p.block < B) (v : Value) : OMat (w.setCell p v) B a n c R L :=
  h.of_blocks fun b hb => Below.heap_setCell _ _ _ _ (by have := (h.lt b hb).1; omega)

/-- a box of two cells, the second a matrix whose blocks are behind the box -/
structure MOut (w : World) (g : Nat) (x : Value) (a : Option Addr) (k c : Nat) (R : List (Option Addr × Nat)) (L : List (List Int)) : Prop where
  lt : g < w.heap.size
  c0 : w.cell? ⟨g, 0, none⟩ = some x
  c1 : w.cell? ⟨g, 1, none⟩ = some (.slice a k c)
  fr : ∀ i, w.frozen? ⟨g, i, none⟩ = false
  om : OMat w (g + 1) a k c R L
namespace MOut
variable {w w' w4 w5 : World} {g : Nat} {x : Value} {a : Option Addr} {k c : Nat} {R : List (Option Addr × Nat)} {L : List (List Int)}
theorem keep (h : MOut w g x a k c R L) (hb : Below w.heap.size w w') : MOut w' g x a k c R L :=
  ⟨Nat.lt_of_lt_of_le h.lt hb.size, cell_keep hb h.c0, cell_keep hb h.c1, fun i => frozen_keep hb h.lt (h.fr i), h.om.keep hb⟩
theorem apt (h : MOut w g x a k c R L) : Apt a g := by
  by_cases ha : a = none
  · exact .inl ha
  · exact .inr fun e => by have := (own_ne h.om.own ha).1; omega
theorem pushed {o : Obj} (h : MOut w4 g x a k c R L) (hgr5 : (w4.alloc o).grownBy w5 (Value.slice a k c).ownBlock) : w5.cell? ⟨g, 0, none⟩ = some x ∧ w5.cell? ⟨g, 1, none⟩ = some (.slice a k c) ∧ w5.frozen? ⟨g, 1, none⟩ = false := by
  have hb1 := below1 w4 o
  have hlt := h.lt
  have hs1 := hb1.size
  exact ⟨cell_grownApt hgr5 (cell_box h.c0 o) h.apt, cell_grownApt hgr5 (cell_box h.c1 o) h.apt,
    (World.frozen?_of_block (w := w4.alloc o) (a := ⟨g, 1, none⟩) (hgr5.block g (by omega) fun e => h.apt.own k c e.symm)).trans (frozen_box h.lt (h.fr 1) _)⟩
theorem push {a4 a5 : Option Addr} {n4 c4 c5 : Nat} {N : List Int} {o : Obj} (h : MOut w4 g x a k c R L) (hn4 : N.length = n4)
    (hown4 : w4.ownsRow (g + 1) 3 1 (.slice a4 n4 c4) n4 (N.map (Value.int .i64))) (hra : a4 ≠ none → ¬ OIn a R (ablk a4))
    (hown5 : w5.ownsRow (g + 1) 22 1 (.slice a5 (k + 1) c5) (k + 1) (List.zipWith rowV R L ++ [.slice a4 n4 c4])) (hgr5 : (w4.alloc o).grownBy w5 (Value.slice a k c).ownBlock)
    (hap5 : ∀ x, x < (w4.alloc o).heap.size → Apt a x → Apt a5 x) :
    MOut (w5.setCell ⟨g, 1, none⟩ (.slice a5 (k + 1) c5)) g x a5 (k + 1) c5 (R ++ [(a4, c4)]) (L ++ [N]) ∧ Below g w4 (w5.setCell ⟨g, 1, none⟩ (.slice a5 (k + 1) c5)) := by
  subst hn4
  have hb1 := below1 w4 o
  have hO := h.om.keep hb1
  have hr := own_keep hown4 hb1
  have hP := OMat.push hO hr hra hown5 hgr5 hap5
  have hlt := h.lt
  have hs1 := hb1.size
  have hB5 : Below (g + 1) w4 w5 := Below.app (hb1.mono (by omega)) hO.own hgr5 (Nat.le_refl _) (by omega)
  have hs := hB5.size
  have k0 := cell_grownApt hgr5 (cell_box h.c0 o) h.apt
  have k1 := cell_grownApt hgr5 (cell_box h.c1 o) h.apt
  refine ⟨⟨by simp; omega, ?_, World.cell?_setCell_same _ _ _ k1, fun i => ?_, hP.setOther (by simp) _⟩, (hB5.mono (by omega)).setCell (by simp) _⟩
  · rw [World.cell?_setCell_other _ _ _ _ (by simp)]; exact k0
  · rw [World.frozen?_setCell]
    exact (World.frozen?_of_block (w := w4.alloc o) (a := ⟨g, i, none⟩) (hgr5.block g (by omega) fun e => h.apt.own k c e.symm)).trans (frozen_box h.lt (h.fr i) _)
theorem start {U : World} {g : Nat} {x : Value} (hU : Box U g [x, .slice none 0 0]) : MOut U g x none 0 0 [] [] :=
  ⟨hU.1, hU.cell 0 rfl, hU.cell 1 rfl, hU.frozen, OMat.empty _ _⟩
end MOut

theorem Box.two (w : World) (x0 y0 x y : Value) (e : TypeId) : Box (((w.alloc (.cells #[x0, y0] e)).setCell ⟨w.heap.size, 0, none⟩ x).setCell ⟨w.heap.size, 1, none⟩ y) w.heap.size [x, y] := by
  have h : Box (w.alloc (.cells #[x0, y0] e)) w.heap.size [x0, y0] := Box.new w [x0, y0] e rfl
  have k0 := h.cell 0 rfl
  have k1 := h.cell 1 rfl
  refine ⟨by simp, fun i v hv => ?_, fun i => by rw [World.frozen?_setCell, World.frozen?_setCell]; exact h.frozen i⟩
  match i, hv with
  | 0, hv =>
    obtain rfl : x = v := by simpa using hv
    rw [World.cell?_setCell_other _ _ _ _ (by simp)]
    exact World.cell?_setCell_same _ _ _ k0
  | 1, hv =>
    obtain rfl : y = v := by simpa using hv
    exact World.cell?_setCell_same _ _ _ (by rw [World.cell?_setCell_other _ _ _ _ (by simp)]; exact k1)
  | i + 2, hv => simp at hv
theorem below_two (w : World) (x0 y0 x y : Value) (e : TypeId) : Below w.heap.size w (((w.alloc (.cells #[x0, y0] e)).setCell ⟨w.heap.size, 0, none⟩ x).setCell ⟨w.heap.size, 1, none⟩ y) :=
  ((below1 w (.cells #[x0, y0] e)).setCell (Nat.le_refl _) _).setCell (Nat.le_refl _) _
end

/- The walk of modify.Permute. -/
section
open Go.RowKit

theorem scat_zero (m : Nat) (R r : List Int) : (scat m R r 0).map (Value.int .i64) = List.replicate m (Value.int .i64 0) := by rw [scat, List.map_replicate]
end

/- The walk of ordering.Reorder. -/
section
open Go.RowKit

theorem fmatE_mk {P M : Int} {mod : List Int} {m : Nat} {D : List (List Int)} (hfB : fieldB P M mod = true) (hm : m ≤ 256) (hD : D.length ≤ 256) (hR : Rws (tblOf P M.toNat mod).El m D) : fmatE P M mod m D = 0 := by
  unfold fmatE
  rw [if_pos hfB]
  unfold matE
  rw [if_neg (by omega)]
  have hsh : shapeQ (m : Int) D = true := by
    unfold shapeQ
    rw [List.all_eq_true]
    intro r hr
    have := (hR r hr).1
    simp; omega
  rw [if_neg (by rw [hsh]; decide), if_pos]
  rw [List.all_eq_true]
  intro r hr
  unfold elsQ isQ
  rw [List.all_eq_true]
  intro x hx
  have := (hR r hr).2 x hx
  unfold Tbl.El at this
  simp
  exact this
theorem reo_fmat {P M : Int} {mod : List Int} {m : Nat} {L : List (List Int)} {Q : List Int} (hE : codeE P M mod m L = 0) (hO : ordB m Q = true) : fmatE P M mod m (L.map (pickL Q)) = 0 := by
  obtain ⟨N', e, hm1, hm64, F, hR⟩ := codeE_fld hE
  obtain rfl : m = N' := by omega
  obtain ⟨hI, hl⟩ := ordB_in hO
  exact fmatE_mk (codeE_zero hE).1 (by omega) (by rw [List.length_map]; exact (codeE_rws hE).choose_spec.2.2.2.1) (reo_rws F hR hI hl)

def ReoPost (P M : Int) (mod : List Int) (N : Int) (L : List (List Int)) (Q : List Int) (w : World) (e : Ending) (w' : World) : Prop :=
  Below w.heap.size w w' ∧ (
    (ordE P M mod N L Q ≠ 0 ∧ e = .returned (.tuple #[.agg #[.int .i64 0, .int .i64 0, .slice none 0 0, .int .i64 0, .slice none 0 0], .int .i64 (ordE P M mod N L Q)])) ∨
    (ordE P M mod N L Q = 0 ∧ ∃ m : Nat, ∃ a1 c1 a2 c2, N = m ∧ e = .returned (.tuple #[.agg #[.int .i64 P, .int .i64 M, .slice a1 mod.length c1, .int .i64 m, .slice a2 (reoL (tblOf P M.toNat mod).ops m Q L).length c2], .int .i64 0]) ∧
      IntsN w.heap.size w' a1 mod.length mod ∧ MatN w.heap.size w' a2 (reoL (tblOf P M.toNat mod).ops m Q L).length (reoL (tblOf P M.toNat mod).ops m Q L)))
end

/- The walk of matrix.Inverse, at an invertible matrix. -/
section
open Go.RowKit

/-- rows side by side -/
def joinL (D U : List (List Int)) : List (List Int) := List.zipWith (fun r s => r ++ s) D U
theorem joinL_take {k : Nat} : ∀ {D U : List (List Int)}, D.length = U.length → (∀ r ∈ D, r.length = k) → (joinL D U).map (List.take k) = D
  | [], [], _, _ => rfl
  | [], _ :: _, h, _ => by simp at h
  | _ :: _, [], h, _ => by simp at h
  | r :: D, u :: U, h, hr => by
    have ih := joinL_take (k := k) (D := D) (U := U) (by simpa using h) fun x hx => hr x (List.mem_cons_of_mem _ hx)
    unfold joinL at ih ⊢
    rw [List.zipWith_cons_cons, List.map_cons, ih]
    have := hr r (List.mem_cons_self ..)
    rw [← this, List.take_left']
    rfl
theorem joinL_drop {k : Nat} : ∀ {D U : List (List Int)}, D.length = U.length → (∀ r ∈ D, r.length = k) → (joinL D U).map (List.drop k) = U
  | [], [], _, _ => rfl
  | [], _ :: _, h, _ => by simp at h
  | _ :: _, [], h, _ => by simp at h
  | r :: D, u :: U, h, hr => by
    have ih := joinL_drop (k := k) (D := D) (U := U) (by simpa using h) fun x hx => hr x (List.mem_cons_of_mem _ hx)
    unfold joinL at ih ⊢
    rw [List.zipWith_cons_cons, List.map_cons, ih]
    have := hr r (List.mem_cons_self ..)
    rw [← this, List.drop_left']
    rfl
theorem joinL_rws {El : Int → Prop} {k m : Nat} : ∀ {D U : List (List Int)}, Rws El k D → Rws El m U → Rws El (k + m) (joinL D U)
  | [], _, _, _ => fun r hr => by simp [joinL] at hr
  | _ :: _, [], _, _ => fun r hr => by simp [joinL] at hr
  | d :: D, u :: U, hD, hU => by
    have ih := joinL_rws (D := D) (U := U) (fun r hr => hD r (List.mem_cons_of_mem _ hr)) (fun r hr => hU r (List.mem_cons_of_mem _ hr))
    intro r hr
    unfold joinL at hr ih
    rw [List.zipWith_cons_cons] at hr
    rcases List.mem_cons.1 hr with rfl | hr
    · have h1 := hD d (List.mem_cons_self ..)
      have h2 := hU u (List.mem_cons_self ..)
      refine ⟨by rw [List.length_append, h1.1, h2.1], fun x hx => ?_⟩
      rcases List.mem_append.1 hx with hx | hx
      · exact h1.2 x hx
      · exact h2.2 x hx
    · exact ih r hr
theorem unit_rws {El : Int → Prop} (h0 : El 0) (h1 : El 1) (n : Nat) : Rws El n (unitL n) := fun r hr => by
  unfold unitL at hr
  obtain ⟨i, _, rfl⟩ := List.mem_map.1 hr
  refine ⟨unitR_len n i, fun x hx => ?_⟩
  unfold unitR at hx
  rcases List.mem_or_eq_of_mem_set hx with hx | rfl
  · rw [List.eq_of_mem_replicate hx]; exact h0
  · exact h1
def invL (O : FOps) (D : List (List Int)) (k : Nat) : List (List Int) := (elimTo O (joinL D (unitL k)) k).1.map (List.drop k)
theorem invL_len (O : FOps) {D : List (List Int)} {k : Nat} (h : D.length = k) : (invL O D k).length = k := by
  unfold invL
  rw [List.length_map, elimTo_length]
  simp [joinL, unitL_len, h]

set_option maxRecDepth 100000 in
set_option maxHeartbeats 8000000 in
theorem inverse_any (P M : Int) (am : Option Addr) (mn cm : Nat) (mod : List Int) (k : Nat) (a : Option Addr) (c : Nat) (D : List (List Int)) (w : World) (hmod : Ints w am mn mod) (hi : Mat w a k D)
    (hB : fieldB P M mod = true) (hR : Rws (tblOf P M.toNat mod).El k D) (hk : k ≤ 64) (hpv : (elimTo (tblOf P M.toNat mod).ops (joinL D (unitL k)) k).2.length = k) :
    Calls Try.prog 23 #[.agg #[.int .i64 P, .int .i64 M, .slice am mn cm], .agg #[.int .i64 k, .slice a k c]] w
      fun e w' => ∃ a1 c1, e = .returned (.tuple #[.agg #[.int .i64 k, .slice a1 k c1], .int .i64 0]) ∧ MatN w.heap.size w' a1 k (invL (tblOf P M.toNat mod).ops D k) ∧ Below w.heap.size w w' := by
  have hDl := hi.len
  have F := fieldB_fld hB
  have hmE : matE (tblOf P M.toNat mod).q k D = 0 := by
    have h := fmatE_mk hB (show k ≤ 256 by omega) (show D.length ≤ 256 by omega) hR
    exact (fmatE_zero h).2
  have hJr := joinL_rws hR (unit_rws F.zero F.one k)
  have hJt := joinL_take (U := unitL k) (by rw [unitL_len]; exact hDl) (fun r hr => (hR r hr).1)
  have hJd := joinL_drop (U := unitL k) (by rw [unitL_len]; exact hDl) (fun r hr => (hR r hr).1)
  have hpla := hi.pl
  have HDr : Hid (∀ l ∈ D, l.length ≤ 1000000) := fun l hl => by rw [(hR l hl).1]; omega
  obtain ⟨G, hGG⟩ : ∃ G, tblOf P M.toNat mod = G := ⟨_, rfl⟩
  unfold invL
  obtain ⟨J, hJ⟩ : ∃ J, joinL D (unitL k) = J := ⟨_, rfl⟩
  rw [hGG, hJ] at hpv hJr
  rw [hJ] at hJt hJd
  rw [hGG, hJ]
  have HJ := Lib.hid (And.intro hJr (And.intro hJt hJd))
  have Hpv := Lib.hid hpv
  have HDl := Lib.hid hDl
  have HGG := Lib.hid hGG
  have HB := Lib.hid hB
  have HmE := Lib.hid hmE
  clear hJr hJt hJd hpv hDl hGG F hR hJ hB hmE
  go_enter Try.func23, Try.ntmps23
  go_wp2_with fail
  obtain ⟨W, hW⟩ : ∃ W : World, W = ((((w.alloc (.cells #[.int .i64 P, .int .i64 M, .slice am mn cm] 29)).alloc (.cells #[.int .i64 k, .slice a k c] 39)).alloc (.cells #[.int .i64 0, .slice none 0 0] 39)).alloc (.cells #[.int .i64 k, .slice a k c] 39)) := ⟨_, rfl⟩
  rw [← hW]
  have hbW : Below w.heap.size w W := by rw [hW]; exact ((((Below.refl _ _).alloc (Nat.le_refl _) _).alloc (by simp) _).alloc (by simp; omega) _).alloc (by simp; omega) _
  have hsW : W.heap.size = w.heap.size + 4 := by rw [hW]; simp
  have x1 : Box W (w.heap.size + 1) [.int .i64 k, .slice a k c] := by rw [hW]; exact ((Box.new _ _ _ (by simp)).alloc _).alloc _
  have x2 : Box W (w.heap.size + 1 + 1) [.int .i64 0, .slice none 0 0] := by rw [hW]; exact (Box.new _ _ _ (by simp)).alloc _
  have q3 : W.cell? ⟨w.heap.size + 1 + 1 + 1, 0, none⟩ = some (.int .i64 k) ∧ W.cell? ⟨w.heap.size + 1 + 1 + 1, 1, none⟩ = some (.slice a k c) := by rw [hW]; exact ⟨cell_alloc_at _ _ _ (by simp) 0, cell_alloc_at _ _ _ (by simp) 1⟩
  have hMs : Mats W (some ⟨w.heap.size + 1 + 1 + 1, 0, none⟩) 1 [((k : Int), D)] := ⟨rfl, fun _ => rfl, by unfold maxLen; omega, fun i hi' => by
    have : i = 0 := by simp at hi'; omega
    subst this
    exact ⟨a, k, c, by simpa using q3.1, by simpa using q3.2, hi.keep hbW⟩⟩
  have HX := Lib.hid (And.intro x1 x2)
  have HsW := Lib.hid hsW
  have HbW := Lib.hid hbW
  clear hW hsW x1 x2 q3
  refine (open_any P M am mn cm mod _ 1 1 _ W (hmod.keep hbW) hMs).mono ?_
  rintro e w1 ⟨hb1, hcase⟩
  rw [matsE_one] at hcase
  rcases hcase with ⟨hB, _⟩ | ⟨_, er, h0, h1, _⟩ | ⟨_, _, b, rfl, hG, hbl⟩
  · rw [HB.out] at hB; exact absurd hB (by decide)
  · rw [HmE.out] at h1; exact absurd h1.symm h0
  rw [HGG.out] at hG
  have hbw1 := Below.next hbW hb1
  have r1 := HX.out.1.keep hb1
  have m0 := r1.cell 0 rfl
  have m1 := r1.cell 1 rfl
  have hkk : ((k : Int) != k) = false := by simp
  have hi1 := hi.keep hbw1
  clear hMs hbW r1 hbl hmod hi
  go_wp2_with fail
  refine (unit_any k w1 (by omega)).mono ?_
  rintro e w2 ⟨ae, ce, S, rfl, hOu, hb2⟩
  rw [unitL_len] at hOu ⊢
  have HS : Hid (∀ V, Below w2.heap.size w2 V → V.cell? ⟨w.heap.size + 1, 0, none⟩ = some (.int .i64 k) ∧ V.cell? ⟨w.heap.size + 1, 1, none⟩ = some (.slice a k c)) := fun V hV => by
    have r2 := HX.out.1.keep (Below.next (Below.next hb1 hb2) hV)
    exact ⟨r2.cell 0 rfl, r2.cell 1 rfl⟩
  have Hcl : Hid (∀ V, Below w2.heap.size w2 V → Calls Try.prog 40 #[.slice a k c] V fun e w' => ∃ a1 c1 R, e = .returned (.slice a1 k c1) ∧ OMat w' V.heap.size a1 k c1 R D ∧ Below V.heap.size V w') := fun V hV => by
    refine (clone_any a k c D (hi1.keep (Below.next hb2 hV)) (by omega) HDr.out).mono ?_
    rintro e w' ⟨a1, c1, R, rfl, h1, h2⟩
    rw [HDl.out] at h1 ⊢
    exact ⟨a1, c1, R, rfl, h1, h2⟩
  have Hel : Hid (∀ V V2 a1 c1 R, Below w2.heap.size w2 V → OMat V2 V.heap.size a1 k c1 R D → Below V.heap.size V V2 → ∀ V3, Below V2.heap.size V2 V3 →
      Calls Try.prog 39 #[.pointer (some ⟨b, 0, none⟩), .slice a1 k c1, .int .i64 k, .slice ae k ce] V3 fun e w' => ∃ ap cp d, e = .returned (.tuple #[.slice ap k cp, .int .i64 d]) ∧
        MatN w1.heap.size w' ae k ((elimTo G.ops J k).1.map (List.drop k)) ∧ Below w1.heap.size w1 w') := fun V V2 a1 c1 R hV hO hV2 V3 hV3 => by
    have hb13 : Below w1.heap.size w1 V3 := Below.next (Below.next hb2 hV) (Below.next hV2 hV3)
    have hsz2 := hb2.size
    have hszV := hV.size
    have hO2 : OMat2 V3 w1.heap.size a1 k c1 R ae ce S k J := by
      refine ⟨by rw [HJ.out.2.1]; exact (hO.keep hV3).mono (by omega), by rw [HJ.out.2.2]; exact (hOu.keep (Below.next hV (Below.next hV2 hV3))), fun x hx hx2 => ?_⟩
      have h1 := (hO.lt x hx).1
      have h2 := (hOu.lt x hx2).2
      omega
    refine (eliminateA_any w1 a1 k c1 k k (k + k) R ae ce S J hG hb13 hO2 HJ.out.1 (Nat.le_refl _) (by omega) (by omega) (by omega)).mono ?_
    rintro e w' ⟨R', S', ap, cp, d, rfl, hO', _, _, hb'⟩
    exact ⟨ap, cp, d, by rw [Hpv.out], MatN.own hO'.om2, hb'⟩
  obtain ⟨k0, k1⟩ := HS.out w2 (Below.refl _ _)
  have HbW1 := Lib.hid (And.intro hb1 hbw1)
  clear hOu hi1 hG m0 m1 hb1 hbw1
  go_wp2_with fail
  go_cut [9] (fun v wx => ∃ ap cp, v = .slice ap k cp ∧ MatN w1.heap.size wx ae k ((elimTo G.ops J k).1.map (List.drop k)) ∧ Below w1.heap.size w1 wx)
  case first =>
    go_region_law ((first
      | (go_simp; go_at_call 40; ((with_reducible refine (Hcl.out _ (Below.refl _ _).drew).mono ?_); rintro e w4 ⟨a4, c4, R4, rfl, hO4, hb4⟩; obtain ⟨k0, k1⟩ := HS.out w4 (Below.next (Below.refl _ _).drew hb4)))
      | (go_simp; go_at_call 39; ((with_reducible refine (Hel.out _ w4 a4 c4 R4 (Below.refl _ _).drew hO4 hb4 _ (by first | exact Below.refl _ _ | exact (Below.refl _ _).drew)).mono ?_); rintro e w5 ⟨ap, cp, d, rfl, hM5, hb5⟩))))
    all_goals (
      go_wp2_with fail
      go_meet
      exact ⟨ap, cp, rfl, hM5, hb5⟩)
  obtain ⟨ap, cp, rfl, hM, hbc⟩ := hcut
  generalize wc = U at *
  have r2 := HX.out.1.keep (Below.next HbW1.out.1 hbc)
  have k0' := r2.cell 0 rfl
  have z6 := HX.out.2.keep (Below.next HbW1.out.1 hbc)
  have z0 := z6.cell 0 rfl
  have z1 := z6.cell 1 rfl
  have f0 := z6.frozen 0
  have f1 := z6.frozen 1
  have hs := HsW.out
  have hs1 := HbW1.out.1.size
  have HF := Lib.hid (And.intro (((hM.setCell (p := ⟨w.heap.size + 1 + 1, 0, none⟩) (by simp; omega) (.int .i64 k)).setCell (p := ⟨w.heap.size + 1 + 1, 1, none⟩) (by simp; omega) (.slice ae k ce)).mono (show w.heap.size ≤ w1.heap.size by omega))
    (((Below.next HbW1.out.2 hbc).setCell (p := ⟨w.heap.size + 1 + 1, 0, none⟩) (by simp; omega) (.int .i64 k)).setCell (p := ⟨w.heap.size + 1 + 1, 1, none⟩) (by simp; omega) (.slice ae k ce)))
  clear hM z6 r2 k0 k1 HS Hcl Hel
  go_wp2_with fail
  exact bodyPost_ret (v := .tuple #[.agg #[.int .i64 k, .slice ae k ce], .int .i64 0]) (by simp [results, Try.results23, go_sem, z0, z1]) rfl ⟨ae, ce, rfl, HF.out.1, HF.out.2⟩
end

end Go.Proofs.Ytapjcccpokhhhaa
