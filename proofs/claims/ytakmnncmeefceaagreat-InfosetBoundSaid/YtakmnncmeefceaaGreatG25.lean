/- The walks of slices.Sort, Sorted at []int. -/
import Derived.Test.YtakmnncmeefceaaGreatG24
import Derived.Test.YtakmnncmeefceaaGreatG5
import Derived.Test.YtakmnncmeefceaaGreatG21
import Derived.Test.YtakmnncmeefceaaGreatG9
import Derived.Shelf.Sort.Plain
import Derived.Test.YtakmnncmeefceaaGreatProg
import Derived.RangeFuncBox
import Derived.RangeFuncLeaves
import Derived.Shelf.Abstract
import Derived.WalkKit
import Derived.OwnWalkIn
import Derived.TacticsInMore
import Derived.LoopNIn
import Derived.LoopIn
import Derived.Maps.AppendAt
import Derived.Test.YtakmnncmeefceaaGreatG4
import Derived.Test.YtakmnncmeefceaaGreatG1
import Derived.Sort.OwnSortedInts
namespace Go.Proofs.YtakmnncmeefceaaGreat
set_option linter.unusedVariables false
set_option linter.unusedSimpArgs false
set_option linter.unusedSectionVars false

/- The walks of matrix.unit, vec. -/
section
open Go.RowKit

def unitR (n k : Nat) : List Int := (List.replicate n 0).set k 1
def unitL (n : Nat) : List (List Int) := (List.range n).map (unitR n)
theorem unitL_len (n : Nat) : (unitL n).length = n := by simp [unitL]
theorem unitR_len (n k : Nat) : (unitR n k).length = n := by simp [unitR]
theorem nthR_unit {n k : Nat} (h : k < n) : nthR (unitL n) k = unitR n k := by
  rw [nthR_getElem (by rw [unitL_len]; exact h)]; simp [unitL]
theorem set_setR (L : List (List Int)) (k : Nat) (x y : List Int) : (L.set k x).set k y = L.set k y := by simp

set_option maxRecDepth 100000 in
set_option maxHeartbeats 1600000 in
theorem unit_any (n : Nat) (w : World) (hn : n ≤ 1000000) : Calls Tryz.prog 129 #[.int .i64 n] w (NewMat w (unitL n)) := by
  go_enter Tryz.func129, Tryz.ntmps129
  go_wp2_with (at_make; refine wpList_mk rfl _ _ 25 22 rfl (.slice none 0 0) 24 Tryz.underlying25 infoInts rfl n rfl rfl (by omega) (by unfold maxLen; omega) ?_; intro a1 w1 hown hbel hge hlt)
  have hO := omat_made hown
  have hO1 : ∃ R, OMat w1 w.heap.size a1 n n R (rowsTo n 0 (unitL n)) := ⟨_, by simpa [rowsTo] using hO⟩
  clear hO hown
  go_loopw [9] (fun iv wr => ∃ k : Nat, k ≤ n ∧ iv = .int .i64 k ∧ (∃ R, OMat wr w.heap.size a1 n n R (rowsTo n k (unitL n))) ∧ Below w.heap.size w wr) (fun iv _ => n - (intOf iv).toNat)
  case atStart => exact ⟨0, Nat.zero_le _, rfl, hO1, hbel⟩
  case round =>
    obtain ⟨k, hk, rfl, ⟨R, hO⟩, hbr⟩ := hrel
    by_cases hlt : k < n
    · have hset := rowsTo_set hlt (unitL_len n)
      rw [nthR_unit hlt] at hset
      have Hset := Lib.hid hset
      clear hset
      have hpl1 := hO.pl
      have hsz := hbr.size
      generalize wr = V at *
      go_upto_region 6 with (at_make; refine wpList_mk rfl _ _ 22 3 rfl (.int .i64 0) 8 Tryz.underlying22 infoInt rfl n rfl rfl (by omega) (by unfold maxLen; omega) ?_; intro a3 w3 hown3 hb3 hge3 hlt3; have hO3 := OMat.keep hO hb3; have hf := hO3.frozen hlt; have hc := hO3.cell hlt)
      have hown3' : w3.ownsRow V.heap.size 3 1 (.slice a3 (List.replicate n (0 : Int)).length n) (List.replicate n (0 : Int)).length ((List.replicate n (0 : Int)).map (Value.int .i64)) := by rw [List.length_replicate, List.map_replicate]; exact hown3
      have hB := (OMat.lt hO3 (ablk a1) (.inl ⟨hO3.ne (by omega), rfl⟩)).1
      have hnew := OMat.setRow hO3 hlt (own_mono hown3' hsz) (own_apt hown3 (OMat.lt hO (ablk a1) (.inl ⟨hO.ne (by omega), rfl⟩)).2) (fun j hj _ => by
        by_cases hn : (nthA R j).1 = none
        · exact .inl hn
        · exact .inr (own_apt hown3 (OMat.lt hO _ (OMat.inRow (by rw [hO.rl]; exact hj) hn)).2))
      rw [List.length_replicate] at hnew
      obtain ⟨Y, hY⟩ : ∃ Y, w3.setCell ⟨ablk a1, aoff a1 + k, none⟩ (.slice a3 n n) = Y := ⟨_, rfl⟩
      rw [hY] at hnew ⊢
      have hbY : Below w.heap.size w Y := by rw [← hY]; exact (Below.next hbr hb3).setCell hB _
      have hRk : nthA (R.set k (a3, n)) k = (a3, n) := by rw [nthA_set _ _ _ _ (by rw [hO.rl]; exact hlt), if_pos rfl]
      have hLk : nthR ((rowsTo n k (unitL n)).set k (List.replicate n 0)) k = List.replicate n 0 := by rw [nthR_set _ _ _ _ (by rw [hO.ll]; exact hlt), if_pos rfl]
      have hcr := hnew.cell hlt
      have hrow := hnew.row k hlt
      rw [hRk, hLk, List.length_replicate] at hcr hrow
      obtain ⟨hints, hmine⟩ := Ints.own hrow
      have cz := hints.cell k hlt
      have fz := (hmine (by omega)).2 k hlt
      have hBz := (hmine (by omega)).1
      have hpl3 := hints.pl
      have hown2 := own_set hrow k hlt (.int .i64 1)
      rw [← List.map_set] at hown2
      have hne3 : a3 ≠ none := fun e => by
        have := hpl3 (by omega)
        rw [e] at this; cases this
      have hfin := OMat.rowTo hnew hlt (l := unitR n k) (by rw [hLk, List.length_replicate, unitR_len]) (by rw [hRk, hLk, List.length_replicate]; exact hown2) (fun b hb hne => Below.heap_setCell _ _ _ _ fun e => by
        rw [hRk] at hne
        rcases hne with h1 | h1
        · exact hne3 h1
        · exact h1 e)
      rw [set_setR, Hset.out] at hfin
      have Hfin := Lib.hid hfin
      clear hfin hnew hrow hints hmine hown2 hRk hLk hY hf hc hown3 hown3' hO3
      go_wp2_with fail
      go_roundw
      case rel => exact ⟨k + 1, by omega, by go_num, ⟨_, Hfin.out⟩, hbY.setCell hBz _⟩
      case measure => simp [intOf] <;> omega
    · obtain rfl : k = n := by omega
      rw [rowsTo_all (unitL_len k)] at hO
      go_wp2_with fail
      go_ret
      exact ⟨a1, k, R, by rw [unitL_len]; rfl, by rw [unitL_len]; exact hO, hbr⟩

variable {w : World} {b : Nat} {G : Tbl}
set_option maxRecDepth 100000 in
set_option maxHeartbeats 1600000 in
theorem vec_any (ax : Option Addr) (cx : Nat) (x : List Int) (a : Option Addr) (n c : Nat) (L : List (List Int)) (cols : Nat) (h : GFw w b G) (F : Fld G.ops G.El) (hx : Ints w ax n x) (hi : Mat w a n L) (hxe : ∀ k, k < n → G.El (nth x k)) (hR : Rws G.El cols L) (hc1 : 1 ≤ cols) (hc : cols ≤ 1000000) (hn : n ≤ 1000000) :
    Calls Tryz.prog 102 #[.pointer (some ⟨b, 0, none⟩), .slice ax n cx, .slice a n c, .int .i64 cols] w fun e w' =>
      ∃ a1 c1, e = .returned (.slice a1 cols c1) ∧ w'.ownsRow w.heap.size 3 1 (.slice a1 cols c1) cols ((cmbTo G.ops cols x L n).map (Value.int .i64)) ∧ Below w.heap.size w w' := by
  have Hil := Lib.hid hi.len
  have hplx := hx.pl
  have hpla := hi.pl
  have hcm := cmb_rs F hR (x := x) (by rw [hi.len]; exact hxe)
  have Hcm := Lib.hid hcm
  have HR := Lib.hid hR
  have hz : (cmbTo G.ops cols x L 0).map (Value.int .i64) = List.replicate cols (Value.int .i64 0) := by simp [cmbTo]
  have Hz := Lib.hid hz
  clear hcm hR hz F
  go_enter Tryz.func102, Tryz.ntmps102
  go_wp2_with (at_make; refine wpList_mk rfl _ _ 22 3 rfl (.int .i64 0) 8 Tryz.underlying22 infoInt rfl cols rfl rfl (by omega) (by unfold maxLen; omega) ?_; intro a5 w5 hown hbel hge hlt)
  have hown0 : w5.ownsRow w.heap.size 3 1 (.slice a5 cols cols) cols ((cmbTo G.ops cols x L 0).map (Value.int .i64)) := by rw [Hz.out]; exact hown
  clear hown hlt
  go_loopw [16] (fun iv wr => ∃ k : Nat, k ≤ n ∧ iv = .int .i64 k ∧ wr.ownsRow w.heap.size 3 1 (.slice a5 cols cols) cols ((cmbTo G.ops cols x L k).map (Value.int .i64)) ∧ Below w.heap.size w wr) (fun iv _ => n - (intOf iv).toNat)
  case atStart => exact ⟨0, Nat.zero_le _, rfl, hown0, hbel⟩
  case round =>
    clear hown0 hbel
    obtain ⟨k, hk, rfl, hown, hbr⟩ := hrel
    by_cases hlt : k < n
    · have cxk := (hx.keep hbr).cell k hlt
      have hrow := HR.out.row (i := k) (by rw [Hil.out]; exact hlt)
      obtain ⟨ra, rn, rc, er0, ir0⟩ := hi.cell k hlt
      have hrn : rn = cols := by rw [← ir0.len]; exact hrow.1
      rw [hrn] at er0 ir0
      have er := cell_keep hbr er0
      have hra : ablk ra < w.heap.size := World.block_lt_of_cell? w _ (ir0.cell 0 (by omega))
      clear hrn er0
      by_cases h0 : nth x k = 0
      · have h0' : (nth x k != 0) = false := by simpa using h0
        have Hn : Hid (cmbTo G.ops cols x L (k + 1) = cmbTo G.ops cols x L k) := by show _ = _; rw [cmbTo, if_pos h0]
        clear h0
        go_wp2_with fail
        go_roundw
        case rel => exact ⟨k + 1, by omega, by go_num, by rw [Hn.out]; exact hown, hbr⟩
        case measure => simp [intOf] <;> omega
      · have h0' : (nth x k != 0) = true := by simpa using h0
        have Hn : Hid (cmbTo G.ops cols x L (k + 1) = addRow G.ops (cmbTo G.ops cols x L k) (nth x k) (nthR L k)) := by show _ = _; rw [cmbTo, if_neg h0]
        have hvk := (Hcm.out k (by rw [Hil.out]; exact hk)).1
        have Ha := Lib.hid (add_any w a5 cols cols (cmbTo G.ops cols x L k) (nth x k) ra rc (nthR L k) h hbr hown (ir0.keep hbr) (.inr (.inr (by omega))) hvk.2 hrow.2 (hxe k hlt))
        clear h0 hown ir0 hrow hvk
        go_wp2_with fail
        refine Ha.out.mono ?_
        rintro e w4 ⟨rfl, hown4, honly⟩
        have hb4 : Below w.heap.size w w4 := hbr.trans (honly.below (fun _ => hge) hbr.size)
        go_wp2_with fail
        go_roundw
        case rel => exact ⟨k + 1, by omega, by go_num, by rw [Hn.out]; exact hown4, hb4⟩
        case measure => simp [intOf] <;> omega
    · obtain rfl : k = n := by omega
      have HF := Lib.hid hown
      clear hown
      go_wp2_with fail
      go_ret
      exact ⟨a5, cols, rfl, HF.out, hbr⟩
end

/- The walks of code.own, code.of, code.Dual. -/
section
open Go.RowKit

def OwnPost (P M : Int) (mod : List Int) (w : World) (e : Ending) (w' : World) : Prop :=
  ∃ a c, e = .returned (.agg #[.int .i64 P, .int .i64 M, .slice a mod.length c]) ∧ IntsN w.heap.size w' a mod.length mod ∧ Below w.heap.size w w'

set_option maxRecDepth 100000 in
set_option maxHeartbeats 1600000 in
theorem own_any (P M : Int) (am : Option Addr) (mn cm : Nat) (mod : List Int) (w : World) (hmod : Ints w am mn mod) (hmn : mn ≤ 1000000) :
    Calls Tryz.prog 137 #[.agg #[.int .i64 P, .int .i64 M, .slice am mn cm]] w (OwnPost P M mod w) := by
  go_enter Tryz.func137, Tryz.ntmps137
  go_wp2_with fail
  obtain ⟨W, hW⟩ : ∃ W : World, W = (w.alloc (.cells #[.int .i64 P, .int .i64 M, .slice am mn cm] 24)).alloc (.cells #[.int .i64 0, .int .i64 0, .slice none 0 0] 24) := ⟨_, rfl⟩
  rw [← hW]
  have hbW : Below w.heap.size w W := by rw [hW]; exact below2 _ _ _
  have hsW : W.heap.size = w.heap.size + 2 := by rw [hW]; simp
  have x0 : Box W w.heap.size [.int .i64 P, .int .i64 M, .slice am mn cm] := by rw [hW]; exact (Box.new _ _ _ rfl).alloc _
  have y0 : Box W (w.heap.size + 1) [.int .i64 0, .int .i64 0, .slice none 0 0] := by rw [hW]; exact Box.new _ _ _ (by simp)
  clear hW
  refine (clone1_any am mn cm mod (hmod.keep hbW) hmn).mono ?_
  rintro e w1 ⟨a1, c1, rfl, hown1, hb1⟩
  have x1 := x0.keep hb1
  have y1 := y0.keep hb1
  have d0 := x1.cell 0 rfl
  have d1 := x1.cell 1 rfl
  have d2 := x1.cell 2 rfl
  have e0 := y1.cell 0 rfl
  have e1 := y1.cell 1 rfl
  have e2 := y1.cell 2 rfl
  have fx := x1.frozen 2
  have f0 := y1.frozen 0
  have f1 := y1.frozen 1
  have f2 := y1.frozen 2
  have hbw1 := Below.next hbW hb1
  have hl := Lib.hid (IntsN.own hown1)
  have hN : IntsN w.heap.size ((((w1.setCell ⟨w.heap.size, 2, none⟩ (.slice a1 mod.length c1)).setCell ⟨w.heap.size + 1, 0, none⟩ (.int .i64 P)).setCell ⟨w.heap.size + 1, 1, none⟩ (.int .i64 M)).setCell ⟨w.heap.size + 1, 2, none⟩ (.slice a1 mod.length c1)) a1 mod.length mod :=
    ((((hl.out.setCell (p := ⟨w.heap.size, 2, none⟩) (by simp; omega) _).setCell (p := ⟨w.heap.size + 1, 0, none⟩) (by simp; omega) _).setCell (p := ⟨w.heap.size + 1, 1, none⟩) (by simp; omega) _).setCell (p := ⟨w.heap.size + 1, 2, none⟩) (by simp; omega) _).mono (by omega)
  have hB : Below w.heap.size w ((((w1.setCell ⟨w.heap.size, 2, none⟩ (.slice a1 mod.length c1)).setCell ⟨w.heap.size + 1, 0, none⟩ (.int .i64 P)).setCell ⟨w.heap.size + 1, 1, none⟩ (.int .i64 M)).setCell ⟨w.heap.size + 1, 2, none⟩ (.slice a1 mod.length c1)) :=
    (((hbw1.setCell (p := ⟨w.heap.size, 2, none⟩) (by simp) _).setCell (p := ⟨w.heap.size + 1, 0, none⟩) (by simp) _).setCell (p := ⟨w.heap.size + 1, 1, none⟩) (by simp) _).setCell (p := ⟨w.heap.size + 1, 2, none⟩) (by simp) _
  have HF := Lib.hid (And.intro hN hB)
  clear hN hB hown1 hl x0 y0 hbw1
  go_wp2_with fail
  exact bodyPost_ret (v := .agg #[.int .i64 P, .int .i64 M, .slice a1 mod.length c1]) (by simp [results, Tryz.results137, go_sem, e0, e1, e2]) rfl ⟨a1, c1, rfl, HF.out.1, HF.out.2⟩

def OfPost (P M : Int) (mod : List Int) (m : Int) (a : Option Addr) (k c : Nat) (w : World) (e : Ending) (w' : World) : Prop :=
  ∃ a1 c1, e = .returned (.tuple #[.agg #[.int .i64 P, .int .i64 M, .slice a1 mod.length c1, .int .i64 m, .slice a k c], .int .i64 0]) ∧ IntsN w.heap.size w' a1 mod.length mod ∧ Below w.heap.size w w'

set_option maxRecDepth 100000 in
set_option maxHeartbeats 4000000 in
theorem of_any (P M : Int) (am : Option Addr) (mn cm : Nat) (mod : List Int) (m : Int) (a : Option Addr) (k c : Nat) (w : World) (hmod : Ints w am mn mod) (hmn : mn ≤ 1000000) :
    Calls Tryz.prog 96 #[.agg #[.int .i64 P, .int .i64 M, .slice am mn cm], .agg #[.int .i64 m, .slice a k c], .int .i64 0] w (OfPost P M mod m a k c w) := by
  go_enter Tryz.func96, Tryz.ntmps96
  go_wp2_with fail
  obtain ⟨W, hW⟩ : ∃ W : World, W = ((w.alloc (.cells #[.int .i64 P, .int .i64 M, .slice am mn cm] 24)).alloc (.cells #[.int .i64 m, .slice a k c] 62)).alloc (.cells #[.int .i64 0, .int .i64 0, .slice none 0 0, .int .i64 0, .slice none 0 0] 27) := ⟨_, rfl⟩
  rw [← hW]
  have hbW : Below w.heap.size w W := by rw [hW]; exact below3 _ _ _ _
  have hsW : W.heap.size = w.heap.size + 3 := by rw [hW]; simp
  have x0 : Box W w.heap.size [.int .i64 P, .int .i64 M, .slice am mn cm] := by rw [hW]; exact ((Box.new _ _ _ rfl).alloc _).alloc _
  have y0 : Box W (w.heap.size + 1) [.int .i64 m, .slice a k c] := by rw [hW]; exact (Box.new _ _ _ (by simp)).alloc _
  have z0 : Box W (w.heap.size + 1 + 1) [.int .i64 0, .int .i64 0, .slice none 0 0, .int .i64 0, .slice none 0 0] := by rw [hW]; exact Box.new _ _ _ (by simp)
  have Hown : Hid (∀ V, Below W.heap.size W V → Calls Tryz.prog 137 #[.agg #[.int .i64 P, .int .i64 M, .slice am mn cm]] V (OwnPost P M mod V)) := fun V hV => own_any P M am mn cm mod V (hmod.keep (Below.next hbW hV)) hmn
  have hS : ∀ V, Below W.heap.size W V → V.cell? ⟨w.heap.size, 0, none⟩ = some (.int .i64 P) ∧ V.cell? ⟨w.heap.size, 1, none⟩ = some (.int .i64 M) ∧ V.cell? ⟨w.heap.size, 2, none⟩ = some (.slice am mn cm) ∧ V.cell? ⟨w.heap.size + 1, 0, none⟩ = some (.int .i64 m) ∧ V.cell? ⟨w.heap.size + 1, 1, none⟩ = some (.slice a k c) ∧
      Box V (w.heap.size + 1 + 1) [.int .i64 0, .int .i64 0, .slice none 0 0, .int .i64 0, .slice none 0 0] := fun V hV => by
    have x1 := x0.keep hV
    have y1 := y0.keep hV
    exact ⟨x1.cell 0 rfl, x1.cell 1 rfl, x1.cell 2 rfl, y1.cell 0 rfl, y1.cell 1 rfl, z0.keep hV⟩
  have HS := Lib.hid hS
  have HbW := Lib.hid hbW
  have HsW := Lib.hid hsW
  obtain ⟨c0, c1, c2, c3, c4, _⟩ := HS.out W (Below.refl _ _)
  have HP : Hid (∀ (w4 : World) (a4 : Option Addr) (c4' : Nat), IntsN W.drew.heap.size w4 a4 mod.length mod → Below W.drew.heap.size W.drew w4 →
      OfPost P M mod m a k c w (.returned (.tuple #[.agg #[.int .i64 P, .int .i64 M, .slice a4 mod.length c4', .int .i64 m, .slice a k c], .int .i64 0]))
        (((((w4.setCell ⟨w.heap.size + 1 + 1, 0, none⟩ (.int .i64 P)).setCell ⟨w.heap.size + 1 + 1, 1, none⟩ (.int .i64 M)).setCell ⟨w.heap.size + 1 + 1, 2, none⟩ (.slice a4 mod.length c4')).setCell ⟨w.heap.size + 1 + 1, 3, none⟩ (.int .i64 m)).setCell ⟨w.heap.size + 1 + 1, 4, none⟩ (.slice a k c))) := fun w4 a4 c4' h1 h2 => by
    have h1' : IntsN W.heap.size w4 a4 mod.length mod := h1
    have hb := Below.next hbW (Below.next (Below.refl _ _).drew h2)
    have hs := HsW.out
    refine ⟨a4, c4', rfl, ?_, ?_⟩
    · exact (((((h1'.setCell (p := ⟨w.heap.size + 1 + 1, 0, none⟩) (by simp; omega) _).setCell (p := ⟨w.heap.size + 1 + 1, 1, none⟩) (by simp; omega) _).setCell (p := ⟨w.heap.size + 1 + 1, 2, none⟩) (by simp; omega) _).setCell (p := ⟨w.heap.size + 1 + 1, 3, none⟩) (by simp; omega) _).setCell (p := ⟨w.heap.size + 1 + 1, 4, none⟩) (by simp; omega) _).mono (by omega)
    · exact ((((hb.setCell (p := ⟨w.heap.size + 1 + 1, 0, none⟩) (by simp; omega) _).setCell (p := ⟨w.heap.size + 1 + 1, 1, none⟩) (by simp; omega) _).setCell (p := ⟨w.heap.size + 1 + 1, 2, none⟩) (by simp; omega) _).setCell (p := ⟨w.heap.size + 1 + 1, 3, none⟩) (by simp; omega) _).setCell (p := ⟨w.heap.size + 1 + 1, 4, none⟩) (by simp; omega) _
  clear hW x0 y0 z0 hS hmod hbW hsW
  go_wp2_with fail
  go_region_law (
    (go_simp; go_at_call 137; ((with_reducible refine (Hown.out _ (Below.refl _ _).drew).mono ?_); rintro e w4 ⟨a4, c4', rfl, hN4, hb4⟩; obtain ⟨c0, c1, c2, c3, c4, zz⟩ := HS.out w4 (Below.next (Below.refl _ _).drew hb4); have z0 := zz.cell 0 rfl; have z1 := zz.cell 1 rfl; have z2 := zz.cell 2 rfl; have z3 := zz.cell 3 rfl; have z4 := zz.cell 4 rfl; have f0 := zz.frozen 0; have f1 := zz.frozen 1; have f2 := zz.frozen 2; have f3 := zz.frozen 3; have f4 := zz.frozen 4)))
  all_goals (
    have HP4 := Lib.hid (HP.out w4 a4 c4' hN4 hb4)
    clear hN4 hb4 Hown HS HP
    go_wp2_with fail
    exact bodyPost_ret (v := .tuple #[.agg #[.int .i64 P, .int .i64 M, .slice a4 mod.length c4', .int .i64 m, .slice a k c], .int .i64 0]) (by simp [results, Tryz.results96, go_sem, z0, z1, z2, z3, z4]) rfl HP4.out)
end

/- Sorted lists of numbers (plain law). -/
section
def sortL (l : List Int) : List Int := l.mergeSort fun x y => decide (x ≤ y)
theorem sortL_perm (l : List Int) : (sortL l).Perm l := List.mergeSort_perm l _
theorem sortL_len (l : List Int) : (sortL l).length = l.length := (sortL_perm l).length_eq
theorem sortL_pair (l : List Int) : (sortL l).Pairwise fun x y => x ≤ y := by
  have h := List.pairwise_mergeSort (le := fun x y : Int => decide (x ≤ y)) (fun a b c h1 h2 => by simp at *; omega) (fun a b => by simp; omega) l
  exact h.imp fun h => by simpa using h
/-- sorted lists with the same members are one -/
theorem pair_unique : ∀ {l l' : List Int}, l.Pairwise (fun x y => x ≤ y) → l'.Pairwise (fun x y => x ≤ y) → l.Perm l' → l = l'
  | [], l', _, _, h => by rw [List.nil_perm] at h; exact h.symm
  | x :: l, [], _, _, h => by rw [List.perm_nil] at h; exact h
  | x :: l, y :: l', h1, h2, h => by
    rw [List.pairwise_cons] at h1 h2
    have hx : x ∈ y :: l' := h.subset (List.mem_cons_self ..)
    have hy : y ∈ x :: l := h.symm.subset (List.mem_cons_self ..)
    have e : x = y := by
      rcases List.mem_cons.1 hx with e | hx
      · exact e
      · rcases List.mem_cons.1 hy with e | hy
        · exact e.symm
        · have := h1.1 y hy
          have := h2.1 x hx
          omega
    subst e
    rw [pair_unique h1.2 h2.2 (List.Perm.cons_inv h)]
theorem sortL_unique {l l' : List Int} (h : l'.Pairwise fun x y => x ≤ y) (hp : l'.Perm l) : l' = sortL l := pair_unique h (sortL_pair l) (hp.trans (sortL_perm l).symm)
theorem sortL_of_perm {l l' : List Int} (hp : l.Perm l') : sortL l = sortL l' := pair_unique (sortL_pair l) (sortL_pair l') ((sortL_perm l).trans (hp.trans (sortL_perm l').symm))
theorem nth_inj_nodup {l : List Int} (h : ∀ i j, i < j → j < l.length → nth l i ≠ nth l j) : l.Nodup := by
  unfold List.Nodup
  rw [List.pairwise_iff_getElem]
  intro i j hi hj hij
  have := h i j hij hj
  rwa [nth_getElem hi, nth_getElem hj] at this
/-- a list of distinct numbers below m, sorted, is an ascending set -/
theorem okSet_sort {m : Int} {l : List Int} (hn : l.Nodup) (hb : ∀ x ∈ l, 0 ≤ x ∧ x < m) : okSet m (sortL l) = true := by
  have h1 := sortL_pair l
  have h2 : (sortL l).Nodup := (sortL_perm l).nodup_iff.2 hn
  have h3 : ∀ x ∈ sortL l, 0 ≤ x ∧ x < m := fun x hx => hb x ((sortL_perm l).subset hx)
  rw [List.pairwise_iff_getElem] at h1
  unfold List.Nodup at h2
  rw [List.pairwise_iff_getElem] at h2
  have key : ∀ k, (∀ i, i < k → okAt m (sortL l) i = true) → okTo m (sortL l) k = true := fun k => by
    induction k with
    | zero => intro _; rfl
    | succ k ih => intro h; exact okTo_succ (ih fun i hi => h i (by omega)) (h k (by omega))
  unfold okSet
  refine key _ fun i hi => ?_
  have h4 := h3 _ (List.getElem_mem hi)
  unfold okAt
  rw [nth_getElem hi]
  by_cases h0 : i = 0
  · simp [h0] at h4 ⊢; omega
  · have h5 := h1 (i - 1) i (by omega) hi (by omega)
    have h6 := h2 (i - 1) i (by omega) hi (by omega)
    rw [nth_getElem (show i - 1 < (sortL l).length by omega)]
    simp; omega
end

/- The inverse of an order, and rows whose entries are put at their places (plain law). -/
section
/-- the inverse of the order Q after k steps -/
def permTo (m : Nat) (Q : List Int) : Nat → List Int
  | 0 => List.replicate m 0
  | k + 1 => (permTo m Q k).set (nth Q k).toNat (k : Int)
theorem permTo_len (m : Nat) (Q : List Int) : ∀ k, (permTo m Q k).length = m
  | 0 => by simp [permTo]
  | k + 1 => by rw [permTo, List.length_set, permTo_len m Q k]
/-- the row's first k entries at the places R -/
def scat (m : Nat) (R r : List Int) : Nat → List Int
  | 0 => List.replicate m 0
  | k + 1 => (scat m R r k).set (nth R k).toNat (nth r k)
theorem scat_len (m : Nat) (R r : List Int) : ∀ k, (scat m R r k).length = m
  | 0 => by simp [scat]
  | k + 1 => by rw [scat, List.length_set, scat_len m R r k]
section
variable {m : Nat} {Q : List Int}
theorem permTo_at (hm : m ≤ 64) (hO : ordB m Q = true) : ∀ k, k ≤ m → ∀ j, j < k → nth (permTo m Q k) (nth Q j).toNat = (j : Int)
  | 0, _, j, hj => by omega
  | k + 1, hk, j, hj => by
    obtain ⟨hI, hl⟩ := ordB_in hO
    have h1 := hI k (by omega)
    rw [permTo, nth_set _ _ _ _ (by rw [permTo_len]; omega)]
    by_cases e : j = k
    · subst e; rw [if_pos rfl]
    · rw [if_neg, permTo_at hm hO k (by omega) j (by omega)]
      intro e2
      have h2 := hI j (by omega)
      exact e (ord_once hm hO (i := j) (j := k) (by omega) (by omega) (by omega))
theorem permTo_nth (hm : m ≤ 64) (hO : ordB m Q = true) {i : Nat} (hi : i < m) : ∃ j, j < m ∧ nth Q j = (i : Int) ∧ nth (permTo m Q m) i = (j : Int) := by
  obtain ⟨j, hj, e⟩ := ord_has hm hO hi
  refine ⟨j, hj, e, ?_⟩
  have := permTo_at hm hO m (Nat.le_refl _) j hj
  rwa [e, Int.toNat_natCast] at this
theorem permTo_in (hm : m ≤ 64) (hO : ordB m Q = true) : InN m (permTo m Q m) := fun i hi => by
  rw [permTo_len] at hi
  obtain ⟨j, hj, _, e⟩ := permTo_nth hm hO hi
  omega
theorem permTo_set (hm : m ≤ 64) (hO : ordB m Q = true) : okSet m (sortL (permTo m Q m)) = true := by
  refine okSet_sort (nth_inj_nodup fun i j hij hj e => ?_) fun x hx => ?_
  · rw [permTo_len] at hj
    obtain ⟨a, _, ea, e1⟩ := permTo_nth hm hO (show i < m by omega)
    obtain ⟨b, _, eb, e2⟩ := permTo_nth hm hO hj
    have : a = b := by omega
    subst this
    omega
  · obtain ⟨i, hi, rfl⟩ := List.mem_iff_getElem.1 hx
    rw [← nth_getElem hi]
    exact permTo_in hm hO i hi
/-- putting the entries at the places of the inverse picks them by the order -/
theorem scat_at (hm : m ≤ 64) (hO : ordB m Q = true) (r : List Int) : ∀ k, k ≤ m → ∀ i, i < k → ∀ j : Nat, nth (permTo m Q m) i = (j : Int) → nth (scat m (permTo m Q m) r k) j = nth r i
  | 0, _, i, hi, _, _ => by omega
  | k + 1, hk, i, hi, j, e => by
    obtain ⟨jk, hjk, ek, e1⟩ := permTo_nth hm hO (show k < m by omega)
    obtain ⟨ji, hji, ei, e2⟩ := permTo_nth hm hO (show i < m by omega)
    rw [scat, e1, Int.toNat_natCast, nth_set _ _ _ _ (by rw [scat_len]; exact hjk)]
    by_cases h : i = k
    · subst h
      rw [if_pos (by omega)]
    · rw [if_neg, scat_at hm hO r k (by omega) i (by omega) j e]
      intro e3
      have h4 : ji = jk := by omega
      subst h4
      omega
theorem scat_pick (hm : m ≤ 64) (hO : ordB m Q = true) (r : List Int) : scat m (permTo m Q m) r m = pickL Q r := by
  obtain ⟨hI, hl⟩ := ordB_in hO
  refine nth_ext (by rw [scat_len]; simp [pickL]; omega) fun j hj => ?_
  rw [scat_len] at hj
  have h1 := hI j (by omega)
  rw [nth_pickL Q r (by omega)]
  exact scat_at hm hO r m (Nat.le_refl _) (nth Q j).toNat (by omega) j (permTo_at hm hO m (Nat.le_refl _) j hj)
end
end

/- The walks of modify.set, code.New. -/
section
open Go.RowKit

set_option maxRecDepth 100000 in
set_option maxHeartbeats 3200000 in
theorem modSet_any (N : Int) (ra : Option Addr) (rn rc : Nat) (l : List Int) (w : World) (hrow : Ints w ra rn l) :
    Calls Tryz.prog 107 #[.slice ra rn rc, .int .i64 N] w fun e w' => e = .returned (.bool (okSet N l)) ∧ w = w' := by
  have Hrl := Lib.hid hrow.len
  have hpr := hrow.pl
  have hmr := hrow.max
  unfold maxLen at hmr
  go_enter Tryz.func107, Tryz.ntmps107
  go_wp2_with fail
  go_loop [9] (fun iv => ∃ j : Nat, j ≤ rn ∧ iv = .int .i64 j ∧ Hid (okTo N l j = true)) (fun iv => rn - (intOf iv).toNat)
  case atStart => exact ⟨0, Nat.zero_le _, rfl, by show _ = _; simp [okTo]⟩
  case round =>
    obtain ⟨j, hj, rfl, hok⟩ := hrel
    by_cases hlt2 : j < rn
    · have cj := hrow.cell j hlt2
      have Hbad : Hid (okAt N l j = false → okSet N l = false) := fun hb => okTo_no (by rw [Hrl.out]; exact hlt2) hb
      by_cases h0 : 0 ≤ nth l j
      · by_cases h1 : nth l j < N
        · have d1 : decide (nth l j < 0) = false := by simp; omega
          have d2 : decide (N ≤ nth l j) = false := by simp; omega
          by_cases hj0 : j = 0
          · subst hj0
            have Hgood : Hid (okAt N l 0 = true) := by show _ = _; unfold okAt; simp [h0, h1]
            rw [Nat.add_zero] at cj
            go_wp2_with fail
            go_round
            case rel => exact ⟨1, by omega, by go_num, okTo_succ hok.out Hgood.out⟩
            case measure => simp [intOf] <;> omega
          · have cp := hrow.cell (j - 1) (by omega)
            have e1 : ((j : Int) - 1).toNat = j - 1 := by omega
            have d3 : decide (0 < (j : Int)) = true := by simp; omega
            have d4 : (0 : Int) ≤ (j : Int) - 1 := by omega
            have d5 : (1 : Int) ≤ (j : Int) := by omega
            have d6 : (j : Int) - 1 < rn := by omega
            by_cases h2 : nth l (j - 1) < nth l j
            · have Hgood : Hid (okAt N l j = true) := by show _ = _; unfold okAt; simp [h0, h1, h2]
              have h2' : decide (nth l j ≤ nth l (j - 1)) = false := by simp; omega
              clear hj0 e1
              go_wp2_with fail
              go_round
              case rel => exact ⟨j + 1, by omega, by go_num, okTo_succ hok.out Hgood.out⟩
              case measure => simp [intOf] <;> omega
            · have Hb : Hid (okSet N l = false) := Hbad.out (by unfold okAt; simp [h2, hj0])
              have h2' : decide (nth l j ≤ nth l (j - 1)) = true := by simp; omega
              clear hj0 e1
              go_wp2_with fail
              go_ret
              exact ⟨ret_bool Hb.out.symm, rfl⟩
        · have Hb : Hid (okSet N l = false) := Hbad.out (by unfold okAt; simp [h1])
          have d1 : decide (nth l j < 0) = false := by simp; omega
          have d2 : decide (N ≤ nth l j) = true := by simp; omega
          go_wp2_with fail
          go_ret
          exact ⟨ret_bool Hb.out.symm, rfl⟩
      · have Hb : Hid (okSet N l = false) := Hbad.out (by unfold okAt; simp [h0])
        have d1 : decide (nth l j < 0) = true := by simp; omega
        go_wp2_with fail
        go_ret
        exact ⟨ret_bool Hb.out.symm, rfl⟩
    · obtain rfl : j = rn := by omega
      have Hg : Hid (okSet N l = true) := by show _ = _; rw [okSet, Hrl.out]; exact hok.out
      go_wp2_with fail
      go_ret
      exact ⟨ret_bool Hg.out.symm, rfl⟩

def CNewPost (P M : Int) (mod : List Int) (m : Nat) (L : List (List Int)) (w : World) (e : Ending) (w' : World) : Prop :=
  ∃ a1 c1 a2 c2, e = .returned (.tuple #[.agg #[.int .i64 P, .int .i64 M, .slice a1 mod.length c1, .int .i64 m, .slice a2 (canS (tblOf P M.toNat mod) L m).length c2], .int .i64 0]) ∧ IntsN w.heap.size w' a1 mod.length mod ∧
    MatN w.heap.size w' a2 (canS (tblOf P M.toNat mod) L m).length (canS (tblOf P M.toNat mod) L m) ∧ Below w.heap.size w w'

set_option maxRecDepth 100000 in
set_option maxHeartbeats 4000000 in
theorem codeNew_any (P M : Int) (am : Option Addr) (mn cm : Nat) (mod : List Int) (m : Nat) (a : Option Addr) (n c : Nat) (L : List (List Int)) (w : World) (hmod : Ints w am mn mod) (hi : Mat w a n L)
    (hE : fmatE P M mod m L = 0) (hm1 : 1 ≤ m) (hm64 : m ≤ 64) (hmn : mn ≤ 1000000) :
    Calls Tryz.prog 45 #[.agg #[.int .i64 P, .int .i64 M, .slice am mn cm], .agg #[.int .i64 m, .slice a n c]] w (CNewPost P M mod m L w) := by
  go_enter Tryz.func45, Tryz.ntmps45
  go_upto_region 1 with fail
  obtain ⟨W, hW⟩ : ∃ W : World, W = ((w.alloc (.cells #[.int .i64 P, .int .i64 M, .slice am mn cm] 24)).alloc (.cells #[.int .i64 m, .slice a n c] 62)).alloc (.cells #[.int .i64 0, .int .i64 0, .slice none 0 0, .int .i64 0, .slice none 0 0] 27) := ⟨_, rfl⟩
  rw [← hW]
  have hbW : Below w.heap.size w W := by rw [hW]; exact below3 _ _ _ _
  have hsW : W.heap.size = w.heap.size + 3 := by rw [hW]; simp
  have x0 : Box W w.heap.size [.int .i64 P, .int .i64 M, .slice am mn cm] := by rw [hW]; exact ((Box.new _ _ _ rfl).alloc _).alloc _
  have y0 : Box W (w.heap.size + 1) [.int .i64 m, .slice a n c] := by rw [hW]; exact (Box.new _ _ _ (by simp)).alloc _
  have z0 : Box W (w.heap.size + 1 + 1) [.int .i64 0, .int .i64 0, .slice none 0 0, .int .i64 0, .slice none 0 0] := by rw [hW]; exact Box.new _ _ _ (by simp)
  clear hW
  have HC : Hid (Calls Tryz.prog 94 #[.agg #[.int .i64 P, .int .i64 M, .slice am mn cm], .agg #[.int .i64 m, .slice a n c]] W fun e w' => Below W.heap.size W w' ∧ ∃ a2 c2 ap cp, e = .returned (.tuple #[.agg #[.int .i64 m, .slice a2 (canS (tblOf P M.toNat mod) L m).length c2], .slice ap (canS (tblOf P M.toNat mod) L m).length cp, .int .i64 0]) ∧
      MatN W.heap.size w' a2 (canS (tblOf P M.toNat mod) L m).length (canS (tblOf P M.toNat mod) L m)) := by
    refine (canonical_any P M am mn cm mod m a n c L W (hmod.keep hbW) (hi.keep hbW)).mono ?_
    rintro e w1 ⟨hb1, ⟨h0, _⟩ | ⟨_, m', hm', a1, c1, ap, cp, rfl, hN1, _⟩⟩
    · exact absurd hE h0
    · obtain rfl : m = m' := by omega
      rw [← canS_length] at hN1 ⊢
      exact ⟨hb1, a1, c1, ap, cp, rfl, hN1⟩
  have HO : Hid (∀ V a5 k5 c5, Below W.heap.size W V → Calls Tryz.prog 96 #[.agg #[.int .i64 P, .int .i64 M, .slice am mn cm], .agg #[.int .i64 m, .slice a5 k5 c5], .int .i64 0] V (OfPost P M mod m a5 k5 c5 V)) := fun V a5 k5 c5 hV =>
    of_any P M am mn cm mod m a5 k5 c5 V (hmod.keep (Below.next hbW hV)) hmn
  have HPost : Hid (∀ a1 c1 a2 c2 w', IntsN w.heap.size w' a1 mod.length mod → MatN w.heap.size w' a2 (canS (tblOf P M.toNat mod) L m).length (canS (tblOf P M.toNat mod) L m) → Below w.heap.size w w' →
      CNewPost P M mod m L w (.returned (.tuple #[.agg #[.int .i64 P, .int .i64 M, .slice a1 mod.length c1, .int .i64 m, .slice a2 (canS (tblOf P M.toNat mod) L m).length c2], .int .i64 0])) w') := fun a1 c1 a2 c2 w' h1 h2 h3 => ⟨a1, c1, a2, c2, rfl, h1, h2, h3⟩
  have Hle : Hid (lenE (m : Int) = 0) := lenE_in (by omega) (by omega)
  obtain ⟨KM, hKM⟩ : ∃ KM, canS (tblOf P M.toNat mod) L m = KM := ⟨_, rfl⟩
  rw [hKM] at HC HPost
  have hS : ∀ V, Below W.heap.size W V → V.cell? ⟨w.heap.size, 0, none⟩ = some (.int .i64 P) ∧ V.cell? ⟨w.heap.size, 1, none⟩ = some (.int .i64 M) ∧ V.cell? ⟨w.heap.size, 2, none⟩ = some (.slice am mn cm) ∧ V.cell? ⟨w.heap.size + 1, 0, none⟩ = some (.int .i64 m) ∧ V.cell? ⟨w.heap.size + 1, 1, none⟩ = some (.slice a n c) ∧
      Box V (w.heap.size + 1 + 1) [.int .i64 0, .int .i64 0, .slice none 0 0, .int .i64 0, .slice none 0 0] := fun V hV => by
    have x1 := x0.keep hV
    have y1 := y0.keep hV
    exact ⟨x1.cell 0 rfl, x1.cell 1 rfl, x1.cell 2 rfl, y1.cell 0 rfl, y1.cell 1 rfl, z0.keep hV⟩
  have HS := Lib.hid hS
  have HbW := Lib.hid hbW
  have HsW := Lib.hid hsW
  obtain ⟨q, hq⟩ : ∃ q, KM.length = q := ⟨_, rfl⟩
  rw [hq] at HC HPost
  clear hE hKM hS x0 y0 z0 hbW hsW hmod hi hq
  go_cut [6, 7, 8] (fun v6 v7 v8 wx => ∃ g a5 c5, v6 = .pointer (some ⟨g, 0, none⟩) ∧ v8 = .int .i64 0 ∧ wx.cell? ⟨g, 0, none⟩ = some (.int .i64 m) ∧ wx.cell? ⟨g, 1, none⟩ = some (.slice a5 q c5) ∧ MatN W.heap.size wx a5 q KM ∧ Below W.heap.size W wx)
  case first =>
    obtain ⟨c0, c1, c2, c3, c4, _⟩ := HS.out W (Below.refl _ _)
    go_wp2_with fail
    refine HC.out.mono ?_
    rintro e w1 ⟨hb1, a5, c5, ap, cp, rfl, hN5⟩
    clear c0 c1 c2 c3 c4
    go_wp2_with fail
    go_meet
    exact ⟨w1.heap.size, a5, c5, rfl, rfl, cell_alloc_at _ _ _ rfl 0, cell_alloc_at _ _ _ rfl 1, hN5.keep (below1 _ _), Below.next hb1 (below1 _ _)⟩
  obtain ⟨g, a5, c5, rfl, rfl, g0, g1, hN5, hb5⟩ := hcut
  generalize wc = V at *
  obtain ⟨c0, c1, c2, c3, c4, zz⟩ := HS.out V hb5
  have HOV := Lib.hid (HO.out V a5 q c5 hb5)
  clear HC HO
  go_wp2_with fail
  refine (length_any m V).mono ?_
  rintro e w5 ⟨rfl, rfl⟩
  rw [Hle.out]
  go_wp2_with fail
  refine HOV.out.mono ?_
  rintro e w6 ⟨a6, c6, rfl, hN6, hb6⟩
  obtain ⟨_, _, _, _, _, zz6⟩ := HS.out w6 (Below.next hb5 hb6)
  have z0 := zz6.cell 0 rfl
  have z1 := zz6.cell 1 rfl
  have z2 := zz6.cell 2 rfl
  have z3 := zz6.cell 3 rfl
  have z4 := zz6.cell 4 rfl
  have f0 := zz6.frozen 0
  have f1 := zz6.frozen 1
  have f2 := zz6.frozen 2
  have f3 := zz6.frozen 3
  have f4 := zz6.frozen 4
  have hbF := Below.next HbW.out (Below.next hb5 hb6)
  have hs := HsW.out
  have hs2 := hb5.size
  have hM6 := hN5.keep hb6
  have hFin := HPost.out a6 c6 a5 c5 (((((w6.setCell ⟨w.heap.size + 1 + 1, 0, none⟩ (.int .i64 P)).setCell ⟨w.heap.size + 1 + 1, 1, none⟩ (.int .i64 M)).setCell ⟨w.heap.size + 1 + 1, 2, none⟩ (.slice a6 mod.length c6)).setCell ⟨w.heap.size + 1 + 1, 3, none⟩ (.int .i64 m)).setCell ⟨w.heap.size + 1 + 1, 4, none⟩ (.slice a5 q c5))
    ((((((hN6.setCell (p := ⟨w.heap.size + 1 + 1, 0, none⟩) (by simp; omega) _).setCell (p := ⟨w.heap.size + 1 + 1, 1, none⟩) (by simp; omega) _).setCell (p := ⟨w.heap.size + 1 + 1, 2, none⟩) (by simp; omega) _).setCell (p := ⟨w.heap.size + 1 + 1, 3, none⟩) (by simp; omega) _).setCell (p := ⟨w.heap.size + 1 + 1, 4, none⟩) (by simp; omega) _).mono (by omega))
    ((((((hM6.setCell (p := ⟨w.heap.size + 1 + 1, 0, none⟩) (by simp; omega) _).setCell (p := ⟨w.heap.size + 1 + 1, 1, none⟩) (by simp; omega) _).setCell (p := ⟨w.heap.size + 1 + 1, 2, none⟩) (by simp; omega) _).setCell (p := ⟨w.heap.size + 1 + 1, 3, none⟩) (by simp; omega) _).setCell (p := ⟨w.heap.size + 1 + 1, 4, none⟩) (by simp; omega) _).mono (by omega))
    (((((hbF.setCell (p := ⟨w.heap.size + 1 + 1, 0, none⟩) (by simp; omega) _).setCell (p := ⟨w.heap.size + 1 + 1, 1, none⟩) (by simp; omega) _).setCell (p := ⟨w.heap.size + 1 + 1, 2, none⟩) (by simp; omega) _).setCell (p := ⟨w.heap.size + 1 + 1, 3, none⟩) (by simp; omega) _).setCell (p := ⟨w.heap.size + 1 + 1, 4, none⟩) (by simp; omega) _)
  have HFin := Lib.hid hFin
  clear hFin hM6 hN5 hN6 HOV zz zz6
  go_wp2_with fail
  exact bodyPost_ret (v := .tuple #[.agg #[.int .i64 P, .int .i64 M, .slice a6 mod.length c6, .int .i64 m, .slice a5 q c5], .int .i64 0]) (by simp [results, Tryz.results45, go_sem, z0, z1, z2, z3, z4]) rfl HFin.out
end

/- The library's contract of slices.Sort laid over this program. -/
section
open Go.Shelf

def layS_ren : Go.Shelf.Ren := ⟨fun | 189 => 80 | 125 => 124 | 257 => 123 | 128 => 173 | 129 => 174 | 294 => 164 | 295 => 165 | 296 => 166 | 297 => 167 | 298 => 168 | 299 => 169 | 216 => 170 | 300 => 171 | 301 => 172 | 328 => 194 | 329 => 195 | 330 => 196 | 331 => 197 | 332 => 198 | 215 => 199 | 343 => 203 | n => n, fun | 28 => 22 | 3 => 3 | 46 => 140 | 0 => 0 | 51 => 178 | 53 => 116 | 4 => 4 | 183 => 170 | 182 => 169 | 131 => 175 | 5 => 5 | 9 => 9 | 218 => 188 | 222 => 192 | 228 => 194 | 229 => 81 | n => n, fun n => n⟩
theorem layS : Go.Proofs.Lays.n189 Tryz.prog layS_ren := {
  mixed := by kernel_rfl
  f125 := Tryz.func124.trans (congrArg some (by kernel_rfl))
  f128 := Tryz.func173.trans (congrArg some (by kernel_rfl))
  f129 := Tryz.func174.trans (congrArg some (by kernel_rfl))
  f189 := Tryz.func80.trans (congrArg some (by kernel_rfl))
  f215 := Tryz.func199.trans (congrArg some (by kernel_rfl))
  f216 := Tryz.func170.trans (congrArg some (by kernel_rfl))
  f257 := Tryz.func123.trans (congrArg some (by kernel_rfl))
  f294 := Tryz.func164.trans (congrArg some (by kernel_rfl))
  f295 := Tryz.func165.trans (congrArg some (by kernel_rfl))
  f296 := Tryz.func166.trans (congrArg some (by kernel_rfl))
  f297 := Tryz.func167.trans (congrArg some (by kernel_rfl))
  f298 := Tryz.func168.trans (congrArg some (by kernel_rfl))
  f299 := Tryz.func169.trans (congrArg some (by kernel_rfl))
  f300 := Tryz.func171.trans (congrArg some (by kernel_rfl))
  f301 := Tryz.func172.trans (congrArg some (by kernel_rfl))
  f328 := Tryz.func194.trans (congrArg some (by kernel_rfl))
  f329 := Tryz.func195.trans (congrArg some (by kernel_rfl))
  f330 := Tryz.func196.trans (congrArg some (by kernel_rfl))
  f331 := Tryz.func197.trans (congrArg some (by kernel_rfl))
  f332 := Tryz.func198.trans (congrArg some (by kernel_rfl))
  f343 := Tryz.func203.trans (congrArg some (by kernel_rfl))
  t0 := Tryz.underlying0
  a0 := Tryz.isAgg0
  z0 := Tryz.sizeOf0
  v0 := Tryz.zeroValue0
  t3 := Tryz.underlying3
  a3 := Tryz.isAgg3
  z3 := Tryz.sizeOf3
  v3 := Tryz.zeroValue3
  t4 := Tryz.underlying4
  a4 := Tryz.isAgg4
  z4 := Tryz.sizeOf4
  v4 := Tryz.zeroValue4
  t5 := Tryz.underlying5
  a5 := Tryz.isAgg5
  z5 := Tryz.sizeOf5
  v5 := Tryz.zeroValue5
  t9 := Tryz.underlying9
  a9 := Tryz.isAgg9
  z9 := Tryz.sizeOf9
  v9 := Tryz.zeroValue9
  t28 := Tryz.underlying22
  a28 := Tryz.isAgg22
  z28 := Tryz.sizeOf22
  v28 := Tryz.zeroValue22
  t46 := Tryz.underlying140
  a46 := Tryz.isAgg140
  z46 := Tryz.sizeOf140
  v46 := Tryz.zeroValue140
  t51 := Tryz.underlying178
  a51 := Tryz.isAgg178
  z51 := Tryz.sizeOf178
  v51 := Tryz.zeroValue178
  t53 := Tryz.underlying116
  a53 := Tryz.isAgg116
  z53 := Tryz.sizeOf116
  v53 := Tryz.zeroValue116
  t131 := Tryz.underlying175
  a131 := Tryz.isAgg175
  z131 := Tryz.sizeOf175
  v131 := Tryz.zeroValue175
  t182 := Tryz.underlying169
  a182 := Tryz.isAgg169
  z182 := Tryz.sizeOf169
  v182 := Tryz.zeroValue169
  t183 := Tryz.underlying170
  a183 := Tryz.isAgg170
  z183 := Tryz.sizeOf170
  v183 := Tryz.zeroValue170
  t218 := Tryz.underlying188
  a218 := Tryz.isAgg188
  z218 := Tryz.sizeOf188
  v218 := Tryz.zeroValue188
  t222 := Tryz.underlying192
  a222 := Tryz.isAgg192
  z222 := Tryz.sizeOf192
  v222 := Tryz.zeroValue192
  t228 := Tryz.underlying194
  a228 := Tryz.isAgg194
  z228 := Tryz.sizeOf194
  v228 := Tryz.zeroValue194
  t229 := Tryz.underlying81
  a229 := Tryz.isAgg81
  z229 := Tryz.sizeOf81
  v229 := Tryz.zeroValue81 }
end

/- The walks of slices.Values, AppendSeq, Collect at []int. -/
section
open Go.RowKit Go.Shelf

attribute [local go_sem] Oper.semAt_some

theorem take_nth (l : List Int) {k : Nat} (h : k < l.length) : l.take (k + 1) = l.take k ++ [nth l k] := by
  rw [List.take_succ_eq_append_getElem h, nth_getElem h]

set_option maxRecDepth 100000 in
set_option maxHeartbeats 2000000 in
/-- the iterator of slices.Values -/
theorem iterVals1_in (F : Fence) (n : Nat) (hF : F.fn 122) (hro : F.round = none) (hn : 1 ≤ n) (l Bs n₀ : Nat) (a : Option Addr) (len cap : Nat) (zs : List Int) (hreach : len * 8 ≤ 140737488351232) (J Jx : List Int → World → Prop)
    (hY : ∀ pre x W, J pre W → pre.length < len → YieldAt F (n - 1) Tryz.prog l #[.int .i64 x] W fun e W' =>
      (e = .returned (.bool true) ∧ J (pre ++ [x]) W' ∧ Below n₀ W W') ∨ (e = .returned (.bool false) ∧ Jx (pre ++ [x]) W'))
    (W : World) (hBs : W.cell? ⟨Bs, 0, none⟩ = some (.slice a len cap)) (hc : Ints W a len zs) (hb : 0 < len → ablk a < n₀) (h0 : J [] W) :
    CallsIn F n Tryz.prog 122 #[.func (.yield l) #[] #[], .pointer (some ⟨Bs, 0, none⟩)] W fun e W' => (∃ v, e = .returned v) ∧
      ((∃ ys, ys = zs ∧ J ys W') ∨ (∃ pre, (∃ k, k ≤ len ∧ pre = zs.take k) ∧ Jx pre W')) := by
  have hpl := hc.pl
  have Hlen := Lib.hid hc.len
  refine callsIn_of_wp Tryz.func122 rfl hF ?_ hro
  simp only [Tryz.ntmps122, List.size_toArray, List.length_cons, List.length_nil, Nat.reduceAdd, Nat.reduceSub, Array.replicate_succ, Array.replicate_zero, List.push_toArray, List.append_toArray, List.nil_append, List.cons_append]
  gi_wp2
  gi_loopw [7] (fun i wr => ∃ k : Nat, k ≤ len ∧ i = .int .i64 k ∧ J (zs.take k) wr ∧ Below n₀ W wr)
    (fun i _ => len - (intOf i).toNat)
  case atStart => exact ⟨0, Nat.zero_le _, rfl, h0, Below.refl _ _⟩
  case round =>
    obtain ⟨k, hk, rfl, hJs, hnx⟩ := hrel
    by_cases hlt : k < len
    · have hcx := (hc.below hnx hb).cell k hlt
      have htk := take_nth zs (k := k) (by rw [Hlen.out]; exact hlt)
      have Htk := Lib.hid htk
      obtain ⟨fn, tmps, assign, body, hy, hR⟩ := hY _ (nth zs k) wr hJs (by rw [List.length_take, Hlen.out]; omega)
      rw [← htk] at hR
      clear htk
      gi_wp2
      refine hR.mono ?_
      rintro e W3 (⟨rfl, hJ3, hk3⟩ | ⟨rfl, hJx3⟩)
      · gi_wp2
        go_roundw
        case rel => exact ⟨k + 1, by omega, by simp, hJ3, hnx.trans hk3⟩
        case measure => simp [intOf]; omega
      · gi_wp2
        refine bodyPost_ret (results_none rfl _ _ _) rfl ?_
        exact ⟨⟨_, rfl⟩, .inr ⟨_, ⟨k + 1, by omega, rfl⟩, hJx3⟩⟩
    · obtain rfl : k = len := by omega
      rw [List.take_of_length_le (by rw [Hlen.out]; exact Nat.le_refl _)] at hJs
      gi_wp2
      go_end0
      exact ⟨⟨_, rfl⟩, .inl ⟨_, rfl, hJs⟩⟩

set_option maxHeartbeats 1000000 in
/-- slices.Values: the slice is boxed; the function value captures the box -/
theorem iterVals_in (F : Fence) (n : Nat) (hF : F.fn 79) (hro : F.round = none) (a : Option Addr) (len cap : Nat) (w : World) :
    CallsIn F n Tryz.prog 79 #[.slice a len cap] w fun e w' => e = .returned (.func (.func 122) #[] #[.pointer (some ⟨w.heap.size, 0, none⟩)]) ∧ w' = w.alloc (.cells #[.slice a len cap] 22) := by
  refine callsIn_of_wp Tryz.func79 rfl hF ?_ hro
  simp only [Tryz.ntmps79, List.size_toArray, List.length_cons, List.length_nil, Nat.reduceAdd, Nat.reduceSub, Array.replicate_succ, Array.replicate_zero, List.push_toArray, List.append_toArray, List.nil_append, List.cons_append]
  gi_wp2
  go_ret
  exact ⟨rfl, rfl⟩

/-- it hands back all of the slice's numbers, in their order, or a beginning of them -/
theorem iterVals_stops (F : Fence) (n : Nat) (hF : F.fn 122) (hro : F.round = none) (hn : 1 ≤ n) (Bs n₀ : Nat) (a : Option Addr) (len cap : Nat) (zs : List Int) (hreach : len * 8 ≤ 140737488351232) (w : World) (hBs : Bs < w.heap.size) (hn₀ : n₀ ≤ w.heap.size)
    (hc : w.cell? ⟨Bs, 0, none⟩ = some (.slice a len cap)) (hI : Ints w a len zs) (hb : 0 < len → ablk a < n₀) :
    SeqStopsK F n Tryz.prog 122 #[.pointer (some ⟨Bs, 0, none⟩)] (fun x : Int => #[Value.int .i64 x]) (Below n₀) (fun ys => ys = zs) (fun pre => pre <+: zs) len w := fun l J Jx W hW _ _ hY h0 => by
  have hc' := (hW.cell (p := ⟨Bs, 0, none⟩) hBs).trans hc
  refine (iterVals1_in F n hF hro hn l Bs n₀ a len cap zs hreach J Jx hY W hc' (hI.below (hW.mono hn₀) hb) hb h0).mono ?_
  rintro e W' ⟨he, ⟨ys, rfl, hj⟩ | ⟨pre, ⟨k, hk, rfl⟩, hj⟩⟩
  · exact ⟨he, .inl ⟨_, rfl, hj⟩⟩
  · exact ⟨he, .inr ⟨_, List.take_prefix _ _, hj⟩⟩

set_option maxRecDepth 100000 in
set_option maxHeartbeats 2000000 in
/-- slices.AppendSeq onto nil, over the numbers of a slice -/
theorem appendSeq_in (F : Fence) (n : Nat) (hA : F.fn 163) (hV : F.fn 122) (hro : F.round = none) (hn : 3 ≤ n) (Bs : Nat) (a : Option Addr) (len cap : Nat) (zs : List Int) (hlen : len ≤ 1000000) (w : World) (hBs : Bs < w.heap.size)
    (hc : w.cell? ⟨Bs, 0, none⟩ = some (.slice a len cap)) (hI : Ints w a len zs) :
    CallsIn F n Tryz.prog 163 #[.slice none 0 0, .func (.func 122) #[] #[.pointer (some ⟨Bs, 0, none⟩)]] w fun e W' =>
      ∃ v, e = .returned v ∧ W'.ownsRow w.heap.size 3 1 v len (zs.map (Value.int .i64)) ∧ Below w.heap.size w W' := by
  have h1 : 1 ≤ n := by omega
  have Hlen := Lib.hid hI.len
  obtain ⟨i0, hi, hz0, hz1, hz2⟩ := info_parts infoInt
  refine callsIn_of_wp_marks Tryz.func163 rfl hA ?_ hro
  simp only [Tryz.ntmps163, List.size_toArray, List.length_cons, List.length_nil, Nat.reduceAdd, Nat.reduceSub, Array.replicate_succ, Array.replicate_zero, List.push_toArray, List.append_toArray, List.nil_append, List.cons_append]
  gi_wp2
  have bO := Boxed.new w 22 (.slice none 0 0)
  have hB0 : Below w.heap.size w (w.alloc (.cells #[.slice none 0 0] 22)) := (Below.refl _ w).alloc (Nat.le_refl _) _
  refine wpIn_rangeFunc_ownG hro h1 (gf := 122) (lb := #[.pointer (some ⟨Bs, 0, none⟩)]) rfl hV (enters_of Tryz.func122 (by kernel_rfl) rfl)
    (iterVals_stops F (n - 1) hV hro (by omega) Bs w.heap.size a len cap zs (by omega) w hBs (Nat.le_refl _) hc hI (fun h => hI.lt h)) belowK_t (belowK_b (by simp)) hB0 (fun _ => rfl)
    (fun pre W => (∃ v, Boxed W w.heap.size 22 v ∧ W.ownsRow w.heap.size 3 1 v pre.length (pre.map (Value.int .i64)) ∧ True) ∧ Below w.heap.size w W)
    (fun _ _ _ => False)
    (OwnFrom.and (Own.from (holdsRow_own w.heap.size w.heap.size 22 3 1 (fun pre : List Int => pre.length) (fun pre => pre.map (Value.int .i64)) (fun _ _ => True)) _) (ownFrom_below (Nat.le_refl _) (by simp)))
    (fun _ _ _ _ _ hs _ _ => hs)
    ⟨⟨_, bO, World.ownsRow_nil _ _ _ _, trivial⟩, hB0⟩
    (fun x => { tmps := #[.slice none 0 0, .func (.func 122) #[] #[.pointer (some ⟨Bs, 0, none⟩)], .pointer (some ⟨w.heap.size, 0, none⟩), undef, .slice none 0 0, .int .i64 x, .func (.func 122) #[] #[.pointer (some ⟨Bs, 0, none⟩)], .int .i64 x, undef, undef, undef, undef, undef], defers := [] }) ?assign ?body ?done ?stop
  case assign =>
    intro l x W K hK
    gi_wp2
    exact hK
  case body =>
    rintro l pre x W ⟨⟨v, hv, hrow, _⟩, hB⟩ hlt
    have hcv := hv.cell
    gi_wp2_with (gi_at_builtin; refine wpListIn_append_own _ rfl _ _ 22 rfl w.heap.size 3 i0 (.int .i64 0) 1 8 Tryz.underlying22 hi hz0 hz1 hz2 rfl (by decide) _ _ _ rfl (hrow.alloc _) ⟨W.heap.size, 0, none⟩ 1 1 [.int .i64 x] rfl rfl (cell_one_new _ _ _) (by simp [Value.oneCell']) (by unfold maxLen; omega) (by omega) (by have := hB.size; simp; omega) ?_; intro v' w1 hown' hgrow _; obtain ⟨g', cap', rfl⟩ := ownsRow_succ hown'; obtain ⟨hv1, hv2, hr2, hk2, hb2⟩ := hv.appended (by decide) hrow hB.size (Nat.le_refl _) hown' hgrow; have hc1 := hv1.cell; have hf1 := hv1.frozen)
    exact ⟨hk2.from _, hb2, ⟨_, hv2, by simpa using hr2, trivial⟩, hB.trans hb2⟩
  case done =>
    rintro D ys W hD rfl ⟨⟨v, hv, hrow, _⟩, hB⟩ hK
    have hcv := hv.cell
    gi_wp2
    refine ⟨by simp, .inl ⟨_, _, rfl, run_takeDeferred hK, ?_⟩⟩
    exact ⟨_, results_tmp rfl _ _ _, v, rfl, by have := ownsRow_putObj hrow (.deferred none) hK rfl; rw [Hlen.out] at this; exact this, hB.trans (belowK_b (w := w) (Nat.le_refl _) W D _ _ (by simp at hD; omega) hK rfl rfl)⟩
  case stop =>
    rintro D c pre W _ _ h _
    exact h.elim

set_option maxRecDepth 100000 in
set_option maxHeartbeats 2000000 in
/-- slices.Collect over the numbers of a slice -/
theorem collect_in (F : Fence) (n : Nat) (hC : F.fn 121) (hA : F.fn 163) (hV : F.fn 122) (hro : F.round = none) (hn : 4 ≤ n) (Bs : Nat) (a : Option Addr) (len cap : Nat) (zs : List Int) (hlen : len ≤ 1000000) (w : World) (hBs : Bs < w.heap.size)
    (hc : w.cell? ⟨Bs, 0, none⟩ = some (.slice a len cap)) (hI : Ints w a len zs) :
    CallsIn F n Tryz.prog 121 #[.func (.func 122) #[] #[.pointer (some ⟨Bs, 0, none⟩)]] w fun e W' =>
      ∃ v, e = .returned v ∧ W'.ownsRow w.heap.size 3 1 v len (zs.map (Value.int .i64)) ∧ Below w.heap.size w W' := by
  refine callsIn_of_wp Tryz.func121 rfl hC ?_ hro
  simp only [Tryz.ntmps121, List.size_toArray, List.length_cons, List.length_nil, Nat.reduceAdd, Nat.reduceSub, Array.replicate_succ, Array.replicate_zero, List.push_toArray, List.append_toArray, List.nil_append, List.cons_append]
  gi_wp2
  refine ⟨fun _ => by omega, ?_⟩
  refine (appendSeq_in F (n - 1) hA hV hro (by omega) Bs a len cap zs hlen _ hBs hc hI).mono ?_
  rintro e W' ⟨v, rfl, hown, hb⟩
  gi_wp2
  go_ret
  exact ⟨v, rfl, hown, hb⟩

theorem values_any (a : Option Addr) (len cap : Nat) (w : World) :
    Calls Tryz.prog 79 #[.slice a len cap] w fun e w' => e = .returned (.func (.func 122) #[] #[.pointer (some ⟨w.heap.size, 0, none⟩)]) ∧ w' = w.alloc (.cells #[.slice a len cap] 22) :=
  callsIn_wide.1 (iterVals_in Fence.wide 8 trivial rfl a len cap w)
theorem collect_any (Bs : Nat) (a : Option Addr) (len cap : Nat) (zs : List Int) (hlen : len ≤ 1000000) (w : World) (hBs : Bs < w.heap.size) (hc : w.cell? ⟨Bs, 0, none⟩ = some (.slice a len cap)) (hI : Ints w a len zs) :
    Calls Tryz.prog 121 #[.func (.func 122) #[] #[.pointer (some ⟨Bs, 0, none⟩)]] w fun e W' =>
      ∃ v, e = .returned v ∧ W'.ownsRow w.heap.size 3 1 v len (zs.map (Value.int .i64)) ∧ Below w.heap.size w W' :=
  callsIn_wide.1 (collect_in Fence.wide 8 trivial trivial trivial rfl (by omega) Bs a len cap zs hlen w hBs hc hI)
end

/- The walks of slices.Sort, Sorted at []int. -/
section
open Go.RowKit Go.Shelf Go.Sort

set_option maxHeartbeats 1000000 in
theorem insSort0_any (a : Option Addr) (c : Nat) (w : World) : Calls Tryz.prog 164 #[.slice a 0 c, .int .i64 0, .int .i64 0] w fun e w' => e = .returned (.tuple #[]) ∧ w' = w := by
  go_enter Tryz.func164, Tryz.ntmps164
  go_wp2_with fail
  refine wp_loop_rounds 1 ?_
  rw [rounds_succ]
  go_wp2_with fail
  go_end0
  exact ⟨rfl, rfl⟩

set_option maxHeartbeats 2000000 in
set_option maxRecDepth 100000 in
theorem pdq0_any (a : Option Addr) (c : Nat) (w : World) : Calls Tryz.prog 123 #[.slice a 0 c, .int .i64 0, .int .i64 0, .int .i64 0] w fun e w' => e = .returned (.tuple #[]) ∧ w' = w := by
  go_enter Tryz.func123, Tryz.ntmps123
  go_wp2_with fail
  refine wp_loop_rounds 1 ?_
  rw [rounds_succ]
  go_wp2_with fail
  refine (insSort0_any a c w).mono ?_
  rintro e w' ⟨rfl, rfl⟩
  go_wp2_with fail
  (try simp only [Exit.inBlock, Exit.then]); refine bodyPost_ret (results_none rfl _ _ _) rfl ?_
  exact ⟨rfl, rfl⟩

theorem bitsLen0_any (w : World) : Calls Tryz.prog 124 #[.int .u64 0] w fun e w' => e = .returned (.int .i64 0) ∧ w' = w :=
  calls_of_every_depth fun D => AnyS.bits_LenIn { layS with } D 0 w (by omega) (by omega)

set_option maxHeartbeats 2000000 in
theorem sort0_any (a : Option Addr) (c : Nat) (w : World) : Calls Tryz.prog 80 #[.slice a 0 c] w fun e w' => e = .returned (.tuple #[]) ∧ w' = w := by
  go_enter Tryz.func80, Tryz.ntmps80
  go_wp2_with fail
  refine (bitsLen0_any w).mono ?_
  rintro e w' ⟨rfl, rfl⟩
  go_wp2_with fail
  refine (pdq0_any a c w').mono ?_
  rintro e w' ⟨rfl, rfl⟩
  go_wp2_with fail
  go_end0
  exact ⟨rfl, rfl⟩

/-- slices.Sort of a slice of the call's own -/
theorem sort_any (B : Nat) (a : Option Addr) (n c : Nat) (l : List Int) (w : World) (hown : w.ownsRow B 3 1 (.slice a n c) n (l.map (Value.int .i64))) (hB : B ≤ w.heap.size) (hn : n ≤ 1000000) :
    Calls Tryz.prog 80 #[.slice a n c] w fun e w' => e = .returned (.tuple #[]) ∧ w'.ownsRow B 3 1 (.slice a n c) n ((sortL l).map (Value.int .i64)) ∧ w.grownBy w' (Value.slice a n c).ownBlock ∧ Below B w w' := by
  have hl : l.length = n := by simpa using own_len hown
  have hown' := hown
  rcases hown.2 with ⟨hv, hz⟩ | ⟨g, cap, cur, hv, hbase, hb, h1, h2, h3, h4⟩
  · cases hv
    have hl0 : l = [] := List.eq_nil_of_length_eq_zero hl
    subst hl0
    refine (sort0_any none 0 w).mono ?_
    rintro e w' ⟨rfl, rfl⟩
    exact ⟨rfl, by simpa [sortL] using hown', ⟨rfl, rfl, rfl, Nat.le_refl _, fun k _ _ => rfl⟩, Below.refl _ _⟩
  · cases hv
    subst hl
    have hH := holds_of_blockI (ss := l) hb (by simpa using h4)
    have hgl : g < w.heap.size := (Array.getElem?_eq_some_iff.1 hb).1
    refine (Any.slices_Sort_int layS g 0 c l w hH hgl (by omega)).mono ?_
    rintro e w' ⟨rfl, nn, os, rfl⟩
    have hgr := grownBy_sortedI (w := w) (g := g) (n := nn) (os := os) (l.mergeSort fun x y => decide (x ≤ y)).toArray
    exact ⟨rfl, ownsRow_sortedI (by simp) hbase hb h1 h2 h3, hgr, (Below.refl B w).grown hgr hB (fun j hj => by cases hj; exact hbase)⟩

set_option maxHeartbeats 2000000 in
set_option maxRecDepth 100000 in
/-- slices.Sorted over the numbers of a slice -/
theorem sorted_any (Bs : Nat) (a : Option Addr) (len cap : Nat) (zs : List Int) (hlen : len ≤ 1000000) (w : World) (hBs : Bs < w.heap.size) (hc : w.cell? ⟨Bs, 0, none⟩ = some (.slice a len cap)) (hI : Ints w a len zs) :
    Calls Tryz.prog 78 #[.func (.func 122) #[] #[.pointer (some ⟨Bs, 0, none⟩)]] w fun e W' =>
      ∃ a2 c2, e = .returned (.slice a2 len c2) ∧ W'.ownsRow w.heap.size 3 1 (.slice a2 len c2) len ((sortL zs).map (Value.int .i64)) ∧ Below w.heap.size w W' := by
  go_enter Tryz.func78, Tryz.ntmps78
  go_wp2_with fail
  refine (collect_any Bs a len cap zs hlen w hBs hc hI).mono ?_
  rintro e w1 ⟨v, rfl, hown, hb⟩
  obtain ⟨a2, c2, rfl, _⟩ := Pl.own hown
  have HS := Lib.hid (sort_any w.heap.size a2 len c2 zs w1 hown hb.size hlen)
  clear hown
  go_wp2_with fail
  refine HS.out.mono ?_
  rintro e w2 ⟨rfl, hown2, _, hb2⟩
  go_wp2_with fail
  go_ret
  exact ⟨a2, c2, rfl, hown2, hb.trans hb2⟩
end

end Go.Proofs.YtakmnncmeefceaaGreat
