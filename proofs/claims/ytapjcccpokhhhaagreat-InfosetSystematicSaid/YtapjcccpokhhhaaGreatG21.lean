/- The walk of ordering.Reorder. -/
import Derived.Test.YtapjcccpokhhhaaGreatG20
import Derived.Test.YtapjcccpokhhhaaGreatG5
import Derived.Test.YtapjcccpokhhhaaGreatG10
import Derived.Shelf.Sort.Plain
import Derived.Test.YtapjcccpokhhhaaGreatProg
import Derived.RangeFuncBox
import Derived.RangeFuncLeaves
import Derived.Shelf.Abstract
import Derived.WalkKit
import Derived.OwnWalkIn
import Derived.TacticsInMore
import Derived.LoopNIn
import Derived.LoopIn
import Derived.Maps.AppendAt
import Derived.Test.YtapjcccpokhhhaaGreatG4
import Derived.Test.YtapjcccpokhhhaaGreatG1
import Derived.Sort.OwnSortedInts
import Derived.Test.YtapjcccpokhhhaaGreatG11
namespace Go.Proofs.YtapjcccpokhhhaaGreat
set_option linter.unusedVariables false
set_option linter.unusedSimpArgs false
set_option linter.unusedSectionVars false

/- The walks of matrix.unit, vec. -/
section
open Go.RowKit

def unitR (n k : Nat) : List Int := (List.replicate n 0).set k 1
def unitL (n : Nat) : List (List Int) := (List.range n).map (unitR n)
theorem unitL_len (n : Nat) : (unitL n).length = n := by simp [unitL]
theorem unitR_len (n k : Nat) : (unitR n k).length = n := by simp [unitR]
theorem nthR_unit {n k : Nat} (h : k < n) : nthR (unitL n) k = unitR n k := by
  rw [nthR_getElem (by rw [unitL_len]; exact h)]; simp [unitL]
theorem set_setR (L : List (List Int)) (k : Nat) (x y : List Int) : (L.set k x).set k y = L.set k y := by simp

set_option maxRecDepth 100000 in
set_option maxHeartbeats 1600000 in
theorem unit_any (n : Nat) (w : World) (hn : n ≤ 1000000) : Calls Tryz.prog 117 #[.int .i64 n] w (NewMat w (unitL n)) := by
  go_enter Tryz.func117, Tryz.ntmps117
  go_wp2_with (at_make; refine wpList_mk rfl _ _ 25 22 rfl (.slice none 0 0) 24 Tryz.underlying25 infoInts rfl n rfl rfl (by omega) (by unfold maxLen; omega) ?_; intro a1 w1 hown hbel hge hlt)
  have hO := omat_made hown
  have hO1 : ∃ R, OMat w1 w.heap.size a1 n n R (rowsTo n 0 (unitL n)) := ⟨_, by simpa [rowsTo] using hO⟩
  clear hO hown
  go_loopw [9] (fun iv wr => ∃ k : Nat, k ≤ n ∧ iv = .int .i64 k ∧ (∃ R, OMat wr w.heap.size a1 n n R (rowsTo n k (unitL n))) ∧ Below w.heap.size w wr) (fun iv _ => n - (intOf iv).toNat)
  case atStart => exact ⟨0, Nat.zero_le _, rfl, hO1, hbel⟩
  case round =>
    obtain ⟨k, hk, rfl, ⟨R, hO⟩, hbr⟩ := hrel
    by_cases hlt : k < n
    · have hset := rowsTo_set hlt (unitL_len n)
      rw [nthR_unit hlt] at hset
      have Hset := Lib.hid hset
      clear hset
      have hpl1 := hO.pl
      have hsz := hbr.size
      generalize wr = V at *
      go_upto_region 6 with (at_make; refine wpList_mk rfl _ _ 22 3 rfl (.int .i64 0) 8 Tryz.underlying22 infoInt rfl n rfl rfl (by omega) (by unfold maxLen; omega) ?_; intro a3 w3 hown3 hb3 hge3 hlt3; have hO3 := OMat.keep hO hb3; have hf := hO3.frozen hlt; have hc := hO3.cell hlt)
      have hown3' : w3.ownsRow V.heap.size 3 1 (.slice a3 (List.replicate n (0 : Int)).length n) (List.replicate n (0 : Int)).length ((List.replicate n (0 : Int)).map (Value.int .i64)) := by rw [List.length_replicate, List.map_replicate]; exact hown3
      have hB := (OMat.lt hO3 (ablk a1) (.inl ⟨hO3.ne (by omega), rfl⟩)).1
      have hnew := OMat.setRow hO3 hlt (own_mono hown3' hsz) (own_apt hown3 (OMat.lt hO (ablk a1) (.inl ⟨hO.ne (by omega), rfl⟩)).2) (fun j hj _ => by
        by_cases hn : (nthA R j).1 = none
        · exact .inl hn
        · exact .inr (own_apt hown3 (OMat.lt hO _ (OMat.inRow (by rw [hO.rl]; exact hj) hn)).2))
      rw [List.length_replicate] at hnew
      obtain ⟨Y, hY⟩ : ∃ Y, w3.setCell ⟨ablk a1, aoff a1 + k, none⟩ (.slice a3 n n) = Y := ⟨_, rfl⟩
      rw [hY] at hnew ⊢
      have hbY : Below w.heap.size w Y := by rw [← hY]; exact (Below.next hbr hb3).setCell hB _
      have hRk : nthA (R.set k (a3, n)) k = (a3, n) := by rw [nthA_set _ _ _ _ (by rw [hO.rl]; exact hlt), if_pos rfl]
      have hLk : nthR ((rowsTo n k (unitL n)).set k (List.replicate n 0)) k = List.replicate n 0 := by rw [nthR_set _ _ _ _ (by rw [hO.ll]; exact hlt), if_pos rfl]
      have hcr := hnew.cell hlt
      have hrow := hnew.row k hlt
      rw [hRk, hLk, List.length_replicate] at hcr hrow
      obtain ⟨hints, hmine⟩ := Ints.own hrow
      have cz := hints.cell k hlt
      have fz := (hmine (by omega)).2 k hlt
      have hBz := (hmine (by omega)).1
      have hpl3 := hints.pl
      have hown2 := own_set hrow k hlt (.int .i64 1)
      rw [← List.map_set] at hown2
      have hne3 : a3 ≠ none := fun e => by
        have := hpl3 (by omega)
        rw [e] at this; cases this
      have hfin := OMat.rowTo hnew hlt (l := unitR n k) (by rw [hLk, List.length_replicate, unitR_len]) (by rw [hRk, hLk, List.length_replicate]; exact hown2) (fun b hb hne => Below.heap_setCell _ _ _ _ fun e => by
        rw [hRk] at hne
        rcases hne with h1 | h1
        · exact hne3 h1
        · exact h1 e)
      rw [set_setR, Hset.out] at hfin
      have Hfin := Lib.hid hfin
      clear hfin hnew hrow hints hmine hown2 hRk hLk hY hf hc hown3 hown3' hO3
      go_wp2_with fail
      go_roundw
      case rel => exact ⟨k + 1, by omega, by go_num, ⟨_, Hfin.out⟩, hbY.setCell hBz _⟩
      case measure => simp [intOf] <;> omega
    · obtain rfl : k = n := by omega
      rw [rowsTo_all (unitL_len k)] at hO
      go_wp2_with fail
      go_ret
      exact ⟨a1, k, R, by rw [unitL_len]; rfl, by rw [unitL_len]; exact hO, hbr⟩

variable {w : World} {b : Nat} {G : Tbl}
set_option maxRecDepth 100000 in
set_option maxHeartbeats 1600000 in
theorem vec_any (ax : Option Addr) (cx : Nat) (x : List Int) (a : Option Addr) (n c : Nat) (L : List (List Int)) (cols : Nat) (h : GFw w b G) (F : Fld G.ops G.El) (hx : Ints w ax n x) (hi : Mat w a n L) (hxe : ∀ k, k < n → G.El (nth x k)) (hR : Rws G.El cols L) (hc1 : 1 ≤ cols) (hc : cols ≤ 1000000) (hn : n ≤ 1000000) :
    Calls Tryz.prog 120 #[.pointer (some ⟨b, 0, none⟩), .slice ax n cx, .slice a n c, .int .i64 cols] w fun e w' =>
      ∃ a1 c1, e = .returned (.slice a1 cols c1) ∧ w'.ownsRow w.heap.size 3 1 (.slice a1 cols c1) cols ((cmbTo G.ops cols x L n).map (Value.int .i64)) ∧ Below w.heap.size w w' := by
  have Hil := Lib.hid hi.len
  have hplx := hx.pl
  have hpla := hi.pl
  have hcm := cmb_rs F hR (x := x) (by rw [hi.len]; exact hxe)
  have Hcm := Lib.hid hcm
  have HR := Lib.hid hR
  have hz : (cmbTo G.ops cols x L 0).map (Value.int .i64) = List.replicate cols (Value.int .i64 0) := by simp [cmbTo]
  have Hz := Lib.hid hz
  clear hcm hR hz F
  go_enter Tryz.func120, Tryz.ntmps120
  go_wp2_with (at_make; refine wpList_mk rfl _ _ 22 3 rfl (.int .i64 0) 8 Tryz.underlying22 infoInt rfl cols rfl rfl (by omega) (by unfold maxLen; omega) ?_; intro a5 w5 hown hbel hge hlt)
  have hown0 : w5.ownsRow w.heap.size 3 1 (.slice a5 cols cols) cols ((cmbTo G.ops cols x L 0).map (Value.int .i64)) := by rw [Hz.out]; exact hown
  clear hown hlt
  go_loopw [16] (fun iv wr => ∃ k : Nat, k ≤ n ∧ iv = .int .i64 k ∧ wr.ownsRow w.heap.size 3 1 (.slice a5 cols cols) cols ((cmbTo G.ops cols x L k).map (Value.int .i64)) ∧ Below w.heap.size w wr) (fun iv _ => n - (intOf iv).toNat)
  case atStart => exact ⟨0, Nat.zero_le _, rfl, hown0, hbel⟩
  case round =>
    clear hown0 hbel
    obtain ⟨k, hk, rfl, hown, hbr⟩ := hrel
    by_cases hlt : k < n
    · have cxk := (hx.keep hbr).cell k hlt
      have hrow := HR.out.row (i := k) (by rw [Hil.out]; exact hlt)
      obtain ⟨ra, rn, rc, er0, ir0⟩ := hi.cell k hlt
      have hrn : rn = cols := by rw [← ir0.len]; exact hrow.1
      rw [hrn] at er0 ir0
      have er := cell_keep hbr er0
      have hra : ablk ra < w.heap.size := World.block_lt_of_cell? w _ (ir0.cell 0 (by omega))
      clear hrn er0
      by_cases h0 : nth x k = 0
      · have h0' : (nth x k != 0) = false := by simpa using h0
        have Hn : Hid (cmbTo G.ops cols x L (k + 1) = cmbTo G.ops cols x L k) := by show _ = _; rw [cmbTo, if_pos h0]
        clear h0
        go_wp2_with fail
        go_roundw
        case rel => exact ⟨k + 1, by omega, by go_num, by rw [Hn.out]; exact hown, hbr⟩
        case measure => simp [intOf] <;> omega
      · have h0' : (nth x k != 0) = true := by simpa using h0
        have Hn : Hid (cmbTo G.ops cols x L (k + 1) = addRow G.ops (cmbTo G.ops cols x L k) (nth x k) (nthR L k)) := by show _ = _; rw [cmbTo, if_neg h0]
        have hvk := (Hcm.out k (by rw [Hil.out]; exact hk)).1
        have Ha := Lib.hid (add_any w a5 cols cols (cmbTo G.ops cols x L k) (nth x k) ra rc (nthR L k) h hbr hown (ir0.keep hbr) (.inr (.inr (by omega))) hvk.2 hrow.2 (hxe k hlt))
        clear h0 hown ir0 hrow hvk
        go_wp2_with fail
        refine Ha.out.mono ?_
        rintro e w4 ⟨rfl, hown4, honly⟩
        have hb4 : Below w.heap.size w w4 := hbr.trans (honly.below (fun _ => hge) hbr.size)
        go_wp2_with fail
        go_roundw
        case rel => exact ⟨k + 1, by omega, by go_num, by rw [Hn.out]; exact hown4, hb4⟩
        case measure => simp [intOf] <;> omega
    · obtain rfl : k = n := by omega
      have HF := Lib.hid hown
      clear hown
      go_wp2_with fail
      go_ret
      exact ⟨a5, cols, rfl, HF.out, hbr⟩
end

/- The walks of code.own, code.of, code.Dual. -/
section
open Go.RowKit

def OwnPost (P M : Int) (mod : List Int) (w : World) (e : Ending) (w' : World) : Prop :=
  ∃ a c, e = .returned (.agg #[.int .i64 P, .int .i64 M, .slice a mod.length c]) ∧ IntsN w.heap.size w' a mod.length mod ∧ Below w.heap.size w w'

set_option maxRecDepth 100000 in
set_option maxHeartbeats 1600000 in
theorem own_any (P M : Int) (am : Option Addr) (mn cm : Nat) (mod : List Int) (w : World) (hmod : Ints w am mn mod) (hmn : mn ≤ 1000000) :
    Calls Tryz.prog 129 #[.agg #[.int .i64 P, .int .i64 M, .slice am mn cm]] w (OwnPost P M mod w) := by
  go_enter Tryz.func129, Tryz.ntmps129
  go_wp2_with fail
  obtain ⟨W, hW⟩ : ∃ W : World, W = (w.alloc (.cells #[.int .i64 P, .int .i64 M, .slice am mn cm] 24)).alloc (.cells #[.int .i64 0, .int .i64 0, .slice none 0 0] 24) := ⟨_, rfl⟩
  rw [← hW]
  have hbW : Below w.heap.size w W := by rw [hW]; exact below2 _ _ _
  have hsW : W.heap.size = w.heap.size + 2 := by rw [hW]; simp
  have x0 : Box W w.heap.size [.int .i64 P, .int .i64 M, .slice am mn cm] := by rw [hW]; exact (Box.new _ _ _ rfl).alloc _
  have y0 : Box W (w.heap.size + 1) [.int .i64 0, .int .i64 0, .slice none 0 0] := by rw [hW]; exact Box.new _ _ _ (by simp)
  clear hW
  refine (clone1_any am mn cm mod (hmod.keep hbW) hmn).mono ?_
  rintro e w1 ⟨a1, c1, rfl, hown1, hb1⟩
  have x1 := x0.keep hb1
  have y1 := y0.keep hb1
  have d0 := x1.cell 0 rfl
  have d1 := x1.cell 1 rfl
  have d2 := x1.cell 2 rfl
  have e0 := y1.cell 0 rfl
  have e1 := y1.cell 1 rfl
  have e2 := y1.cell 2 rfl
  have fx := x1.frozen 2
  have f0 := y1.frozen 0
  have f1 := y1.frozen 1
  have f2 := y1.frozen 2
  have hbw1 := Below.next hbW hb1
  have hl := Lib.hid (IntsN.own hown1)
  have hN : IntsN w.heap.size ((((w1.setCell ⟨w.heap.size, 2, none⟩ (.slice a1 mod.length c1)).setCell ⟨w.heap.size + 1, 0, none⟩ (.int .i64 P)).setCell ⟨w.heap.size + 1, 1, none⟩ (.int .i64 M)).setCell ⟨w.heap.size + 1, 2, none⟩ (.slice a1 mod.length c1)) a1 mod.length mod :=
    ((((hl.out.setCell (p := ⟨w.heap.size, 2, none⟩) (by simp; omega) _).setCell (p := ⟨w.heap.size + 1, 0, none⟩) (by simp; omega) _).setCell (p := ⟨w.heap.size + 1, 1, none⟩) (by simp; omega) _).setCell (p := ⟨w.heap.size + 1, 2, none⟩) (by simp; omega) _).mono (by omega)
  have hB : Below w.heap.size w ((((w1.setCell ⟨w.heap.size, 2, none⟩ (.slice a1 mod.length c1)).setCell ⟨w.heap.size + 1, 0, none⟩ (.int .i64 P)).setCell ⟨w.heap.size + 1, 1, none⟩ (.int .i64 M)).setCell ⟨w.heap.size + 1, 2, none⟩ (.slice a1 mod.length c1)) :=
    (((hbw1.setCell (p := ⟨w.heap.size, 2, none⟩) (by simp) _).setCell (p := ⟨w.heap.size + 1, 0, none⟩) (by simp) _).setCell (p := ⟨w.heap.size + 1, 1, none⟩) (by simp) _).setCell (p := ⟨w.heap.size + 1, 2, none⟩) (by simp) _
  have HF := Lib.hid (And.intro hN hB)
  clear hN hB hown1 hl x0 y0 hbw1
  go_wp2_with fail
  exact bodyPost_ret (v := .agg #[.int .i64 P, .int .i64 M, .slice a1 mod.length c1]) (by simp [results, Tryz.results129, go_sem, e0, e1, e2]) rfl ⟨a1, c1, rfl, HF.out.1, HF.out.2⟩

def OfPost (P M : Int) (mod : List Int) (m : Int) (a : Option Addr) (k c : Nat) (w : World) (e : Ending) (w' : World) : Prop :=
  ∃ a1 c1, e = .returned (.tuple #[.agg #[.int .i64 P, .int .i64 M, .slice a1 mod.length c1, .int .i64 m, .slice a k c], .int .i64 0]) ∧ IntsN w.heap.size w' a1 mod.length mod ∧ Below w.heap.size w w'

set_option maxRecDepth 100000 in
set_option maxHeartbeats 4000000 in
theorem of_any (P M : Int) (am : Option Addr) (mn cm : Nat) (mod : List Int) (m : Int) (a : Option Addr) (k c : Nat) (w : World) (hmod : Ints w am mn mod) (hmn : mn ≤ 1000000) :
    Calls Tryz.prog 77 #[.agg #[.int .i64 P, .int .i64 M, .slice am mn cm], .agg #[.int .i64 m, .slice a k c], .int .i64 0] w (OfPost P M mod m a k c w) := by
  go_enter Tryz.func77, Tryz.ntmps77
  go_wp2_with fail
  obtain ⟨W, hW⟩ : ∃ W : World, W = ((w.alloc (.cells #[.int .i64 P, .int .i64 M, .slice am mn cm] 24)).alloc (.cells #[.int .i64 m, .slice a k c] 52)).alloc (.cells #[.int .i64 0, .int .i64 0, .slice none 0 0, .int .i64 0, .slice none 0 0] 27) := ⟨_, rfl⟩
  rw [← hW]
  have hbW : Below w.heap.size w W := by rw [hW]; exact below3 _ _ _ _
  have hsW : W.heap.size = w.heap.size + 3 := by rw [hW]; simp
  have x0 : Box W w.heap.size [.int .i64 P, .int .i64 M, .slice am mn cm] := by rw [hW]; exact ((Box.new _ _ _ rfl).alloc _).alloc _
  have y0 : Box W (w.heap.size + 1) [.int .i64 m, .slice a k c] := by rw [hW]; exact (Box.new _ _ _ (by simp)).alloc _
  have z0 : Box W (w.heap.size + 1 + 1) [.int .i64 0, .int .i64 0, .slice none 0 0, .int .i64 0, .slice none 0 0] := by rw [hW]; exact Box.new _ _ _ (by simp)
  have Hown : Hid (∀ V, Below W.heap.size W V → Calls Tryz.prog 129 #[.agg #[.int .i64 P, .int .i64 M, .slice am mn cm]] V (OwnPost P M mod V)) := fun V hV => own_any P M am mn cm mod V (hmod.keep (Below.next hbW hV)) hmn
  have hS : ∀ V, Below W.heap.size W V → V.cell? ⟨w.heap.size, 0, none⟩ = some (.int .i64 P) ∧ V.cell? ⟨w.heap.size, 1, none⟩ = some (.int .i64 M) ∧ V.cell? ⟨w.heap.size, 2, none⟩ = some (.slice am mn cm) ∧ V.cell? ⟨w.heap.size + 1, 0, none⟩ = some (.int .i64 m) ∧ V.cell? ⟨w.heap.size + 1, 1, none⟩ = some (.slice a k c) ∧
      Box V (w.heap.size + 1 + 1) [.int .i64 0, .int .i64 0, .slice none 0 0, .int .i64 0, .slice none 0 0] := fun V hV => by
    have x1 := x0.keep hV
    have y1 := y0.keep hV
    exact ⟨x1.cell 0 rfl, x1.cell 1 rfl, x1.cell 2 rfl, y1.cell 0 rfl, y1.cell 1 rfl, z0.keep hV⟩
  have HS := Lib.hid hS
  have HbW := Lib.hid hbW
  have HsW := Lib.hid hsW
  obtain ⟨c0, c1, c2, c3, c4, _⟩ := HS.out W (Below.refl _ _)
  have HP : Hid (∀ (w4 : World) (a4 : Option Addr) (c4' : Nat), IntsN W.drew.heap.size w4 a4 mod.length mod → Below W.drew.heap.size W.drew w4 →
      OfPost P M mod m a k c w (.returned (.tuple #[.agg #[.int .i64 P, .int .i64 M, .slice a4 mod.length c4', .int .i64 m, .slice a k c], .int .i64 0]))
        (((((w4.setCell ⟨w.heap.size + 1 + 1, 0, none⟩ (.int .i64 P)).setCell ⟨w.heap.size + 1 + 1, 1, none⟩ (.int .i64 M)).setCell ⟨w.heap.size + 1 + 1, 2, none⟩ (.slice a4 mod.length c4')).setCell ⟨w.heap.size + 1 + 1, 3, none⟩ (.int .i64 m)).setCell ⟨w.heap.size + 1 + 1, 4, none⟩ (.slice a k c))) := fun w4 a4 c4' h1 h2 => by
    have h1' : IntsN W.heap.size w4 a4 mod.length mod := h1
    have hb := Below.next hbW (Below.next (Below.refl _ _).drew h2)
    have hs := HsW.out
    refine ⟨a4, c4', rfl, ?_, ?_⟩
    · exact (((((h1'.setCell (p := ⟨w.heap.size + 1 + 1, 0, none⟩) (by simp; omega) _).setCell (p := ⟨w.heap.size + 1 + 1, 1, none⟩) (by simp; omega) _).setCell (p := ⟨w.heap.size + 1 + 1, 2, none⟩) (by simp; omega) _).setCell (p := ⟨w.heap.size + 1 + 1, 3, none⟩) (by simp; omega) _).setCell (p := ⟨w.heap.size + 1 + 1, 4, none⟩) (by simp; omega) _).mono (by omega)
    · exact ((((hb.setCell (p := ⟨w.heap.size + 1 + 1, 0, none⟩) (by simp; omega) _).setCell (p := ⟨w.heap.size + 1 + 1, 1, none⟩) (by simp; omega) _).setCell (p := ⟨w.heap.size + 1 + 1, 2, none⟩) (by simp; omega) _).setCell (p := ⟨w.heap.size + 1 + 1, 3, none⟩) (by simp; omega) _).setCell (p := ⟨w.heap.size + 1 + 1, 4, none⟩) (by simp; omega) _
  clear hW x0 y0 z0 hS hmod hbW hsW
  go_wp2_with fail
  go_region_law (
    (go_simp; go_at_call 129; ((with_reducible refine (Hown.out _ (Below.refl _ _).drew).mono ?_); rintro e w4 ⟨a4, c4', rfl, hN4, hb4⟩; obtain ⟨c0, c1, c2, c3, c4, zz⟩ := HS.out w4 (Below.next (Below.refl _ _).drew hb4); have z0 := zz.cell 0 rfl; have z1 := zz.cell 1 rfl; have z2 := zz.cell 2 rfl; have z3 := zz.cell 3 rfl; have z4 := zz.cell 4 rfl; have f0 := zz.frozen 0; have f1 := zz.frozen 1; have f2 := zz.frozen 2; have f3 := zz.frozen 3; have f4 := zz.frozen 4)))
  all_goals (
    have HP4 := Lib.hid (HP.out w4 a4 c4' hN4 hb4)
    clear hN4 hb4 Hown HS HP
    go_wp2_with fail
    exact bodyPost_ret (v := .tuple #[.agg #[.int .i64 P, .int .i64 M, .slice a4 mod.length c4', .int .i64 m, .slice a k c], .int .i64 0]) (by simp [results, Tryz.results77, go_sem, z0, z1, z2, z3, z4]) rfl HP4.out)
end

/- Sorted lists of numbers (plain law). -/
section
def sortL (l : List Int) : List Int := l.mergeSort fun x y => decide (x ≤ y)
theorem sortL_perm (l : List Int) : (sortL l).Perm l := List.mergeSort_perm l _
theorem sortL_len (l : List Int) : (sortL l).length = l.length := (sortL_perm l).length_eq
theorem sortL_pair (l : List Int) : (sortL l).Pairwise fun x y => x ≤ y := by
  have h := List.pairwise_mergeSort (le := fun x y : Int => decide (x ≤ y)) (fun a b c h1 h2 => by simp at *; omega) (fun a b => by simp; omega) l
  exact h.imp fun h => by simpa using h
/-- sorted lists with the same members are one -/
theorem pair_unique : ∀ {l l' : List Int}, l.Pairwise (fun x y => x ≤ y) → l'.Pairwise (fun x y => x ≤ y) → l.Perm l' → l = l'
  | [], l', _, _, h => by rw [List.nil_perm] at h; exact h.symm
  | x :: l, [], _, _, h => by rw [List.perm_nil] at h; exact h
  | x :: l, y :: l', h1, h2, h => by
    rw [List.pairwise_cons] at h1 h2
    have hx : x ∈ y :: l' := h.subset (List.mem_cons_self ..)
    have hy : y ∈ x :: l := h.symm.subset (List.mem_cons_self ..)
    have e : x = y := by
      rcases List.mem_cons.1 hx with e | hx
      · exact e
      · rcases List.mem_cons.1 hy with e | hy
        · exact e.symm
        · have := h1.1 y hy
          have := h2.1 x hx
          omega
    subst e
    rw [pair_unique h1.2 h2.2 (List.Perm.cons_inv h)]
theorem sortL_unique {l l' : List Int} (h : l'.Pairwise fun x y => x ≤ y) (hp : l'.Perm l) : l' = sortL l := pair_unique h (sortL_pair l) (hp.trans (sortL_perm l).symm)
end

/- The inverse of an order, and rows whose entries are put at their places (plain law). -/
section
section
variable {m : Nat} {Q : List Int}
end
end

/- The walks of modify.set, code.New. -/
section
open Go.RowKit

def CNewPost (P M : Int) (mod : List Int) (m : Nat) (L : List (List Int)) (w : World) (e : Ending) (w' : World) : Prop :=
  ∃ a1 c1 a2 c2, e = .returned (.tuple #[.agg #[.int .i64 P, .int .i64 M, .slice a1 mod.length c1, .int .i64 m, .slice a2 (canS (tblOf P M.toNat mod) L m).length c2], .int .i64 0]) ∧ IntsN w.heap.size w' a1 mod.length mod ∧
    MatN w.heap.size w' a2 (canS (tblOf P M.toNat mod) L m).length (canS (tblOf P M.toNat mod) L m) ∧ Below w.heap.size w w'

set_option maxRecDepth 100000 in
set_option maxHeartbeats 4000000 in
theorem codeNew_any (P M : Int) (am : Option Addr) (mn cm : Nat) (mod : List Int) (m : Nat) (a : Option Addr) (n c : Nat) (L : List (List Int)) (w : World) (hmod : Ints w am mn mod) (hi : Mat w a n L)
    (hE : fmatE P M mod m L = 0) (hm1 : 1 ≤ m) (hm64 : m ≤ 64) (hmn : mn ≤ 1000000) :
    Calls Tryz.prog 36 #[.agg #[.int .i64 P, .int .i64 M, .slice am mn cm], .agg #[.int .i64 m, .slice a n c]] w (CNewPost P M mod m L w) := by
  go_enter Tryz.func36, Tryz.ntmps36
  go_upto_region 1 with fail
  obtain ⟨W, hW⟩ : ∃ W : World, W = ((w.alloc (.cells #[.int .i64 P, .int .i64 M, .slice am mn cm] 24)).alloc (.cells #[.int .i64 m, .slice a n c] 52)).alloc (.cells #[.int .i64 0, .int .i64 0, .slice none 0 0, .int .i64 0, .slice none 0 0] 27) := ⟨_, rfl⟩
  rw [← hW]
  have hbW : Below w.heap.size w W := by rw [hW]; exact below3 _ _ _ _
  have hsW : W.heap.size = w.heap.size + 3 := by rw [hW]; simp
  have x0 : Box W w.heap.size [.int .i64 P, .int .i64 M, .slice am mn cm] := by rw [hW]; exact ((Box.new _ _ _ rfl).alloc _).alloc _
  have y0 : Box W (w.heap.size + 1) [.int .i64 m, .slice a n c] := by rw [hW]; exact (Box.new _ _ _ (by simp)).alloc _
  have z0 : Box W (w.heap.size + 1 + 1) [.int .i64 0, .int .i64 0, .slice none 0 0, .int .i64 0, .slice none 0 0] := by rw [hW]; exact Box.new _ _ _ (by simp)
  clear hW
  have HC : Hid (Calls Tryz.prog 75 #[.agg #[.int .i64 P, .int .i64 M, .slice am mn cm], .agg #[.int .i64 m, .slice a n c]] W fun e w' => Below W.heap.size W w' ∧ ∃ a2 c2 ap cp, e = .returned (.tuple #[.agg #[.int .i64 m, .slice a2 (canS (tblOf P M.toNat mod) L m).length c2], .slice ap (canS (tblOf P M.toNat mod) L m).length cp, .int .i64 0]) ∧
      MatN W.heap.size w' a2 (canS (tblOf P M.toNat mod) L m).length (canS (tblOf P M.toNat mod) L m)) := by
    refine (canonical_any P M am mn cm mod m a n c L W (hmod.keep hbW) (hi.keep hbW)).mono ?_
    rintro e w1 ⟨hb1, ⟨h0, _⟩ | ⟨_, m', hm', a1, c1, ap, cp, rfl, hN1, _⟩⟩
    · exact absurd hE h0
    · obtain rfl : m = m' := by omega
      rw [← canS_length] at hN1 ⊢
      exact ⟨hb1, a1, c1, ap, cp, rfl, hN1⟩
  have HO : Hid (∀ V a5 k5 c5, Below W.heap.size W V → Calls Tryz.prog 77 #[.agg #[.int .i64 P, .int .i64 M, .slice am mn cm], .agg #[.int .i64 m, .slice a5 k5 c5], .int .i64 0] V (OfPost P M mod m a5 k5 c5 V)) := fun V a5 k5 c5 hV =>
    of_any P M am mn cm mod m a5 k5 c5 V (hmod.keep (Below.next hbW hV)) hmn
  have HPost : Hid (∀ a1 c1 a2 c2 w', IntsN w.heap.size w' a1 mod.length mod → MatN w.heap.size w' a2 (canS (tblOf P M.toNat mod) L m).length (canS (tblOf P M.toNat mod) L m) → Below w.heap.size w w' →
      CNewPost P M mod m L w (.returned (.tuple #[.agg #[.int .i64 P, .int .i64 M, .slice a1 mod.length c1, .int .i64 m, .slice a2 (canS (tblOf P M.toNat mod) L m).length c2], .int .i64 0])) w') := fun a1 c1 a2 c2 w' h1 h2 h3 => ⟨a1, c1, a2, c2, rfl, h1, h2, h3⟩
  have Hle : Hid (lenE (m : Int) = 0) := lenE_in (by omega) (by omega)
  obtain ⟨KM, hKM⟩ : ∃ KM, canS (tblOf P M.toNat mod) L m = KM := ⟨_, rfl⟩
  rw [hKM] at HC HPost
  have hS : ∀ V, Below W.heap.size W V → V.cell? ⟨w.heap.size, 0, none⟩ = some (.int .i64 P) ∧ V.cell? ⟨w.heap.size, 1, none⟩ = some (.int .i64 M) ∧ V.cell? ⟨w.heap.size, 2, none⟩ = some (.slice am mn cm) ∧ V.cell? ⟨w.heap.size + 1, 0, none⟩ = some (.int .i64 m) ∧ V.cell? ⟨w.heap.size + 1, 1, none⟩ = some (.slice a n c) ∧
      Box V (w.heap.size + 1 + 1) [.int .i64 0, .int .i64 0, .slice none 0 0, .int .i64 0, .slice none 0 0] := fun V hV => by
    have x1 := x0.keep hV
    have y1 := y0.keep hV
    exact ⟨x1.cell 0 rfl, x1.cell 1 rfl, x1.cell 2 rfl, y1.cell 0 rfl, y1.cell 1 rfl, z0.keep hV⟩
  have HS := Lib.hid hS
  have HbW := Lib.hid hbW
  have HsW := Lib.hid hsW
  obtain ⟨q, hq⟩ : ∃ q, KM.length = q := ⟨_, rfl⟩
  rw [hq] at HC HPost
  clear hE hKM hS x0 y0 z0 hbW hsW hmod hi hq
  go_cut [6, 7, 8] (fun v6 v7 v8 wx => ∃ g a5 c5, v6 = .pointer (some ⟨g, 0, none⟩) ∧ v8 = .int .i64 0 ∧ wx.cell? ⟨g, 0, none⟩ = some (.int .i64 m) ∧ wx.cell? ⟨g, 1, none⟩ = some (.slice a5 q c5) ∧ MatN W.heap.size wx a5 q KM ∧ Below W.heap.size W wx)
  case first =>
    obtain ⟨c0, c1, c2, c3, c4, _⟩ := HS.out W (Below.refl _ _)
    go_wp2_with fail
    refine HC.out.mono ?_
    rintro e w1 ⟨hb1, a5, c5, ap, cp, rfl, hN5⟩
    clear c0 c1 c2 c3 c4
    go_wp2_with fail
    go_meet
    exact ⟨w1.heap.size, a5, c5, rfl, rfl, cell_alloc_at _ _ _ rfl 0, cell_alloc_at _ _ _ rfl 1, hN5.keep (below1 _ _), Below.next hb1 (below1 _ _)⟩
  obtain ⟨g, a5, c5, rfl, rfl, g0, g1, hN5, hb5⟩ := hcut
  generalize wc = V at *
  obtain ⟨c0, c1, c2, c3, c4, zz⟩ := HS.out V hb5
  have HOV := Lib.hid (HO.out V a5 q c5 hb5)
  clear HC HO
  go_wp2_with fail
  refine (length_any m V).mono ?_
  rintro e w5 ⟨rfl, rfl⟩
  rw [Hle.out]
  go_wp2_with fail
  refine HOV.out.mono ?_
  rintro e w6 ⟨a6, c6, rfl, hN6, hb6⟩
  obtain ⟨_, _, _, _, _, zz6⟩ := HS.out w6 (Below.next hb5 hb6)
  have z0 := zz6.cell 0 rfl
  have z1 := zz6.cell 1 rfl
  have z2 := zz6.cell 2 rfl
  have z3 := zz6.cell 3 rfl
  have z4 := zz6.cell 4 rfl
  have f0 := zz6.frozen 0
  have f1 := zz6.frozen 1
  have f2 := zz6.frozen 2
  have f3 := zz6.frozen 3
  have f4 := zz6.frozen 4
  have hbF := Below.next HbW.out (Below.next hb5 hb6)
  have hs := HsW.out
  have hs2 := hb5.size
  have hM6 := hN5.keep hb6
  have hFin := HPost.out a6 c6 a5 c5 (((((w6.setCell ⟨w.heap.size + 1 + 1, 0, none⟩ (.int .i64 P)).setCell ⟨w.heap.size + 1 + 1, 1, none⟩ (.int .i64 M)).setCell ⟨w.heap.size + 1 + 1, 2, none⟩ (.slice a6 mod.length c6)).setCell ⟨w.heap.size + 1 + 1, 3, none⟩ (.int .i64 m)).setCell ⟨w.heap.size + 1 + 1, 4, none⟩ (.slice a5 q c5))
    ((((((hN6.setCell (p := ⟨w.heap.size + 1 + 1, 0, none⟩) (by simp; omega) _).setCell (p := ⟨w.heap.size + 1 + 1, 1, none⟩) (by simp; omega) _).setCell (p := ⟨w.heap.size + 1 + 1, 2, none⟩) (by simp; omega) _).setCell (p := ⟨w.heap.size + 1 + 1, 3, none⟩) (by simp; omega) _).setCell (p := ⟨w.heap.size + 1 + 1, 4, none⟩) (by simp; omega) _).mono (by omega))
    ((((((hM6.setCell (p := ⟨w.heap.size + 1 + 1, 0, none⟩) (by simp; omega) _).setCell (p := ⟨w.heap.size + 1 + 1, 1, none⟩) (by simp; omega) _).setCell (p := ⟨w.heap.size + 1 + 1, 2, none⟩) (by simp; omega) _).setCell (p := ⟨w.heap.size + 1 + 1, 3, none⟩) (by simp; omega) _).setCell (p := ⟨w.heap.size + 1 + 1, 4, none⟩) (by simp; omega) _).mono (by omega))
    (((((hbF.setCell (p := ⟨w.heap.size + 1 + 1, 0, none⟩) (by simp; omega) _).setCell (p := ⟨w.heap.size + 1 + 1, 1, none⟩) (by simp; omega) _).setCell (p := ⟨w.heap.size + 1 + 1, 2, none⟩) (by simp; omega) _).setCell (p := ⟨w.heap.size + 1 + 1, 3, none⟩) (by simp; omega) _).setCell (p := ⟨w.heap.size + 1 + 1, 4, none⟩) (by simp; omega) _)
  have HFin := Lib.hid hFin
  clear hFin hM6 hN5 hN6 HOV zz zz6
  go_wp2_with fail
  exact bodyPost_ret (v := .tuple #[.agg #[.int .i64 P, .int .i64 M, .slice a6 mod.length c6, .int .i64 m, .slice a5 q c5], .int .i64 0]) (by simp [results, Tryz.results36, go_sem, z0, z1, z2, z3, z4]) rfl HFin.out
end

/- The library's contract of slices.Sort laid over this program. -/
section
open Go.Shelf

def layS_ren : Go.Shelf.Ren := ⟨fun | 189 => 111 | 125 => 162 | 257 => 161 | 128 => 200 | 129 => 201 | 294 => 191 | 295 => 192 | 296 => 193 | 297 => 194 | 298 => 195 | 299 => 196 | 216 => 197 | 300 => 198 | 301 => 199 | 328 => 213 | 329 => 214 | 330 => 215 | 331 => 216 | 332 => 217 | 215 => 218 | 343 => 221 | n => n, fun | 28 => 22 | 3 => 3 | 46 => 190 | 0 => 0 | 51 => 72 | 53 => 225 | 4 => 4 | 183 => 217 | 182 => 216 | 131 => 221 | 5 => 5 | 9 => 9 | 218 => 230 | 222 => 234 | 228 => 236 | 229 => 237 | n => n, fun n => n⟩
theorem layS : Go.Proofs.Lays.n189 Tryz.prog layS_ren := {
  mixed := by kernel_rfl
  f125 := Tryz.func162.trans (congrArg some (by kernel_rfl))
  f128 := Tryz.func200.trans (congrArg some (by kernel_rfl))
  f129 := Tryz.func201.trans (congrArg some (by kernel_rfl))
  f189 := Tryz.func111.trans (congrArg some (by kernel_rfl))
  f215 := Tryz.func218.trans (congrArg some (by kernel_rfl))
  f216 := Tryz.func197.trans (congrArg some (by kernel_rfl))
  f257 := Tryz.func161.trans (congrArg some (by kernel_rfl))
  f294 := Tryz.func191.trans (congrArg some (by kernel_rfl))
  f295 := Tryz.func192.trans (congrArg some (by kernel_rfl))
  f296 := Tryz.func193.trans (congrArg some (by kernel_rfl))
  f297 := Tryz.func194.trans (congrArg some (by kernel_rfl))
  f298 := Tryz.func195.trans (congrArg some (by kernel_rfl))
  f299 := Tryz.func196.trans (congrArg some (by kernel_rfl))
  f300 := Tryz.func198.trans (congrArg some (by kernel_rfl))
  f301 := Tryz.func199.trans (congrArg some (by kernel_rfl))
  f328 := Tryz.func213.trans (congrArg some (by kernel_rfl))
  f329 := Tryz.func214.trans (congrArg some (by kernel_rfl))
  f330 := Tryz.func215.trans (congrArg some (by kernel_rfl))
  f331 := Tryz.func216.trans (congrArg some (by kernel_rfl))
  f332 := Tryz.func217.trans (congrArg some (by kernel_rfl))
  f343 := Tryz.func221.trans (congrArg some (by kernel_rfl))
  t0 := Tryz.underlying0
  a0 := Tryz.isAgg0
  z0 := Tryz.sizeOf0
  v0 := Tryz.zeroValue0
  t3 := Tryz.underlying3
  a3 := Tryz.isAgg3
  z3 := Tryz.sizeOf3
  v3 := Tryz.zeroValue3
  t4 := Tryz.underlying4
  a4 := Tryz.isAgg4
  z4 := Tryz.sizeOf4
  v4 := Tryz.zeroValue4
  t5 := Tryz.underlying5
  a5 := Tryz.isAgg5
  z5 := Tryz.sizeOf5
  v5 := Tryz.zeroValue5
  t9 := Tryz.underlying9
  a9 := Tryz.isAgg9
  z9 := Tryz.sizeOf9
  v9 := Tryz.zeroValue9
  t28 := Tryz.underlying22
  a28 := Tryz.isAgg22
  z28 := Tryz.sizeOf22
  v28 := Tryz.zeroValue22
  t46 := Tryz.underlying190
  a46 := Tryz.isAgg190
  z46 := Tryz.sizeOf190
  v46 := Tryz.zeroValue190
  t51 := Tryz.underlying72
  a51 := Tryz.isAgg72
  z51 := Tryz.sizeOf72
  v51 := Tryz.zeroValue72
  t53 := Tryz.underlying225
  a53 := Tryz.isAgg225
  z53 := Tryz.sizeOf225
  v53 := Tryz.zeroValue225
  t131 := Tryz.underlying221
  a131 := Tryz.isAgg221
  z131 := Tryz.sizeOf221
  v131 := Tryz.zeroValue221
  t182 := Tryz.underlying216
  a182 := Tryz.isAgg216
  z182 := Tryz.sizeOf216
  v182 := Tryz.zeroValue216
  t183 := Tryz.underlying217
  a183 := Tryz.isAgg217
  z183 := Tryz.sizeOf217
  v183 := Tryz.zeroValue217
  t218 := Tryz.underlying230
  a218 := Tryz.isAgg230
  z218 := Tryz.sizeOf230
  v218 := Tryz.zeroValue230
  t222 := Tryz.underlying234
  a222 := Tryz.isAgg234
  z222 := Tryz.sizeOf234
  v222 := Tryz.zeroValue234
  t228 := Tryz.underlying236
  a228 := Tryz.isAgg236
  z228 := Tryz.sizeOf236
  v228 := Tryz.zeroValue236
  t229 := Tryz.underlying237
  a229 := Tryz.isAgg237
  z229 := Tryz.sizeOf237
  v229 := Tryz.zeroValue237 }
end

/- The walks of slices.Values, AppendSeq, Collect at []int. -/
section
open Go.RowKit Go.Shelf

attribute [local go_sem] Oper.semAt_some

theorem take_nth (l : List Int) {k : Nat} (h : k < l.length) : l.take (k + 1) = l.take k ++ [nth l k] := by
  rw [List.take_succ_eq_append_getElem h, nth_getElem h]

set_option maxRecDepth 100000 in
set_option maxHeartbeats 2000000 in
/-- the iterator of slices.Values -/
theorem iterVals1_in (F : Fence) (n : Nat) (hF : F.fn 160) (hro : F.round = none) (hn : 1 ≤ n) (l Bs n₀ : Nat) (a : Option Addr) (len cap : Nat) (zs : List Int) (hreach : len * 8 ≤ 140737488351232) (J Jx : List Int → World → Prop)
    (hY : ∀ pre x W, J pre W → pre.length < len → YieldAt F (n - 1) Tryz.prog l #[.int .i64 x] W fun e W' =>
      (e = .returned (.bool true) ∧ J (pre ++ [x]) W' ∧ Below n₀ W W') ∨ (e = .returned (.bool false) ∧ Jx (pre ++ [x]) W'))
    (W : World) (hBs : W.cell? ⟨Bs, 0, none⟩ = some (.slice a len cap)) (hc : Ints W a len zs) (hb : 0 < len → ablk a < n₀) (h0 : J [] W) :
    CallsIn F n Tryz.prog 160 #[.func (.yield l) #[] #[], .pointer (some ⟨Bs, 0, none⟩)] W fun e W' => (∃ v, e = .returned v) ∧
      ((∃ ys, ys = zs ∧ J ys W') ∨ (∃ pre, (∃ k, k ≤ len ∧ pre = zs.take k) ∧ Jx pre W')) := by
  have hpl := hc.pl
  have Hlen := Lib.hid hc.len
  refine callsIn_of_wp Tryz.func160 rfl hF ?_ hro
  simp only [Tryz.ntmps160, List.size_toArray, List.length_cons, List.length_nil, Nat.reduceAdd, Nat.reduceSub, Array.replicate_succ, Array.replicate_zero, List.push_toArray, List.append_toArray, List.nil_append, List.cons_append]
  gi_wp2
  gi_loopw [7] (fun i wr => ∃ k : Nat, k ≤ len ∧ i = .int .i64 k ∧ J (zs.take k) wr ∧ Below n₀ W wr)
    (fun i _ => len - (intOf i).toNat)
  case atStart => exact ⟨0, Nat.zero_le _, rfl, h0, Below.refl _ _⟩
  case round =>
    obtain ⟨k, hk, rfl, hJs, hnx⟩ := hrel
    by_cases hlt : k < len
    · have hcx := (hc.below hnx hb).cell k hlt
      have htk := take_nth zs (k := k) (by rw [Hlen.out]; exact hlt)
      have Htk := Lib.hid htk
      obtain ⟨fn, tmps, assign, body, hy, hR⟩ := hY _ (nth zs k) wr hJs (by rw [List.length_take, Hlen.out]; omega)
      rw [← htk] at hR
      clear htk
      gi_wp2
      refine hR.mono ?_
      rintro e W3 (⟨rfl, hJ3, hk3⟩ | ⟨rfl, hJx3⟩)
      · gi_wp2
        go_roundw
        case rel => exact ⟨k + 1, by omega, by simp, hJ3, hnx.trans hk3⟩
        case measure => simp [intOf]; omega
      · gi_wp2
        refine bodyPost_ret (results_none rfl _ _ _) rfl ?_
        exact ⟨⟨_, rfl⟩, .inr ⟨_, ⟨k + 1, by omega, rfl⟩, hJx3⟩⟩
    · obtain rfl : k = len := by omega
      rw [List.take_of_length_le (by rw [Hlen.out]; exact Nat.le_refl _)] at hJs
      gi_wp2
      go_end0
      exact ⟨⟨_, rfl⟩, .inl ⟨_, rfl, hJs⟩⟩

set_option maxHeartbeats 1000000 in
/-- slices.Values: the slice is boxed; the function value captures the box -/
theorem iterVals_in (F : Fence) (n : Nat) (hF : F.fn 110) (hro : F.round = none) (a : Option Addr) (len cap : Nat) (w : World) :
    CallsIn F n Tryz.prog 110 #[.slice a len cap] w fun e w' => e = .returned (.func (.func 160) #[] #[.pointer (some ⟨w.heap.size, 0, none⟩)]) ∧ w' = w.alloc (.cells #[.slice a len cap] 22) := by
  refine callsIn_of_wp Tryz.func110 rfl hF ?_ hro
  simp only [Tryz.ntmps110, List.size_toArray, List.length_cons, List.length_nil, Nat.reduceAdd, Nat.reduceSub, Array.replicate_succ, Array.replicate_zero, List.push_toArray, List.append_toArray, List.nil_append, List.cons_append]
  gi_wp2
  go_ret
  exact ⟨rfl, rfl⟩

/-- it hands back all of the slice's numbers, in their order, or a beginning of them -/
theorem iterVals_stops (F : Fence) (n : Nat) (hF : F.fn 160) (hro : F.round = none) (hn : 1 ≤ n) (Bs n₀ : Nat) (a : Option Addr) (len cap : Nat) (zs : List Int) (hreach : len * 8 ≤ 140737488351232) (w : World) (hBs : Bs < w.heap.size) (hn₀ : n₀ ≤ w.heap.size)
    (hc : w.cell? ⟨Bs, 0, none⟩ = some (.slice a len cap)) (hI : Ints w a len zs) (hb : 0 < len → ablk a < n₀) :
    SeqStopsK F n Tryz.prog 160 #[.pointer (some ⟨Bs, 0, none⟩)] (fun x : Int => #[Value.int .i64 x]) (Below n₀) (fun ys => ys = zs) (fun pre => pre <+: zs) len w := fun l J Jx W hW _ _ hY h0 => by
  have hc' := (hW.cell (p := ⟨Bs, 0, none⟩) hBs).trans hc
  refine (iterVals1_in F n hF hro hn l Bs n₀ a len cap zs hreach J Jx hY W hc' (hI.below (hW.mono hn₀) hb) hb h0).mono ?_
  rintro e W' ⟨he, ⟨ys, rfl, hj⟩ | ⟨pre, ⟨k, hk, rfl⟩, hj⟩⟩
  · exact ⟨he, .inl ⟨_, rfl, hj⟩⟩
  · exact ⟨he, .inr ⟨_, List.take_prefix _ _, hj⟩⟩

set_option maxRecDepth 100000 in
set_option maxHeartbeats 2000000 in
/-- slices.AppendSeq onto nil, over the numbers of a slice -/
theorem appendSeq_in (F : Fence) (n : Nat) (hA : F.fn 190) (hV : F.fn 160) (hro : F.round = none) (hn : 3 ≤ n) (Bs : Nat) (a : Option Addr) (len cap : Nat) (zs : List Int) (hlen : len ≤ 1000000) (w : World) (hBs : Bs < w.heap.size)
    (hc : w.cell? ⟨Bs, 0, none⟩ = some (.slice a len cap)) (hI : Ints w a len zs) :
    CallsIn F n Tryz.prog 190 #[.slice none 0 0, .func (.func 160) #[] #[.pointer (some ⟨Bs, 0, none⟩)]] w fun e W' =>
      ∃ v, e = .returned v ∧ W'.ownsRow w.heap.size 3 1 v len (zs.map (Value.int .i64)) ∧ Below w.heap.size w W' := by
  have h1 : 1 ≤ n := by omega
  have Hlen := Lib.hid hI.len
  obtain ⟨i0, hi, hz0, hz1, hz2⟩ := info_parts infoInt
  refine callsIn_of_wp_marks Tryz.func190 rfl hA ?_ hro
  simp only [Tryz.ntmps190, List.size_toArray, List.length_cons, List.length_nil, Nat.reduceAdd, Nat.reduceSub, Array.replicate_succ, Array.replicate_zero, List.push_toArray, List.append_toArray, List.nil_append, List.cons_append]
  gi_wp2
  have bO := Boxed.new w 22 (.slice none 0 0)
  have hB0 : Below w.heap.size w (w.alloc (.cells #[.slice none 0 0] 22)) := (Below.refl _ w).alloc (Nat.le_refl _) _
  refine wpIn_rangeFunc_ownG hro h1 (gf := 160) (lb := #[.pointer (some ⟨Bs, 0, none⟩)]) rfl hV (enters_of Tryz.func160 (by kernel_rfl) rfl)
    (iterVals_stops F (n - 1) hV hro (by omega) Bs w.heap.size a len cap zs (by omega) w hBs (Nat.le_refl _) hc hI (fun h => hI.lt h)) belowK_t (belowK_b (by simp)) hB0 (fun _ => rfl)
    (fun pre W => (∃ v, Boxed W w.heap.size 22 v ∧ W.ownsRow w.heap.size 3 1 v pre.length (pre.map (Value.int .i64)) ∧ True) ∧ Below w.heap.size w W)
    (fun _ _ _ => False)
    (OwnFrom.and (Own.from (holdsRow_own w.heap.size w.heap.size 22 3 1 (fun pre : List Int => pre.length) (fun pre => pre.map (Value.int .i64)) (fun _ _ => True)) _) (ownFrom_below (Nat.le_refl _) (by simp)))
    (fun _ _ _ _ _ hs _ _ => hs)
    ⟨⟨_, bO, World.ownsRow_nil _ _ _ _, trivial⟩, hB0⟩
    (fun x => { tmps := #[.slice none 0 0, .func (.func 160) #[] #[.pointer (some ⟨Bs, 0, none⟩)], .pointer (some ⟨w.heap.size, 0, none⟩), undef, .slice none 0 0, .int .i64 x, .func (.func 160) #[] #[.pointer (some ⟨Bs, 0, none⟩)], .int .i64 x, undef, undef, undef, undef, undef], defers := [] }) ?assign ?body ?done ?stop
  case assign =>
    intro l x W K hK
    gi_wp2
    exact hK
  case body =>
    rintro l pre x W ⟨⟨v, hv, hrow, _⟩, hB⟩ hlt
    have hcv := hv.cell
    gi_wp2_with (gi_at_builtin; refine wpListIn_append_own _ rfl _ _ 22 rfl w.heap.size 3 i0 (.int .i64 0) 1 8 Tryz.underlying22 hi hz0 hz1 hz2 rfl (by decide) _ _ _ rfl (hrow.alloc _) ⟨W.heap.size, 0, none⟩ 1 1 [.int .i64 x] rfl rfl (cell_one_new _ _ _) (by simp [Value.oneCell']) (by unfold maxLen; omega) (by omega) (by have := hB.size; simp; omega) ?_; intro v' w1 hown' hgrow _; obtain ⟨g', cap', rfl⟩ := ownsRow_succ hown'; obtain ⟨hv1, hv2, hr2, hk2, hb2⟩ := hv.appended (by decide) hrow hB.size (Nat.le_refl _) hown' hgrow; have hc1 := hv1.cell; have hf1 := hv1.frozen)
    exact ⟨hk2.from _, hb2, ⟨_, hv2, by simpa using hr2, trivial⟩, hB.trans hb2⟩
  case done =>
    rintro D ys W hD rfl ⟨⟨v, hv, hrow, _⟩, hB⟩ hK
    have hcv := hv.cell
    gi_wp2
    refine ⟨by simp, .inl ⟨_, _, rfl, run_takeDeferred hK, ?_⟩⟩
    exact ⟨_, results_tmp rfl _ _ _, v, rfl, by have := ownsRow_putObj hrow (.deferred none) hK rfl; rw [Hlen.out] at this; exact this, hB.trans (belowK_b (w := w) (Nat.le_refl _) W D _ _ (by simp at hD; omega) hK rfl rfl)⟩
  case stop =>
    rintro D c pre W _ _ h _
    exact h.elim

set_option maxRecDepth 100000 in
set_option maxHeartbeats 2000000 in
/-- slices.Collect over the numbers of a slice -/
theorem collect_in (F : Fence) (n : Nat) (hC : F.fn 159) (hA : F.fn 190) (hV : F.fn 160) (hro : F.round = none) (hn : 4 ≤ n) (Bs : Nat) (a : Option Addr) (len cap : Nat) (zs : List Int) (hlen : len ≤ 1000000) (w : World) (hBs : Bs < w.heap.size)
    (hc : w.cell? ⟨Bs, 0, none⟩ = some (.slice a len cap)) (hI : Ints w a len zs) :
    CallsIn F n Tryz.prog 159 #[.func (.func 160) #[] #[.pointer (some ⟨Bs, 0, none⟩)]] w fun e W' =>
      ∃ v, e = .returned v ∧ W'.ownsRow w.heap.size 3 1 v len (zs.map (Value.int .i64)) ∧ Below w.heap.size w W' := by
  refine callsIn_of_wp Tryz.func159 rfl hC ?_ hro
  simp only [Tryz.ntmps159, List.size_toArray, List.length_cons, List.length_nil, Nat.reduceAdd, Nat.reduceSub, Array.replicate_succ, Array.replicate_zero, List.push_toArray, List.append_toArray, List.nil_append, List.cons_append]
  gi_wp2
  refine ⟨fun _ => by omega, ?_⟩
  refine (appendSeq_in F (n - 1) hA hV hro (by omega) Bs a len cap zs hlen _ hBs hc hI).mono ?_
  rintro e W' ⟨v, rfl, hown, hb⟩
  gi_wp2
  go_ret
  exact ⟨v, rfl, hown, hb⟩

theorem values_any (a : Option Addr) (len cap : Nat) (w : World) :
    Calls Tryz.prog 110 #[.slice a len cap] w fun e w' => e = .returned (.func (.func 160) #[] #[.pointer (some ⟨w.heap.size, 0, none⟩)]) ∧ w' = w.alloc (.cells #[.slice a len cap] 22) :=
  callsIn_wide.1 (iterVals_in Fence.wide 8 trivial rfl a len cap w)
theorem collect_any (Bs : Nat) (a : Option Addr) (len cap : Nat) (zs : List Int) (hlen : len ≤ 1000000) (w : World) (hBs : Bs < w.heap.size) (hc : w.cell? ⟨Bs, 0, none⟩ = some (.slice a len cap)) (hI : Ints w a len zs) :
    Calls Tryz.prog 159 #[.func (.func 160) #[] #[.pointer (some ⟨Bs, 0, none⟩)]] w fun e W' =>
      ∃ v, e = .returned v ∧ W'.ownsRow w.heap.size 3 1 v len (zs.map (Value.int .i64)) ∧ Below w.heap.size w W' :=
  callsIn_wide.1 (collect_in Fence.wide 8 trivial trivial trivial rfl (by omega) Bs a len cap zs hlen w hBs hc hI)
end

/- The walks of slices.Sort, Sorted at []int. -/
section
open Go.RowKit Go.Shelf Go.Sort

set_option maxHeartbeats 1000000 in
theorem insSort0_any (a : Option Addr) (c : Nat) (w : World) : Calls Tryz.prog 191 #[.slice a 0 c, .int .i64 0, .int .i64 0] w fun e w' => e = .returned (.tuple #[]) ∧ w' = w := by
  go_enter Tryz.func191, Tryz.ntmps191
  go_wp2_with fail
  refine wp_loop_rounds 1 ?_
  rw [rounds_succ]
  go_wp2_with fail
  go_end0
  exact ⟨rfl, rfl⟩

set_option maxHeartbeats 2000000 in
set_option maxRecDepth 100000 in
theorem pdq0_any (a : Option Addr) (c : Nat) (w : World) : Calls Tryz.prog 161 #[.slice a 0 c, .int .i64 0, .int .i64 0, .int .i64 0] w fun e w' => e = .returned (.tuple #[]) ∧ w' = w := by
  go_enter Tryz.func161, Tryz.ntmps161
  go_wp2_with fail
  refine wp_loop_rounds 1 ?_
  rw [rounds_succ]
  go_wp2_with fail
  refine (insSort0_any a c w).mono ?_
  rintro e w' ⟨rfl, rfl⟩
  go_wp2_with fail
  (try simp only [Exit.inBlock, Exit.then]); refine bodyPost_ret (results_none rfl _ _ _) rfl ?_
  exact ⟨rfl, rfl⟩

theorem bitsLen0_any (w : World) : Calls Tryz.prog 162 #[.int .u64 0] w fun e w' => e = .returned (.int .i64 0) ∧ w' = w :=
  calls_of_every_depth fun D => AnyS.bits_LenIn { layS with } D 0 w (by omega) (by omega)

set_option maxHeartbeats 2000000 in
theorem sort0_any (a : Option Addr) (c : Nat) (w : World) : Calls Tryz.prog 111 #[.slice a 0 c] w fun e w' => e = .returned (.tuple #[]) ∧ w' = w := by
  go_enter Tryz.func111, Tryz.ntmps111
  go_wp2_with fail
  refine (bitsLen0_any w).mono ?_
  rintro e w' ⟨rfl, rfl⟩
  go_wp2_with fail
  refine (pdq0_any a c w').mono ?_
  rintro e w' ⟨rfl, rfl⟩
  go_wp2_with fail
  go_end0
  exact ⟨rfl, rfl⟩

/-- slices.Sort of a slice of the call's own -/
theorem sort_any (B : Nat) (a : Option Addr) (n c : Nat) (l : List Int) (w : World) (hown : w.ownsRow B 3 1 (.slice a n c) n (l.map (Value.int .i64))) (hB : B ≤ w.heap.size) (hn : n ≤ 1000000) :
    Calls Tryz.prog 111 #[.slice a n c] w fun e w' => e = .returned (.tuple #[]) ∧ w'.ownsRow B 3 1 (.slice a n c) n ((sortL l).map (Value.int .i64)) ∧ w.grownBy w' (Value.slice a n c).ownBlock ∧ Below B w w' := by
  have hl : l.length = n := by simpa using own_len hown
  have hown' := hown
  rcases hown.2 with ⟨hv, hz⟩ | ⟨g, cap, cur, hv, hbase, hb, h1, h2, h3, h4⟩
  · cases hv
    have hl0 : l = [] := List.eq_nil_of_length_eq_zero hl
    subst hl0
    refine (sort0_any none 0 w).mono ?_
    rintro e w' ⟨rfl, rfl⟩
    exact ⟨rfl, by simpa [sortL] using hown', ⟨rfl, rfl, rfl, Nat.le_refl _, fun k _ _ => rfl⟩, Below.refl _ _⟩
  · cases hv
    subst hl
    have hH := holds_of_blockI (ss := l) hb (by simpa using h4)
    have hgl : g < w.heap.size := (Array.getElem?_eq_some_iff.1 hb).1
    refine (Any.slices_Sort_int layS g 0 c l w hH hgl (by omega)).mono ?_
    rintro e w' ⟨rfl, nn, os, rfl⟩
    have hgr := grownBy_sortedI (w := w) (g := g) (n := nn) (os := os) (l.mergeSort fun x y => decide (x ≤ y)).toArray
    exact ⟨rfl, ownsRow_sortedI (by simp) hbase hb h1 h2 h3, hgr, (Below.refl B w).grown hgr hB (fun j hj => by cases hj; exact hbase)⟩

set_option maxHeartbeats 2000000 in
set_option maxRecDepth 100000 in
/-- slices.Sorted over the numbers of a slice -/
theorem sorted_any (Bs : Nat) (a : Option Addr) (len cap : Nat) (zs : List Int) (hlen : len ≤ 1000000) (w : World) (hBs : Bs < w.heap.size) (hc : w.cell? ⟨Bs, 0, none⟩ = some (.slice a len cap)) (hI : Ints w a len zs) :
    Calls Tryz.prog 109 #[.func (.func 160) #[] #[.pointer (some ⟨Bs, 0, none⟩)]] w fun e W' =>
      ∃ a2 c2, e = .returned (.slice a2 len c2) ∧ W'.ownsRow w.heap.size 3 1 (.slice a2 len c2) len ((sortL zs).map (Value.int .i64)) ∧ Below w.heap.size w W' := by
  go_enter Tryz.func109, Tryz.ntmps109
  go_wp2_with fail
  refine (collect_any Bs a len cap zs hlen w hBs hc hI).mono ?_
  rintro e w1 ⟨v, rfl, hown, hb⟩
  obtain ⟨a2, c2, rfl, _⟩ := Pl.own hown
  have HS := Lib.hid (sort_any w.heap.size a2 len c2 zs w1 hown hb.size hlen)
  clear hown
  go_wp2_with fail
  refine HS.out.mono ?_
  rintro e w2 ⟨rfl, hown2, _, hb2⟩
  go_wp2_with fail
  go_ret
  exact ⟨a2, c2, rfl, hown2, hb.trans hb2⟩
end

/- A matrix that is put together row by row, behind a box. -/
section
open Go.RowKit

theorem OMat.setOther {w : World} {B : Nat} {a : Option Addr} {n c : Nat} {R : List (Option Addr × Nat)} {L : List (List Int)} (h : OMat w B a n c R L) {p : Addr} (hp : p.block < B) (v : Value) : OMat (w.setCell p v) B a n c R L :=
  h.of_blocks fun b hb => Below.heap_setCell _ _ _ _ (by have := (h.lt b hb).1; omega)

/-- a box of two cells, the second a matrix whose blocks are behind the box -/
structure MOut (w : World) (g : Nat) (x : Value) (a : Option Addr) (k c : Nat) (R : List (Option Addr × Nat)) (L : List (List Int)) : Prop where
  lt : g < w.heap.size
  c0 : w.cell? ⟨g, 0, none⟩ = some x
  c1 : w.cell? ⟨g, 1, none⟩ = some (.slice a k c)
  fr : ∀ i, w.frozen? ⟨g, i, none⟩ = false
  om : OMat w (g + 1) a k c R L
namespace MOut
variable {w w' w4 w5 : World} {g : Nat} {x : Value} {a : Option Addr} {k c : Nat} {R : List (Option Addr × Nat)} {L : List (List Int)}
theorem keep (h : MOut w g x a k c R L) (hb : Below w.heap.size w w') : MOut w' g x a k c R L :=
  ⟨Nat.lt_of_lt_of_le h.lt hb.size, cell_keep hb h.c0, cell_keep hb h.c1, fun i => frozen_keep hb h.lt (h.fr i), h.om.keep hb⟩
theorem apt (h : MOut w g x a k c R L) : Apt a g := by
  by_cases ha : a = none
  · exact .inl ha
  · exact .inr fun e => by have := (own_ne h.om.own ha).1; omega
theorem pushed {o : Obj} (h : MOut w4 g x a k c R L) (hgr5 : (w4.alloc o).grownBy w5 (Value.slice a k c).ownBlock) : w5.cell? ⟨g, 0, none⟩ = some x ∧ w5.cell? ⟨g, 1, none⟩ = some (.slice a k c) ∧ w5.frozen? ⟨g, 1, none⟩ = false := by
  have hb1 := below1 w4 o
  have hlt := h.lt
  have hs1 := hb1.size
  exact ⟨cell_grownApt hgr5 (cell_box h.c0 o) h.apt, cell_grownApt hgr5 (cell_box h.c1 o) h.apt,
    (World.frozen?_of_block (w := w4.alloc o) (a := ⟨g, 1, none⟩) (hgr5.block g (by omega) fun e => h.apt.own k c e.symm)).trans (frozen_box h.lt (h.fr 1) _)⟩
theorem push {a4 a5 : Option Addr} {n4 c4 c5 : Nat} {N : List Int} {o : Obj} (h : MOut w4 g x a k c R L) (hn4 : N.length = n4)
    (hown4 : w4.ownsRow (g + 1) 3 1 (.slice a4 n4 c4) n4 (N.map (Value.int .i64))) (hra : a4 ≠ none → ¬ OIn a R (ablk a4))
    (hown5 : w5.ownsRow (g + 1) 22 1 (.slice a5 (k + 1) c5) (k + 1) (List.zipWith rowV R L ++ [.slice a4 n4 c4])) (hgr5 : (w4.alloc o).grownBy w5 (Value.slice a k c).ownBlock)
    (hap5 : ∀ x, x < (w4.alloc o).heap.size → Apt a x → Apt a5 x) :
    MOut (w5.setCell ⟨g, 1, none⟩ (.slice a5 (k + 1) c5)) g x a5 (k + 1) c5 (R ++ [(a4, c4)]) (L ++ [N]) ∧ Below g w4 (w5.setCell ⟨g, 1, none⟩ (.slice a5 (k + 1) c5)) := by
  subst hn4
  have hb1 := below1 w4 o
  have hO := h.om.keep hb1
  have hr := own_keep hown4 hb1
  have hP := OMat.push hO hr hra hown5 hgr5 hap5
  have hlt := h.lt
  have hs1 := hb1.size
  have hB5 : Below (g + 1) w4 w5 := Below.app (hb1.mono (by omega)) hO.own hgr5 (Nat.le_refl _) (by omega)
  have hs := hB5.size
  have k0 := cell_grownApt hgr5 (cell_box h.c0 o) h.apt
  have k1 := cell_grownApt hgr5 (cell_box h.c1 o) h.apt
  refine ⟨⟨by simp; omega, ?_, World.cell?_setCell_same _ _ _ k1, fun i => ?_, hP.setOther (by simp) _⟩, (hB5.mono (by omega)).setCell (by simp) _⟩
  · rw [World.cell?_setCell_other _ _ _ _ (by simp)]; exact k0
  · rw [World.frozen?_setCell]
    exact (World.frozen?_of_block (w := w4.alloc o) (a := ⟨g, i, none⟩) (hgr5.block g (by omega) fun e => h.apt.own k c e.symm)).trans (frozen_box h.lt (h.fr i) _)
theorem start {U : World} {g : Nat} {x : Value} (hU : Box U g [x, .slice none 0 0]) : MOut U g x none 0 0 [] [] :=
  ⟨hU.1, hU.cell 0 rfl, hU.cell 1 rfl, hU.frozen, OMat.empty _ _⟩
end MOut

theorem Box.two (w : World) (x0 y0 x y : Value) (e : TypeId) : Box (((w.alloc (.cells #[x0, y0] e)).setCell ⟨w.heap.size, 0, none⟩ x).setCell ⟨w.heap.size, 1, none⟩ y) w.heap.size [x, y] := by
  have h : Box (w.alloc (.cells #[x0, y0] e)) w.heap.size [x0, y0] := Box.new w [x0, y0] e rfl
  have k0 := h.cell 0 rfl
  have k1 := h.cell 1 rfl
  refine ⟨by simp, fun i v hv => ?_, fun i => by rw [World.frozen?_setCell, World.frozen?_setCell]; exact h.frozen i⟩
  match i, hv with
  | 0, hv =>
    obtain rfl : x = v := by simpa using hv
    rw [World.cell?_setCell_other _ _ _ _ (by simp)]
    exact World.cell?_setCell_same _ _ _ k0
  | 1, hv =>
    obtain rfl : y = v := by simpa using hv
    exact World.cell?_setCell_same _ _ _ (by rw [World.cell?_setCell_other _ _ _ _ (by simp)]; exact k1)
  | i + 2, hv => simp at hv
end

/- The walk of modify.Permute. -/
section
open Go.RowKit
end

/- The walks of ordering.ordered, codewrightref48.IsOrder. -/
section
open Go.RowKit
end

/- Bounds (plain law). -/
section

end

/- The walks of ordering.width, ordering.Width, codewrightref48.Order, Width. -/
section
open Go.RowKit

theorem max_if (t d : Int) : (if t < d then d else t) = max t d := by split <;> omega

theorem InN.take {n : Nat} {Q : List Int} (h : InN n Q) {i : Nat} (hi : i ≤ Q.length) : InN n (Q.take i) := fun j hj => by
  rw [List.length_take] at hj
  have e : nth (Q.take i) j = nth Q j := by unfold nth; simp only [List.getD_eq_getElem?_getD, List.getElem?_take]; rw [if_pos (by omega)]
  rw [e]; exact h j (by omega)
end

/- The walk of ordering.Reorder. -/
section
open Go.RowKit

theorem fmatE_mk {P M : Int} {mod : List Int} {m : Nat} {D : List (List Int)} (hfB : fieldB P M mod = true) (hm : m ≤ 256) (hD : D.length ≤ 256) (hR : Rws (tblOf P M.toNat mod).El m D) : fmatE P M mod m D = 0 := by
  unfold fmatE
  rw [if_pos hfB]
  unfold matE
  rw [if_neg (by omega)]
  have hsh : shapeQ (m : Int) D = true := by
    unfold shapeQ
    rw [List.all_eq_true]
    intro r hr
    have := (hR r hr).1
    simp; omega
  rw [if_neg (by rw [hsh]; decide), if_pos]
  rw [List.all_eq_true]
  intro r hr
  unfold elsQ isQ
  rw [List.all_eq_true]
  intro x hx
  have := (hR r hr).2 x hx
  unfold Tbl.El at this
  simp
  exact this
end

end Go.Proofs.YtapjcccpokhhhaaGreat
